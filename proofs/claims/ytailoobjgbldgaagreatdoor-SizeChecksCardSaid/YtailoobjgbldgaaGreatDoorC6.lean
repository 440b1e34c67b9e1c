/- Part 6 of the proof: functions' contracts and what they lean on. -/
import Derived.Test.YtailoobjgbldgaaGreatDoorC5
import Derived.Lib.AtoiErrMem
section
namespace Go.Proofs.YtailoobjgbldgaaGreatDoor.P
set_option linter.unusedVariables false
set_option linter.unusedSimpArgs false
open Go Go.RowKit Go.Proofs.YtailoobjgbldgaaGreatDoorW.PrintWords Go.Proofs.YtailoobjgbldgaaGreatDoorW.PrintLast Go.Proofs.YtailoobjgbldgaaGreatDoorW.PrintMore
def dCanonical.f (a : ByteArray) : Option Bool := if a.size ≤ 1000000000 then some (canonN a.data.toList) else none
set_option maxRecDepth 100000 in
set_option maxHeartbeats 2000000 in
theorem dCanonical.calls (a0 : ByteArray) (r : Bool) (w : World) (h : dCanonical.f a0 = some r) :
    Calls Tryz.prog 117 #[.string a0] w fun e w' => e = .returned (.bool r) ∧ Below w.heap.size w w' := by
  unfold dCanonical.f at h
  by_cases hsz : a0.size ≤ 1000000000
  case neg => rw [if_neg hsz] at h; cases h
  rw [if_pos hsz] at h
  injection h with h
  have hcv := Lib.run_convert_string_bytes (P := Tryz.prog) w 28 142 5 a0 (u := .string) Tryz.underlying28 Tryz.underlying142 Tryz.underlying5
  have hB : ∀ j, j < a0.size → (Lib.bytesWorld w 5 a0).cell? ⟨w.heap.size, j, none⟩ = some (.int .u8 (a0.data.toList.getD j 0).toNat) := fun j hj => Lib.bytesWorld_cell w 5 a0 j hj
  have hb0 := Lib.bytesWorld_below w 5 a0
  obtain ⟨l, hL⟩ : ∃ l, l = a0.data.toList := ⟨_, rfl⟩
  have hLn : l.length = a0.size := by rw [hL, Lib.size_eq]
  obtain ⟨T, hT⟩ : ∃ T, T = (l.length == 1 || (decide (1 < l.length) && l.head? != some 48)) := ⟨_, rfl⟩
  have hr : (l.all isDig && T) = r := by rw [hT, ← h, hL]; rfl
  rw [← hL] at hB
  obtain ⟨W1, hW1⟩ : ∃ W1, W1 = Lib.bytesWorld w 5 a0 := ⟨_, rfl⟩
  rw [← hW1] at hcv hB hb0
  clear hW1
  go_enter Tryz.func117, Tryz.ntmps117
  go_wp2
  go_loopw [8] (fun i wr => ∃ j : Nat, j ≤ l.length ∧ i = .int .i64 j ∧ ((l.drop j).all isDig && T) = r ∧ wr = W1)
    (fun i _ => l.length - (intOf i).toNat)
  case atStart => exact ⟨0, Nat.zero_le _, rfl, hr, rfl⟩
  case round =>
    obtain ⟨j, hj, rfl, ha, rfl⟩ := hrel
    by_cases hlt : j < a0.size
    · have hc := hB j hlt
      have hjl : j < a0.data.toList.length := by rw [← hL, hLn]; exact hlt
      rw [hL, List.drop_eq_getElem_cons hjl, List.all_cons] at ha
      have hg : a0.data.toList[j] = a0.data[j] := by simp
      rw [hg] at ha
      go_wp2
      · have hd : isDig a0.data[j] = false := by rw [Bool.eq_false_iff]; intro h; rw [isDig_iff] at h; omega
        rw [hd] at ha
        obtain rfl : false = r := by simpa using ha
        go_ret
        exact ⟨rfl, hb0⟩
      · have hd : isDig a0.data[j] = true := by rw [isDig_iff]; omega
        rw [hd, Bool.true_and, ← hL] at ha
        go_roundw
        case rel => exact ⟨j + 1, by omega, by simp [wrap64] <;> omega, ha, by trivial⟩
        case measure => simp [intOf, wrap64] <;> omega
      · have hd : isDig a0.data[j] = false := by rw [Bool.eq_false_iff]; intro h; rw [isDig_iff] at h; omega
        rw [hd] at ha
        obtain rfl : false = r := by simpa using ha
        go_ret
        exact ⟨rfl, hb0⟩
    · obtain rfl : j = l.length := by omega
      simp only [List.drop_length, List.all_nil, Bool.true_and] at ha
      go_wp2
      · have h1 : l.length = 1 := by omega
        rw [hT, h1] at ha
        obtain rfl : true = r := by simpa using ha
        go_ret
        exact ⟨rfl, hb0⟩
      · have h1 : 1 < l.length := by omega
        have hq : T = ((a0[0].toNat : Int) != 48) := by
          rw [hT]
          cases l with
          | nil => simp at h1
          | cons c cs =>
            have hc : a0[0] = c := by
              have : a0.data.toList[0]'(by rw [← hL]; simp) = c := by simp [← hL]
              show a0.data[0] = c
              simpa using this
            rw [hc]
            have e1 : ((c :: cs).length == 1) = false := by rw [beq_eq_false_iff_ne]; omega
            have e2 : decide (1 < (c :: cs).length) = true := decide_eq_true h1
            have h4 : ((c.toNat : Int) != 48) = (some c != some (48 : UInt8)) := by
              rw [Bool.eq_iff_iff]
              simp only [bne_iff_ne, ne_eq, Option.some.injEq]
              refine not_congr ⟨fun h => UInt8.toNat_inj.1 (by simpa using (by omega : c.toNat = 48)), fun h => by rw [h]; rfl⟩
            rw [h4, e1, e2]
            rfl
        rw [hq] at ha
        have he : ((a0.size : Int) == 1) = false := by rw [beq_eq_false_iff_ne]; omega
        go_ret
        exact ⟨by rw [he, Bool.false_or, ha]; rfl, hb0⟩
      · have h1 : l.length = 0 := by omega
        rw [hT, h1] at ha
        obtain rfl : false = r := by simpa using ha
        have he : ((a0.size : Int) == 1) = false := by rw [beq_eq_false_iff_ne]; omega
        go_ret
        exact ⟨by rw [he]; rfl, hb0⟩
end Go.Proofs.YtailoobjgbldgaaGreatDoor.P
end
section
namespace Go.Proofs.YtailoobjgbldgaaGreatDoor.P
open Go.RowKit Go.Proofs.YtailoobjgbldgaaGreatDoorW.PrintWords Go.Proofs.YtailoobjgbldgaaGreatDoorW.PrintLast Go.Proofs.YtailoobjgbldgaaGreatDoorW.PrintMore
attribute [local go_sem] max2_int min2_int max_two min_two max_three min_three max_four min_four   
set_option linter.unusedVariables false
set_option linter.unusedSimpArgs false
set_option maxHeartbeats 8000000
set_option maxRecDepth 100000
def decimal_Check.f (a0 : ByteArray) : Option (Int) := (dCanonical.f a0).bind fun t101 => (if t101 = true then (if (a0.size : Int) > 400 then (some 2) else (some 0)) else (some 2))
theorem decimal_Check.calls (a0 : ByteArray) (r : Int) (w : World) (h : decimal_Check.f a0 = some r) :
  Calls Tryz.prog 77 #[.string a0] w fun e w' => e = .returned (.int .i64 r) ∧ Below w.heap.size w w' := by
 have HB := am (Below.refl w.heap.size w)
 have H := h
 unfold decimal_Check.f at H
 clear h
 obtain ⟨t101, A2, H⟩ := bo H
 try dsimp only at H
 by_cases c3 : t101 = true
 ·subst c3
  rw [if_pos rfl] at H
  by_cases c4 : (a0.size : Int) > 400
  ·rw [if_pos c4] at H
   have c4b0 : decide (400 < (a0.size : Int)) = true := decide_eq_true c4
   have c4b1 : decide (400 < a0.size) = true := decide_eq_true (by omega)
   clear c4
   obtain rfl := Option.some.inj H
   go_enter Tryz.func77, Tryz.ntmps77
   go_wp2_with (first | ((with_reducible refine gc (f := 117) rfl ?_); refine goesM (some 4) Tryz.func117 #[.string a0] ?_; (with_reducible refine (dCanonical.calls a0 true _ A2.out).mono ?_); rintro e w5 ⟨rfl, hb⟩; refine ⟨_, rfl, ?_⟩; replace HB := bs HB hb; (try clear hb)))
   go_ret
   exact ⟨rl, bl HB⟩
  ·rw [if_neg c4] at H
   have c4b0 : decide (400 < (a0.size : Int)) = false := decide_eq_false c4
   have c4b1 : decide (400 < a0.size) = false := decide_eq_false (by omega)
   clear c4
   obtain rfl := Option.some.inj H
   go_enter Tryz.func77, Tryz.ntmps77
   go_wp2_with (first | ((with_reducible refine gc (f := 117) rfl ?_); refine goesM (some 4) Tryz.func117 #[.string a0] ?_; (with_reducible refine (dCanonical.calls a0 true _ A2.out).mono ?_); rintro e w6 ⟨rfl, hb⟩; refine ⟨_, rfl, ?_⟩; replace HB := bs HB hb; (try clear hb)))
   go_ret
   exact ⟨rl, bl HB⟩
 ·replace c3 := Bool.eq_false_iff.mpr c3
  subst c3
  rw [if_neg (show ¬ (false = true) by decide)] at H
  obtain rfl := Option.some.inj H
  go_enter Tryz.func77, Tryz.ntmps77
  go_wp2_with (first | ((with_reducible refine gc (f := 117) rfl ?_); refine goesM (some 4) Tryz.func117 #[.string a0] ?_; (with_reducible refine (dCanonical.calls a0 false _ A2.out).mono ?_); rintro e w7 ⟨rfl, hb⟩; refine ⟨_, rfl, ?_⟩; replace HB := bs HB hb; (try clear hb)))
  go_ret
  exact ⟨rl, bl HB⟩
def whole_Check.f (a0 : ByteArray) : Option (Int) := (whole_split.f a0).bind fun bt102 => (if bt102.1 = true then (if bt102.2.toList = ([48] : List UInt8) then (some 2) else ((decimal_Check.f bt102.2).bind fun t104 => (if t104 = 0 then (some 0) else (some 2)))) else ((decimal_Check.f bt102.2).bind fun t105 => (if t105 = 0 then (some 0) else (some 2))))
theorem whole_Check.calls (a0 : ByteArray) (r : Int) (w : World) (h : whole_Check.f a0 = some r) :
  Calls Tryz.prog 33 #[.string a0] w fun e w' => e = .returned (.int .i64 r) ∧ Below w.heap.size w w' := by
 have HB := am (Below.refl w.heap.size w)
 have H := h
 unfold whole_Check.f at H
 clear h
 obtain ⟨⟨t102, t103⟩, A2, H⟩ := bo H
 try dsimp only at H
 by_cases c3 : t102 = true
 ·subst c3
  rw [if_pos rfl] at H
  by_cases c4 : t103.toList = ([48] : List UInt8)
  ·rw [if_pos c4] at H
   have c4b0 := beq_iff_eq.mpr c4
   have c4b1 := bne_eq_false_iff_eq.mpr c4
   clear c4
   obtain rfl := Option.some.inj H
   go_enter Tryz.func33, Tryz.ntmps33
   go_wp2_with (first | ((with_reducible refine gc (f := 76) rfl ?_); refine goesM (some 7) Tryz.func76 #[.string a0] ?_; (with_reducible refine (whole_split.calls a0 true t103 _ A2.out).mono ?_); rintro e w' ⟨rfl, ⟨nd, rfl⟩⟩; refine ⟨_, rfl, ?_⟩))
   go_ret
   exact ⟨rl, bl HB⟩
  ·rw [if_neg c4] at H
   have c4b0 := beq_eq_false_iff_ne.mpr c4
   have c4b1 := bne_iff_ne.mpr c4
   obtain ⟨t104, A5, H⟩ := bo H
   try dsimp only at H
   by_cases c6 : t104 = 0
   ·rw [if_pos c6] at H
    have c6b0 := beq_iff_eq.mpr c6
    have c6b1 := bne_eq_false_iff_eq.mpr c6
    clear c6
    obtain rfl := Option.some.inj H
    go_enter Tryz.func33, Tryz.ntmps33
    go_wp2_with (first | ((with_reducible refine gc (f := 76) rfl ?_); refine goesM (some 7) Tryz.func76 #[.string a0] ?_; (with_reducible refine (whole_split.calls a0 true t103 _ A2.out).mono ?_); rintro e w' ⟨rfl, ⟨nd, rfl⟩⟩; refine ⟨_, rfl, ?_⟩) | (go_at_call 77; (with_reducible refine (decimal_Check.calls t103 t104 _ A5.out).mono ?_); rintro e w7 ⟨rfl, hb⟩; replace HB := bs HB hb; (try clear hb)))
    go_ret
    exact ⟨rl, bl HB⟩
   ·rw [if_neg c6] at H
    have c6b0 := beq_eq_false_iff_ne.mpr c6
    have c6b1 := bne_iff_ne.mpr c6
    obtain rfl := Option.some.inj H
    go_enter Tryz.func33, Tryz.ntmps33
    go_wp2_with (first | ((with_reducible refine gc (f := 76) rfl ?_); refine goesM (some 7) Tryz.func76 #[.string a0] ?_; (with_reducible refine (whole_split.calls a0 true t103 _ A2.out).mono ?_); rintro e w' ⟨rfl, ⟨nd, rfl⟩⟩; refine ⟨_, rfl, ?_⟩) | (go_at_call 77; (with_reducible refine (decimal_Check.calls t103 t104 _ A5.out).mono ?_); rintro e w8 ⟨rfl, hb⟩; replace HB := bs HB hb; (try clear hb)))
    go_ret
    exact ⟨rl, bl HB⟩
 ·replace c3 := Bool.eq_false_iff.mpr c3
  subst c3
  rw [if_neg (show ¬ (false = true) by decide)] at H
  obtain ⟨t105, A9, H⟩ := bo H
  try dsimp only at H
  by_cases c10 : t105 = 0
  ·rw [if_pos c10] at H
   have c10b0 := beq_iff_eq.mpr c10
   have c10b1 := bne_eq_false_iff_eq.mpr c10
   clear c10
   obtain rfl := Option.some.inj H
   go_enter Tryz.func33, Tryz.ntmps33
   go_wp2_with (first | ((with_reducible refine gc (f := 76) rfl ?_); refine goesM (some 7) Tryz.func76 #[.string a0] ?_; (with_reducible refine (whole_split.calls a0 false t103 _ A2.out).mono ?_); rintro e w' ⟨rfl, ⟨nd, rfl⟩⟩; refine ⟨_, rfl, ?_⟩) | (go_at_call 77; (with_reducible refine (decimal_Check.calls t103 t105 _ A9.out).mono ?_); rintro e w11 ⟨rfl, hb⟩; replace HB := bs HB hb; (try clear hb)))
   go_ret
   exact ⟨rl, bl HB⟩
  ·rw [if_neg c10] at H
   have c10b0 := beq_eq_false_iff_ne.mpr c10
   have c10b1 := bne_iff_ne.mpr c10
   obtain rfl := Option.some.inj H
   go_enter Tryz.func33, Tryz.ntmps33
   go_wp2_with (first | ((with_reducible refine gc (f := 76) rfl ?_); refine goesM (some 7) Tryz.func76 #[.string a0] ?_; (with_reducible refine (whole_split.calls a0 false t103 _ A2.out).mono ?_); rintro e w' ⟨rfl, ⟨nd, rfl⟩⟩; refine ⟨_, rfl, ?_⟩) | (go_at_call 77; (with_reducible refine (decimal_Check.calls t103 t105 _ A9.out).mono ?_); rintro e w12 ⟨rfl, hb⟩; replace HB := bs HB hb; (try clear hb)))
   go_ret
   exact ⟨rl, bl HB⟩
def whole_Sign.f (a0 : ByteArray) : Option (Int) := if a0.toList = ([48] : List UInt8) then (some 0) else (if 0 < (a0.size : Int) then (if (bt a0 0) = 45 then (some (-1)) else (some 1)) else (none))
theorem whole_Sign.calls (a0 : ByteArray) (r : Int) (w : World) (h : whole_Sign.f a0 = some r) :
  Calls Tryz.prog 54 #[.string a0] w fun e w' => e = .returned (.int .i64 r) ∧ Drawn0 w w' := by
 have H := h
 unfold whole_Sign.f at H
 clear h
 by_cases c2 : a0.toList = ([48] : List UInt8)
 ·rw [if_pos c2] at H
  have c2b0 := beq_iff_eq.mpr c2
  have c2b1 := bne_eq_false_iff_eq.mpr c2
  clear c2
  obtain rfl := Option.some.inj H
  go_enter Tryz.func54, Tryz.ntmps54
  go_wp2
  go_ret
  exact ⟨by first | rfl | (simp; done) | (simp [*]; done), by repeat (first | exact Drawn0.refl _ | apply Drawn0.step)⟩
 ·rw [if_neg c2] at H
  have c2b0 := beq_eq_false_iff_ne.mpr c2
  have c2b1 := bne_iff_ne.mpr c2
  by_cases c3 : 0 < (a0.size : Int)
  case neg => rw [if_neg c3] at H; cases H
  rw [if_pos c3] at H
  have c3b0 := decide_eq_true c3
  have c3b1 : decide (0 < a0.size) = true := decide_eq_true (by omega)
  clear c3
  by_cases c5 : (bt a0 0) = 45
  ·rw [if_pos c5] at H
   have c5b0 := beq_iff_eq.mpr c5
   have c5b1 := bne_eq_false_iff_eq.mpr c5
   clear c5
   obtain rfl := Option.some.inj H
   have p4 : 0 ≤ (0 : Int) := (by omega)
   have q4 : 0 < a0.size := (by have : (0 : Int) < (a0.size : Int) := of_decide_eq_true (by first | (with_reducible assumption) | assumption); omega)
   have hx4 : ∀ h : 0 < a0.size, ((a0[0]'h).toNat : Int) = bt a0 0 := bt_at a0 0
   clear p4
   have qi4 : (0 < (a0.size : Int)) = True := eq_true (of_decide_eq_true (by first | (with_reducible assumption) | assumption))
   replace q4 := eq_true q4
   go_enter Tryz.func54, Tryz.ntmps54
   go_wp2
   go_ret
   exact ⟨by first | rfl | (simp; done) | (simp [*]; done), by repeat (first | exact Drawn0.refl _ | apply Drawn0.step)⟩
  ·rw [if_neg c5] at H
   have c5b0 := beq_eq_false_iff_ne.mpr c5
   have c5b1 := bne_iff_ne.mpr c5
   obtain rfl := Option.some.inj H
   have p4 : 0 ≤ (0 : Int) := (by omega)
   have q4 : 0 < a0.size := (by have : (0 : Int) < (a0.size : Int) := of_decide_eq_true (by first | (with_reducible assumption) | assumption); omega)
   have hx4 : ∀ h : 0 < a0.size, ((a0[0]'h).toNat : Int) = bt a0 0 := bt_at a0 0
   clear p4
   have qi4 : (0 < (a0.size : Int)) = True := eq_true (of_decide_eq_true (by first | (with_reducible assumption) | assumption))
   replace q4 := eq_true q4
   go_enter Tryz.func54, Tryz.ntmps54
   go_wp2
   go_ret
   exact ⟨by first | rfl | (simp; done) | (simp [*]; done), by repeat (first | exact Drawn0.refl _ | apply Drawn0.step)⟩
def whole_Abs.f (a0 : ByteArray) : Option (ByteArray) := (whole_split.f a0).bind fun bt106 => (some bt106.2)
theorem whole_Abs.calls (a0 : ByteArray) (r : ByteArray) (w : World) (h : whole_Abs.f a0 = some r) :
  Calls Tryz.prog 63 #[.string a0] w fun e w' => e = .returned (.string r) ∧ Drawn0 w w' := by
 have H := h
 unfold whole_Abs.f at H
 clear h
 obtain ⟨⟨t106, t107⟩, A2, H⟩ := bo H
 try dsimp only at H
 obtain rfl := Option.some.inj H
 go_enter Tryz.func63, Tryz.ntmps63
 go_wp2_with (first | ((with_reducible refine gc (f := 76) rfl ?_); refine goesM (some 7) Tryz.func76 #[.string a0] ?_; (with_reducible refine (whole_split.calls a0 t106 t107 _ A2.out).mono ?_); rintro e w' ⟨rfl, ⟨nd, rfl⟩⟩; refine ⟨_, rfl, ?_⟩))
 go_ret
 exact ⟨by first | rfl | (simp; done) | (simp [*]; done), by repeat (first | exact Drawn0.refl _ | apply Drawn0.step)⟩
def whole_Of.f (a0 : Int) : Option (ByteArray) := (goItoa.f a0).bind fun t108 => (some t108)
theorem whole_Of.calls (a0 : Int) (r : ByteArray) (w : World) (hG : Glob w) (h : whole_Of.f a0 = some r) :
  Calls Tryz.prog 97 #[.int .i64 a0] w fun e w' => e = .returned (.string r) ∧ Below w.heap.size w w' := by
 have HG0 := am hG
 clear hG
 have HB := am (Below.refl w.heap.size w)
 have H := h
 unfold whole_Of.f at H
 clear h
 obtain ⟨t108, A2, H⟩ := bo H
 try dsimp only at H
 obtain rfl := Option.some.inj H
 go_enter Tryz.func97, Tryz.ntmps97
 go_wp2_with (first | ((with_reducible refine gc (f := 89) rfl ?_); refine goesM (some 4) Tryz.func89 #[.int .i64 a0] ?_; (with_reducible refine (goItoa.calls a0 t108 _ ?s1 A2.out).mono ?_); (case s1 => exact gb HG0 HB); rintro e w3 ⟨rfl, hb⟩; refine ⟨_, rfl, ?_⟩; replace HB := bs HB hb; (try clear hb)))
 go_ret
 exact ⟨rl, bl HB⟩
def whole_gcd.l0 : Nat → Int → Int → Option (Int)
 | 0, _, _ => none
 | k + 1, x0, x1 => if x1 = 0 then (some x0) else (whole_gcd.l0 k x1 (Int.tmod x0 x1))
def whole_gcd.f (k : Nat) (a0 : Int) (a1 : Int) : Option (Int) := whole_gcd.l0 k a0 a1
theorem whole_gcd.calls (k : Nat) (a0 : Int) (a1 : Int) (r : Int) (w : World) (h : whole_gcd.f k a0 a1 = some r) :
  Calls Tryz.prog 98 #[.int .i64 a0, .int .i64 a1] w fun e w' => e = .returned (.int .i64 r) ∧ Drawn0 w w' := by
 have H := h
 unfold whole_gcd.f at H
 clear h
 have H' := am H
 clear H
 go_enter Tryz.func98, Tryz.ntmps98
 go_wp2
 repeat (go_quiet (fail); try go_wp2)
 go_loopg [0, 1] k (fun kq v0 v1 w' => ∃ (x0_1 : Int) (x1_1 : Int), v0 = .int .i64 x0_1 ∧ v1 = .int .i64 x1_1 ∧ Aside0 (whole_gcd.l0 kq x0_1 x1_1 = some r) ∧ Aside0 (kq ≤ k) ∧ Drawn0 w w')
 case atStart => exact ⟨(a0), (a1), rs, rs, H', ⟨Nat.le_refl _⟩, by repeat (first | exact Drawn0.refl _ | apply Drawn0.step)⟩
 case round =>
  clear H'
  try clear p2
  obtain ⟨x0_1, x1_1, rfl, rfl, HA, HK1, ⟨m1, rfl⟩⟩ := hrel
  cases gk with
  | zero => exact absurd HA.out (by simp [whole_gcd.l0])
  | succ k1 =>
   have H := HA.out
   clear HA
   simp only [whole_gcd.l0] at H
   by_cases c3 : x1_1 = 0
   ·rw [if_pos c3] at H
    have c3b0 := beq_iff_eq.mpr c3
    have c3b1 := bne_eq_false_iff_eq.mpr c3
    clear c3
    obtain rfl := Option.some.inj H
    go_wp2
    repeat (go_quiet (fail); try go_wp2)
    go_ret
    exact ⟨by first | rfl | (simp; done) | (simp [*]; done), by repeat (first | exact Drawn0.refl _ | apply Drawn0.step)⟩
   ·rw [if_neg c3] at H
    have c3b0 := beq_eq_false_iff_ne.mpr c3
    have c3b1 := bne_iff_ne.mpr c3
    have H' := am H
    clear H
    go_wp2
    repeat (go_quiet (fail); try go_wp2)
    go_roundg k1
    case measure => have := HK1.out; omega
    case rel => exact ⟨(x1_1), (Int.tmod x0_1 x1_1), rs, rs, H', ⟨by have := HK1.out; omega⟩, by repeat (first | exact Drawn0.refl _ | apply Drawn0.step)⟩
def decimal_Of.f (a0 : Int) : Option (ByteArray) := (goFormatUint.f a0 10).bind fun t109 => (some t109)
theorem decimal_Of.calls (a0 : Int) (r : ByteArray) (w : World) (hG : Glob w) (h : decimal_Of.f a0 = some r) :
  Calls Tryz.prog 122 #[.int .u64 a0] w fun e w' => e = .returned (.string r) ∧ Below w.heap.size w w' := by
 have HG0 := am hG
 clear hG
 have HB := am (Below.refl w.heap.size w)
 have H := h
 unfold decimal_Of.f at H
 clear h
 obtain ⟨t109, A2, H⟩ := bo H
 try dsimp only at H
 obtain rfl := Option.some.inj H
 go_enter Tryz.func122, Tryz.ntmps122
 go_wp2_with (first | ((with_reducible refine gc (f := 146) rfl ?_); refine goesM (some 4) Tryz.func146 #[.int .u64 a0, .int .i64 10] ?_; (with_reducible refine (goFormatUint.calls a0 10 t109 _ ?s1 A2.out).mono ?_); (case s1 => exact gb HG0 HB); rintro e w3 ⟨rfl, hb⟩; refine ⟨_, rfl, ?_⟩; replace HB := bs HB hb; (try clear hb)))
 go_ret
 exact ⟨rl, bl HB⟩
def decimal_both.j0 : Nat → ByteArray → ByteArray → Bool → Option (Int × Int × Bool)
 | 0, _, _, _ => none
 | k + 1, x0, x1, x14 => if x14 = true then (some (0, 0, false)) else ((dSmall.f x0).bind fun bt110 => ((dSmall.f x1).bind fun bt112 => (some (bt110.1, bt112.1, true))))
def decimal_both.f (k : Nat) (a0 : ByteArray) (a1 : ByteArray) : Option (Int × Int × Bool) := if (a0.size : Int) > 18 then (decimal_both.j0 k a0 a1 true) else (decimal_both.j0 k a0 a1 (decide ((a1.size : Int) > 18)))
theorem decimal_both.calls (k : Nat) (a0 : ByteArray) (a1 : ByteArray) (r1 : Int) (r2 : Int) (r3 : Bool) (w : World) (hG : Glob w) (h : decimal_both.f k a0 a1 = some (r1, r2, r3)) :
  Calls Tryz.prog 141 #[.string a0, .string a1] w fun e w' => e = .returned (.tuple #[.int .u64 r1, .int .u64 r2, .bool r3]) ∧ Below w.heap.size w w' := by
 have HG0 := am hG
 clear hG
 have HB := am (Below.refl w.heap.size w)
 have H := h
 unfold decimal_both.f at H
 clear h
 have HC3 := am H
 clear H
 go_enter Tryz.func141, Tryz.ntmps141
 go_upto_region 1 with (fail)
 go_cut [14] (fun v14 wc => ∃ (kq : Nat) (x14_2 : Bool), v14 = .bool x14_2 ∧ Aside0 (decimal_both.j0 kq a0 a1 x14_2 = some (r1, r2, r3)) ∧ Aside0 (kq ≤ k) ∧ Aside0 (Below w.heap.size w wc))
 case first =>
  have H := HC3.out
  clear HC3
  by_cases c4 : (a0.size : Int) > 18
  ·rw [if_pos c4] at H
   have c4b0 : decide (18 < (a0.size : Int)) = true := decide_eq_true c4
   have c4b1 : decide (18 < a0.size) = true := decide_eq_true (by omega)
   clear c4
   (first | rw [c4b0] | (simp only [i64_w, i32_w]; rw [c4b0]) | skip)
   have H' := am H
   clear H
   go_wp2
   go_meet
   case rel => exact ⟨_, (true), rs, H', ⟨by first | omega | exact Nat.le_refl _⟩, ⟨bl HB⟩⟩
  ·rw [if_neg c4] at H
   have c4b0 : decide (18 < (a0.size : Int)) = false := decide_eq_false c4
   have c4b1 : decide (18 < a0.size) = false := decide_eq_false (by omega)
   clear c4
   (first | rw [c4b0] | (simp only [i64_w, i32_w]; rw [c4b0]) | skip)
   have H' := am H
   clear H
   go_wp2
   go_meet
   case rel => exact ⟨_, (decide ((a1.size : Int) > 18)), rs, H', ⟨by first | omega | exact Nat.le_refl _⟩, ⟨bl HB⟩⟩
 case rest =>
  clear HC3
  try clear c1
  try clear p2
  try clear c4
  try clear c4b0
  try clear c4b1
  obtain ⟨kq, x14_2, rfl, HA, HJ2, HB⟩ := hcut
  cases kq with
  | zero => exact absurd HA.out (by simp [decimal_both.j0])
  | succ kj2 =>
   have H := HA.out
   clear HA
   simp only [decimal_both.j0] at H
   by_cases c5 : x14_2 = true
   ·subst c5
    rw [if_pos rfl] at H
    simp only [Option.some.injEq, Prod.mk.injEq] at H
    obtain ⟨rfl, rfl, rfl⟩ := H
    go_wp2
    go_ret3
    exact ⟨rl, bl HB⟩
   ·replace c5 := Bool.eq_false_iff.mpr c5
    subst c5
    rw [if_neg (show ¬ (false = true) by decide)] at H
    obtain ⟨⟨t110, t111⟩, A6, H⟩ := bo H
    try dsimp only at H
    obtain ⟨⟨t112, t113⟩, A7, H⟩ := bo H
    try dsimp only at H
    simp only [Option.some.injEq, Prod.mk.injEq] at H
    obtain ⟨rfl, rfl, rfl⟩ := H
    go_wp2_with (first | ((with_reducible refine gc (f := 165) rfl ?_); refine goesM (some 17) Tryz.func165 #[.string a0] ?_; (with_reducible refine (dSmall.calls a0 t110 t111 _ ?s1 A6.out).mono ?_); (case s1 => exact gb HG0 HB); rintro e w8 ⟨rfl, hb⟩; refine ⟨_, rfl, ?_⟩; replace HB := bs HB hb; (try clear hb)) | ((with_reducible refine gc (f := 165) rfl ?_); refine goesM (some 22) Tryz.func165 #[.string a1] ?_; (with_reducible refine (dSmall.calls a1 t112 t113 _ ?s1 A7.out).mono ?_); (case s1 => exact gb HG0 HB); rintro e w9 ⟨rfl, hb⟩; refine ⟨_, rfl, ?_⟩; replace HB := bs HB hb; (try clear hb)))
    go_ret3
    exact ⟨rl, bl HB⟩
end Go.Proofs.YtailoobjgbldgaaGreatDoor.P
end
section
namespace Go.Proofs.YtailoobjgbldgaaGreatDoor.P
set_option linter.unusedVariables false
set_option linter.unusedSimpArgs false
open Go Go.RowKit Go.Proofs.YtailoobjgbldgaaGreatDoorW.PrintWords Go.Proofs.YtailoobjgbldgaaGreatDoorW.PrintLast Go.Proofs.YtailoobjgbldgaaGreatDoorW.PrintMore
attribute [local go_sem] max2_int min2_int max_two min_two max_three min_three max_four min_four
theorem natVal_append (a b : List UInt8) : natVal (a ++ b) = natVal a * 10 ^ b.length + natVal b := by
  have : ∀ (l : List UInt8) (k : Nat), valFrom k l = k * 10 ^ l.length + natVal l := by
    intro l
    induction l with
    | nil => intro k; simp [valFrom, natVal]
    | cons c l ih =>
      intro k
      have h1 : valFrom k (c :: l) = valFrom (10 * k + (c.toNat - 48)) l := rfl
      have h2 : natVal (c :: l) = valFrom (c.toNat - 48) l := by show valFrom (10 * 0 + (c.toNat - 48)) l = _; simp
      rw [h1, h2, ih, ih, List.length_cons, Nat.pow_succ, Nat.add_mul]
      have : 10 * k * 10 ^ l.length = k * (10 ^ l.length * 10) := by ac_rfl
      omega
  have e : natVal (a ++ b) = valFrom (natVal a) b := by simp [natVal, valFrom]
  rw [e, this]
theorem natVal_lt {l : List UInt8} (h : l.all isDig = true) : natVal l < 10 ^ l.length := by
  induction l with
  | nil => simp [natVal]
  | cons c l ih =>
    simp only [List.all_cons, Bool.and_eq_true, isDig_iff] at h
    have := ih h.2
    have e := natVal_append [c] l
    have e1 : natVal [c] = c.toNat - 48 := by simp [natVal]
    rw [List.singleton_append, e1] at e
    rw [e, List.length_cons, Nat.pow_succ]
    have h2 : (c.toNat - 48) * 10 ^ l.length ≤ 9 * 10 ^ l.length := Nat.mul_le_mul_right _ (by omega)
    omega
def CutI (l : List UInt8) (xs : List Int) (e : Int) : Prop := Val.Dig xs ∧ e ≤ l.length ∧ xs.length + e.toNat ≤ 2 * l.length ∧ -9 ≤ e ∧ Val.val xs + Val.pw xs.length * (natVal (l.take e.toNat) : Int) = natVal l
theorem CutI.round {l : List UInt8} {xs : List Int} {e : Int} (hd : l.all isDig = true) (h : CutI l xs e) (he : 0 < e) : CutI l (xs ++ [(natVal ((l.take e.toNat).drop (e - 9).toNat) : Int)]) (e - 9) := by
  obtain ⟨h1, h2, h3, h4, h5⟩ := h
  have hall : ((l.take e.toNat).drop (e - 9).toNat).all isDig = true := by
    rw [List.all_eq_true] at hd ⊢
    exact fun x hx => hd x (List.mem_of_mem_take (List.mem_of_mem_drop hx))
  have hlt := natVal_lt hall
  have hlen : ((l.take e.toNat).drop (e - 9).toNat).length ≤ 9 := by rw [List.length_drop, List.length_take]; omega
  have h9 : 10 ^ ((l.take e.toNat).drop (e - 9).toNat).length ≤ 10 ^ 9 := Nat.pow_le_pow_right (by decide) hlen
  refine ⟨h1.append fun y hy => ?_, by omega, ?_, by omega, ?_⟩
  · rw [List.mem_singleton.1 hy]
    have : (10 : Nat) ^ 9 = 1000000000 := by decide
    omega
  · rw [List.length_append]; simp; omega
  · have hs : natVal (l.take e.toNat) = natVal ((l.take e.toNat).take (e - 9).toNat) * 10 ^ ((l.take e.toNat).drop (e - 9).toNat).length + natVal ((l.take e.toNat).drop (e - 9).toNat) := by
      conv => lhs; rw [← List.take_append_drop (e - 9).toNat (l.take e.toNat)]
      rw [natVal_append]
    rw [List.take_take, Nat.min_eq_left (by omega)] at hs
    rw [Val.val_snoc, List.length_append, List.length_singleton, Val.pw_succ]
    by_cases h0 : 9 ≤ e
    · have hl9 : ((l.take e.toNat).drop (e - 9).toNat).length = 9 := by rw [List.length_drop, List.length_take]; omega
      rw [hl9] at hs
      have hs' : (natVal (l.take e.toNat) : Int) = (natVal (l.take (e - 9).toNat) : Int) * 1000000000 + (natVal ((l.take e.toNat).drop (e - 9).toNat) : Int) := by
        have : (10 : Nat) ^ 9 = 1000000000 := by decide
        rw [this] at hs
        omega
      rw [hs'] at h5
      grind
    · have e0 : (e - 9).toNat = 0 := by omega
      rw [e0] at hs ⊢
      simp only [List.take_zero, List.drop_zero] at hs ⊢
      have : natVal [] = 0 := rfl
      rw [this]
      simp
      exact h5
theorem digit_next {l : List UInt8} {j : Nat} (hj : j < l.length) : natVal (l.take (j + 1)) = 10 * natVal (l.take j) + (l[j].toNat - 48) := by
  rw [List.take_succ_eq_append_getElem hj, natVal_snoc]
def dCut.f (a : ByteArray) : Option (List Int) := if a.size ≤ 1000000000 ∧ a.data.toList.all isDig = true then some (Val.digs (natVal a.data.toList)) else none
set_option maxRecDepth 100000 in
set_option maxHeartbeats 4000000 in
theorem dCut.calls (a0 : ByteArray) (r : List Int) (w : World) (h : dCut.f a0 = some r) :
    Calls Tryz.prog 142 #[.string a0] w fun e w' => ∃ v0_ : Value, e = .returned (v0_) ∧ Kd.R (Kd.int .u64) 112 w' w.heap.size (fun _ => True) v0_ r ∧ Below w.heap.size w w' := by
  unfold dCut.f at h
  by_cases hsz : a0.size ≤ 1000000000 ∧ a0.data.toList.all isDig = true
  case neg => rw [if_neg hsz] at h; cases h
  rw [if_pos hsz] at h
  injection h with h
  obtain ⟨hsz, hdig⟩ := hsz
  obtain ⟨l, hL⟩ : ∃ l, l = a0.data.toList := ⟨_, rfl⟩
  have hLn : l.length = a0.size := by rw [hL]; rfl
  rw [← hL] at h hdig
  have HB := Aside0.mk (Below.refl w.heap.size w)
  have hcv := fun (s : ByteArray) (W : World) => Lib.run_convert_string_bytes (P := Tryz.prog) W 28 142 5 s (u := .string) Tryz.underlying28 Tryz.underlying142 Tryz.underlying5
  have hj0 : 0 ≤ (a0.size : Int) / 9 + 1 := by omega
  have hj1 : ((a0.size : Int) / 9 + 1).toNat * 8 ≤ 281474976710656 := by omega
  go_enter Tryz.func142, Tryz.ntmps142
  go_wp2_with (first | ((with_reducible refine gate_dst (N := 12) rfl ?_); (try (refine gate_guard (by rfl) ?_; dsimp only)); refine Kd.R_makecap (Kd.int .u64) _ 112 rfl (N := 12) rfl 178 _ _ rfl ((a0.size : Int) / 9 + 1) rfl rfl Tryz.underlying178 (.int .u64 0) 8 info112 rfl (by decide) (by omega) 0 (ok := fun _ => True) (okp := fun _ => True) rfl (fun _ hk => hk) trivial hj0 hj1 (Below.refl _ _) (Nat.le_refl _) ?_; intro v116 w6 ho7 hb hg_ hnew_; clear hg_ hnew_; have n0_ := Aside0.mk (Kd.R_lower ho7 (below_size (bl HB))); have n1_ := Aside0.mk (below_step (bl HB) hb); clear HB; have HO := n0_; have HB := n1_; clear n0_ n1_; clear hb ho7))
  go_loopw [3, 4] (fun v3 v4 w' => ∃ (xs : List Int) (e : Int), v4 = .int .i64 e ∧ Aside0 (CutI l xs e) ∧ Aside0 (Kd.R (Kd.int .u64) 112 w' w.heap.size (fun _ => True) v3 xs) ∧ Aside0 (Below w.heap.size w w'))
    (fun _ v4 _ => (intOf v4).toNat)
  case atStart => exact ⟨[], a0.size, rfl, ⟨Val.Dig.nil, by rw [hLn]; exact Int.le_refl _, by simp; omega, by omega, by rw [Int.toNat_natCast, ← hLn, List.take_length]; simp [Val.val_nil, Val.pw_zero]⟩, HO, HB⟩
  case round =>
    obtain ⟨xs, e, rfl, HC, HO_3, HB⟩ := hrel
    by_cases he : 0 < e
    · have hl := HC.out.2.1
      rw [hLn] at hl
      have c1 : decide (0 < e) = true := decide_eq_true he
      have hround := HC.out.round hdig he
      obtain ⟨win, hwin⟩ : ∃ win, (l.take e.toNat).drop (e - 9).toNat = win := ⟨_, rfl⟩
      obtain ⟨s, hs⟩ : ∃ s, a0.extract (e - 9).toNat e.toNat = s := ⟨_, rfl⟩
      have hsw : s.data.toList = win := by rw [← hs, ← hwin, hL]; simp [ByteArray.data_extract, List.drop_take]
      have hsl2 : win.length = s.size := by rw [← hsw]; rfl
      have hm : ∀ x ∈ win, 48 ≤ x.toNat ∧ x.toNat ≤ 57 := fun x hx => by
        rw [← hwin] at hx
        rw [List.all_eq_true] at hdig
        have := hdig x (List.mem_of_mem_take (List.mem_of_mem_drop hx))
        rwa [isDig_iff] at this
      have hwd : ∀ j (hj : j < win.length), 48 ≤ win[j].toNat ∧ win[j].toNat ≤ 57 := fun j hj => hm _ (List.getElem_mem hj)
      have hw9 : ∀ j, natVal (win.take j) < 1000000000 := fun j => by
        have h1 : (win.take j).all isDig = true := by
          rw [List.all_eq_true] at hdig ⊢
          intro x hx
          have := List.mem_of_mem_take hx
          rw [← hwin] at this
          exact hdig x (List.mem_of_mem_take (List.mem_of_mem_drop this))
        have h2 : (win.take j).length ≤ 9 := by
          rw [List.length_take, ← hwin, List.length_drop, List.length_take]; omega
        have h3 : 10 ^ (win.take j).length ≤ 10 ^ 9 := Nat.pow_le_pow_right (by decide) h2
        have h4 := natVal_lt h1
        have : (10 : Nat) ^ 9 = 1000000000 := by decide
        omega
      rw [hwin] at hround
      have hwl : win.length ≤ 9 := by rw [← hwin, List.length_drop, List.length_take]; omega
      have hxl : xs.length ≤ 3000000000 := by have := HC.out.2.2.1; omega
      have hcw := hcv s wr
      obtain ⟨W1, hW1⟩ : ∃ W1, W1 = Lib.bytesWorld wr 5 s := ⟨_, rfl⟩
      rw [← hW1] at hcw
      have hB : ∀ j, j < s.size → W1.cell? ⟨wr.heap.size, j, none⟩ = some (.int .u8 (s.data.toList.getD j 0).toNat) := fun j hj => by rw [hW1]; exact Lib.bytesWorld_cell wr 5 s j hj
      have hb0 : Below wr.heap.size wr W1 := by rw [hW1]; exact Lib.bytesWorld_below wr 5 s
      clear hW1 hcv
      by_cases h9 : 0 < e - 9
      · have hs9 : (e - 9).toNat = (e - 9).toNat := by omega
        have hW2 : (l.take e.toNat).drop (e - 9).toNat = win := by rw [hs9]; exact hwin
        have hsl : ∀ W : World, (Instr.slice 28 (.string a0) (some (.int .i64 (e - 9))) (some (.int .i64 e)) none).run Tryz.prog W = .ok (.string s) W := fun W => by
          exact (run_slice_string W 28 a0 .i64 .i64 (e - 9) e Tryz.underlying28 (by omega) (by omega) hl).trans (by rw [show ((e - 9) : Int).toNat = (e - 9).toNat by omega, hs])
        clear hs9 hW2
        go_wp2
        go_loopw [5, 27] (fun v5 v27 w' => ∃ j : Nat, j ≤ win.length ∧ v5 = .int .u64 (natVal (win.take j) : Int) ∧ v27 = .int .i64 j ∧ w' = W1)
          (fun _ v27 _ => win.length - (intOf v27).toNat)
        case atStart => exact ⟨0, Nat.zero_le _, rfl, rfl, rfl⟩
        case round =>
          obtain ⟨j, hj, rfl, rfl, rfl⟩ := hrel
          by_cases hlt : j < s.size
          · have hc := hB j hlt
            have hjw : j < win.length := by omega
            have hdj : 48 ≤ win[j].toNat ∧ win[j].toNat ≤ 57 := hwd j hjw
            rw [hsw, List.getD_eq_getElem?_getD, List.getElem?_eq_getElem hjw, Option.getD_some] at hc
            have hnx := digit_next hjw
            have hn9 : natVal (win.take (j + 1)) < 1000000000 := hw9 (j + 1)
            obtain ⟨c, hcc⟩ : ∃ c : Int, c = (win[j].toNat : Int) := ⟨_, rfl⟩
            rw [← hcc] at hc
            have hc1 : 48 ≤ c := by omega
            have hc2 : c ≤ 57 := by omega
            obtain ⟨n, hn⟩ : ∃ n : Int, n = (natVal (win.take j) : Int) := ⟨_, rfl⟩
            have hn0 : 0 ≤ n := by omega
            have hn1 : 10 * n + (c - 48) < 1000000000 := by omega
            have hlt' : (j : Int) < (s.size : Int) := by omega
            have hj9 : (j : Int) ≤ 1000000000 := by omega
            rw [← hn]
            go_wp2
            go_roundw
            case rel => exact ⟨j + 1, by omega, by simp only [hnx]; congr 1; simp [wrap64, IntKind.wrap_u64] <;> omega, by simp [wrap64] <;> omega, by trivial⟩
            case measure => simp [intOf, wrap64] <;> omega
          · obtain rfl : j = win.length := by omega
            have hlt' : ¬ (win.length : Int) < (s.size : Int) := by omega
            rw [List.take_length]
            obtain ⟨y, hy⟩ : ∃ y : List Int, y = xs ++ [(natVal win : Int)] := ⟨_, rfl⟩
            rw [← hy] at hround
            have Ny := Aside0.mk hy
            have HO_4 := Aside0.mk (Kd.R_below HO_3.out hb0)
            have HB4 := Aside0.mk (below_step (bl HB) hb0)
            have LM := Aside0.mk (show xs.length < 17592186044416 by omega)
            clear hy hb0 hB hcw
            go_wp2_with (first | ((with_reducible refine gate_builtin (b := .append) (xs := #[.tmp 38, .tmp 40]) rfl ?_); (try (refine gate_guard (by rfl) ?_; dsimp only)); at_builtin; refine Kd.R_append (Kd.int .u64) (w0 := w) w.heap.size rfl (.tmp 38) (.tmp 40) 178 112 (.int .u64 0) 8 rfl Tryz.underlying178 info112 rfl (by decide) (by omega) u3 xs (natVal win : Int) [.int .u64 (natVal win : Int)] (fun _ => True) (fun _ => False) rfl rfl ?aP (fun _ hk => hk.elim) ?aF ?aO ?aB ?aS ?aL ?_; (case aP => exact rfl); (case aB => exact (bl HB4)); (case aF => exact (fun _ _ => trivial)); (case aO => exact (kr HO_4)); (case aS => exact (below_size (bl HB4))); (case aL => have := LM.out; omega); intro v121 w14 ho hb hg hat; rw [← Ny.out] at ho; have n0_ := Aside0.mk (hb); have n1_ := Aside0.mk (ho); clear HB4; clear HO_4; have HB4 := n0_; have HO_4 := n1_; clear n0_ n1_; clear ho hb hg hat))
            go_roundw
            case rel => exact ⟨y, e - 9, by simp [wrap64] <;> omega, ⟨hround⟩, HO_4, HB4⟩
            case measure => simp [intOf, wrap64] <;> omega
      · have hs9 : 0 = (e - 9).toNat := by omega
        have hW2 : (l.take e.toNat).drop 0 = win := by rw [hs9]; exact hwin
        have hsl : ∀ W : World, (Instr.slice 28 (.string a0) (some (.int .i64 0)) (some (.int .i64 e)) none).run Tryz.prog W = .ok (.string s) W := fun W => by
          exact (run_slice_string W 28 a0 .i64 .i64 0 e Tryz.underlying28 (by omega) (by omega) hl).trans (by rw [show (0 : Int).toNat = (e - 9).toNat by omega, hs])
        clear hs9 hW2
        go_wp2
        go_loopw [5, 27] (fun v5 v27 w' => ∃ j : Nat, j ≤ win.length ∧ v5 = .int .u64 (natVal (win.take j) : Int) ∧ v27 = .int .i64 j ∧ w' = W1)
          (fun _ v27 _ => win.length - (intOf v27).toNat)
        case atStart => exact ⟨0, Nat.zero_le _, rfl, rfl, rfl⟩
        case round =>
          obtain ⟨j, hj, rfl, rfl, rfl⟩ := hrel
          by_cases hlt : j < s.size
          · have hc := hB j hlt
            have hjw : j < win.length := by omega
            have hdj : 48 ≤ win[j].toNat ∧ win[j].toNat ≤ 57 := hwd j hjw
            rw [hsw, List.getD_eq_getElem?_getD, List.getElem?_eq_getElem hjw, Option.getD_some] at hc
            have hnx := digit_next hjw
            have hn9 : natVal (win.take (j + 1)) < 1000000000 := hw9 (j + 1)
            obtain ⟨c, hcc⟩ : ∃ c : Int, c = (win[j].toNat : Int) := ⟨_, rfl⟩
            rw [← hcc] at hc
            have hc1 : 48 ≤ c := by omega
            have hc2 : c ≤ 57 := by omega
            obtain ⟨n, hn⟩ : ∃ n : Int, n = (natVal (win.take j) : Int) := ⟨_, rfl⟩
            have hn0 : 0 ≤ n := by omega
            have hn1 : 10 * n + (c - 48) < 1000000000 := by omega
            have hlt' : (j : Int) < (s.size : Int) := by omega
            have hj9 : (j : Int) ≤ 1000000000 := by omega
            rw [← hn]
            go_wp2
            go_roundw
            case rel => exact ⟨j + 1, by omega, by simp only [hnx]; congr 1; simp [wrap64, IntKind.wrap_u64] <;> omega, by simp [wrap64] <;> omega, by trivial⟩
            case measure => simp [intOf, wrap64] <;> omega
          · obtain rfl : j = win.length := by omega
            have hlt' : ¬ (win.length : Int) < (s.size : Int) := by omega
            rw [List.take_length]
            obtain ⟨y, hy⟩ : ∃ y : List Int, y = xs ++ [(natVal win : Int)] := ⟨_, rfl⟩
            rw [← hy] at hround
            have Ny := Aside0.mk hy
            have HO_4 := Aside0.mk (Kd.R_below HO_3.out hb0)
            have HB4 := Aside0.mk (below_step (bl HB) hb0)
            have LM := Aside0.mk (show xs.length < 17592186044416 by omega)
            clear hy hb0 hB hcw
            go_wp2_with (first | ((with_reducible refine gate_builtin (b := .append) (xs := #[.tmp 38, .tmp 40]) rfl ?_); (try (refine gate_guard (by rfl) ?_; dsimp only)); at_builtin; refine Kd.R_append (Kd.int .u64) (w0 := w) w.heap.size rfl (.tmp 38) (.tmp 40) 178 112 (.int .u64 0) 8 rfl Tryz.underlying178 info112 rfl (by decide) (by omega) u3 xs (natVal win : Int) [.int .u64 (natVal win : Int)] (fun _ => True) (fun _ => False) rfl rfl ?aP (fun _ hk => hk.elim) ?aF ?aO ?aB ?aS ?aL ?_; (case aP => exact rfl); (case aB => exact (bl HB4)); (case aF => exact (fun _ _ => trivial)); (case aO => exact (kr HO_4)); (case aS => exact (below_size (bl HB4))); (case aL => have := LM.out; omega); intro v121 w14 ho hb hg hat; rw [← Ny.out] at ho; have n0_ := Aside0.mk (hb); have n1_ := Aside0.mk (ho); clear HB4; clear HO_4; have HB4 := n0_; have HO_4 := n1_; clear n0_ n1_; clear ho hb hg hat))
            go_roundw
            case rel => exact ⟨y, e - 9, by simp [wrap64] <;> omega, ⟨hround⟩, HO_4, HB4⟩
            case measure => simp [intOf, wrap64] <;> omega
    · have c1 : decide (0 < e) = false := decide_eq_false he
      obtain ⟨h1, h2, h3, h4, h5⟩ := HC.out
      rw [show e.toNat = 0 by omega, List.take_zero, show natVal [] = 0 from rfl] at h5
      have hv : Val.val xs = (natVal l : Int) := by simpa using h5
      obtain ⟨K, hK⟩ := Val.trim_val (xs := xs) (by omega) h1
      have hk := hK K (Nat.le_refl K)
      rw [show (Val.val xs).toNat = natVal l by omega, h] at hk
      obtain ⟨Ao, co, eo⟩ := Kd.R_slice HO_3.out
      subst eo
      go_wp2_with (first | (go_at_call 158; (with_reducible refine (decimal_pieces_trim.calls K (fun k_ => some k_ = (.slice Ao xs.length co : Value).ownBlock) (.slice Ao xs.length co) xs r w _ ?side1 ?side2 hk).mono ?_); (case side1 => exact bl HB); (case side2 => exact Kd.R_tight rfl HO_3.out); rintro e w70 ⟨v185, rfl, ho0, hb, hkp⟩; have n0_ := Aside0.mk ho0; have n1_ := Aside0.mk hb; clear HB HO_3; have HO_3 := n0_; have HB := n1_; clear n0_ n1_; clear hb hkp ho0))
      go_ret
      exact ⟨_, rfl, Kd.R_mono HO_3.out (fun _ _ => trivial), bl HB⟩
end Go.Proofs.YtailoobjgbldgaaGreatDoor.P
end
section
namespace Go.Proofs.YtailoobjgbldgaaGreatDoor.P
open Go.RowKit Go.Proofs.YtailoobjgbldgaaGreatDoorW.PrintWords Go.Proofs.YtailoobjgbldgaaGreatDoorW.PrintLast Go.Proofs.YtailoobjgbldgaaGreatDoorW.PrintMore
attribute [local go_sem] max2_int min2_int max_two min_two max_three min_three max_four min_four   
set_option linter.unusedVariables false
set_option linter.unusedSimpArgs false
set_option maxHeartbeats 8000000
set_option maxRecDepth 100000
def decimal_DivMod.f (k : Nat) (a0 : ByteArray) (a1 : ByteArray) : Option (ByteArray × ByteArray × Int) := if a1.toList = ([48] : List UInt8) then (some ((⟨#[]⟩ : ByteArray), (⟨#[]⟩ : ByteArray), 17)) else ((decimal_both.f k a0 a1).bind fun bt215 => (if bt215.2.2 = true then (if bt215.2.1 = 0 then (none) else ((decimal_Of.f (IntKind.u64.wrap (Int.tdiv bt215.1 bt215.2.1))).bind fun t218 => ((decimal_Of.f (Int.tmod bt215.1 bt215.2.1)).bind fun t219 => (some (t218, t219, 0))))) else ((dCut.f a0).bind fun t220 => ((dCut.f a1).bind fun t223 => ((decimal_pieces_compare.f k t220 t223).bind fun t226 => (if t226 < 0 then (some ((⟨#[48]⟩ : ByteArray), a0, 0)) else (if (t223.length : Int) = 1 then (if 0 < (t223.length : Int) then ((decimal_pieces_small.f k t220 (rd t223 0)).bind fun bt228 => ((decimal_pieces_text.f k bt228.1).bind fun t232 => ((decimal_Of.f bt228.2).bind fun t233 => (some (t232, t233, 0))))) else (none)) else ((decimal_pieces_divide.f k t220 t223).bind fun bt234 => ((decimal_pieces_text.f k bt234.1).bind fun t240 => ((decimal_pieces_text.f k bt234.2).bind fun t241 => (some (t240, t241, 0))))))))))))
def decimal_DivMod.T5 : Bool × List (List Nat × List Nat) := (true, [([], []), ([], []), ([0, 1], [0, 1]), ([2], [2]), ([], []), ([], []), ([4, 5], [4, 5]), ([6, 3], [6]), ([3, 7, 0, 1, 2, 3], [3]), ([7, 8, 0, 1, 2, 3, 4, 5, 6, 7, 8], [7]), ([9, 0, 1, 2, 3, 4, 5, 6, 7, 8, 9], [])])
def decimal_DivMod.B5 : List Nat := [0, 0, 3, 7, 0, 0, 48, 127, 255, 511, 1023]
theorem decimal_DivMod.tab5 : rtab .any (opsOf Tryz.f129 5) = decimal_DivMod.T5 := by kernel_rfl
theorem decimal_DivMod.bits5 : waitsOk decimal_DivMod.T5.2 decimal_DivMod.B5 = true := by kernel_rfl
theorem decimal_DivMod.calls (k : Nat) (a0 : ByteArray) (a1 : ByteArray) (r1 : ByteArray) (r2 : ByteArray) (r3 : Int) (w : World) (hG : Glob w) (h : decimal_DivMod.f k a0 a1 = some (r1, r2, r3)) :
  Calls Tryz.prog 129 #[.string a0, .string a1] w fun e w' => e = .returned (.tuple #[.string r1, .string r2, .int .i64 r3]) ∧ Below w.heap.size w w' := by
 have HG0 := am hG
 clear hG
 have HB := am (Below.refl w.heap.size w)
 have H := h
 unfold decimal_DivMod.f at H
 clear h
 by_cases c3 : a1.toList = ([48] : List UInt8)
 ·rw [if_pos c3] at H
  have c3b0 := beq_iff_eq.mpr c3
  have c3b1 := bne_eq_false_iff_eq.mpr c3
  clear c3
  simp only [Option.some.injEq, Prod.mk.injEq] at H
  obtain ⟨rfl, rfl, rfl⟩ := H
  go_enter Tryz.func129, Tryz.ntmps129
  go_wp2
  go_ret3
  exact ⟨rl, bl HB⟩
 ·rw [if_neg c3] at H
  have c3b0 := beq_eq_false_iff_ne.mpr c3
  have c3b1 := bne_iff_ne.mpr c3
  obtain ⟨⟨t215, t216, t217⟩, A4, H⟩ := bo H
  try dsimp only at H
  by_cases c5 : t217 = true
  ·subst c5
   rw [if_pos rfl] at H
   by_cases c6 : t216 = 0
   case pos => rw [if_pos c6] at H; cases H
   rw [if_neg c6] at H
   have c6b0 := beq_eq_false_iff_ne.mpr c6
   have c6b1 := bne_iff_ne.mpr c6
   obtain ⟨t218, A7, H⟩ := bo H
   try dsimp only at H
   obtain ⟨t219, A8, H⟩ := bo H
   try dsimp only at H
   simp only [Option.some.injEq, Prod.mk.injEq] at H
   obtain ⟨rfl, rfl, rfl⟩ := H
   go_enter Tryz.func129, Tryz.ntmps129
   try go_wp2_with (first | ((with_reducible refine gc (f := 141) rfl ?_); refine goesM (some 21) Tryz.func141 #[.string a0, .string a1] ?_; (with_reducible refine (decimal_both.calls k a0 a1 t215 t216 true _ ?s1 A4.out).mono ?_); (case s1 => exact gb HG0 HB); rintro e w9 ⟨rfl, hb⟩; refine ⟨_, rfl, ?_⟩; replace HB := bs HB hb; (try clear hb)))
   replace HB := am (below_drew1 HB.out)
   refine start_ (n := 11) (S := fun w' => True) (ds := []) #[false, false, false, false, false, false, false, false, false, false, false] (by kernel_rfl) rfl rfl trivial (fun hHeld => ?_); refine with_tabW decimal_DivMod.tab5 decimal_DivMod.bits5 (fun HT_ HW_ => ?_)
   generalize w9.drew = w10 at HB hHeld ⊢
   refine purM (i := 0) (N := some 26) #[true, false, false, false, false, false, false, false, false, false, false] ?_
   refine purM (i := 1) (N := some 27) #[true, true, false, false, false, false, false, false, false, false, false] ?_
   refine purM (i := 2) (N := some 28) #[true, true, true, false, false, false, false, false, false, false, false] ?_
   refine purM (i := 4) (N := some 30) #[true, true, true, false, true, false, false, false, false, false, false] ?_
   refine purM (i := 5) (N := some 31) #[true, true, true, false, true, true, false, false, false, false, false] ?_
   refine purM (i := 6) (N := some 32) #[true, true, true, false, true, true, true, false, false, false, false] ?_
   refine one_ (i := 3) (N := some 29) #[true, true, true, true, true, true, true, false, false, false, false] rfl rfl (one_of HT_.out (by kernel_rfl)) (by decide) (fun K hK => ?_)
   refine goesR Tryz.func122 #[.int .u64 (IntKind.u64.wrap (Int.tdiv t215 t216))] ?_
   with_reducible refine (decimal_Of.calls (IntKind.u64.wrap (Int.tdiv t215 t216)) t218 _ ?s1 A7.out).mono ?_
   (case s1 => exact gb HG0 HB)
   rintro e w11 ⟨rfl, hb⟩
   refine ⟨_, rfl, ?_⟩
   replace HB := bs HB hb
   (try clear hb)
   (try clear hb2)
   (try clear hk)
   (try clear hi)
   refine hK.out _ _ trivial (fun hHeld => ?_)
   clear hK K
   refine norm_ (a' := ?_) ?_ ?_
   rotate_left
   ·show Act.put _ (some 29) _ = _
    simp only [Act.put, List.setIfInBounds_toArray, List.set_cons_zero, List.set_cons_succ, i64_w, i32_w]
    rfl
   refine one_ (i := 7) (N := some 33) #[true, true, true, true, true, true, true, true, false, false, false] rfl rfl (one_of HT_.out (by kernel_rfl)) (by decide) (fun K hK => ?_)
   refine goesR Tryz.func122 #[.int .u64 (Int.tmod t215 t216)] ?_
   with_reducible refine (decimal_Of.calls (Int.tmod t215 t216) t219 _ ?s1 A8.out).mono ?_
   (case s1 => exact gb HG0 HB)
   rintro e w12 ⟨rfl, hb⟩
   refine ⟨_, rfl, ?_⟩
   replace HB := bs HB hb
   (try clear hb)
   (try clear hb2)
   (try clear hk)
   (try clear hi)
   refine hK.out _ _ trivial (fun hHeld => ?_)
   clear hK K
   refine norm_ (a' := ?_) ?_ ?_
   rotate_left
   ·show Act.put _ (some 33) _ = _
    simp only [Act.put, List.setIfInBounds_toArray, List.set_cons_zero, List.set_cons_succ, i64_w, i32_w]
    rfl
   refine purM (i := 8) (N := some 4) #[true, true, true, true, true, true, true, true, true, false, false] ?_
   refine purM (i := 9) (N := some 5) #[true, true, true, true, true, true, true, true, true, true, false] ?_
   refine purM (i := 10) (N := some 6) #[true, true, true, true, true, true, true, true, true, true, true] ?_
   refine done_ (done_of HT_.out (by kernel_rfl)) ?_
   try go_wp2
   go_ret3
   exact ⟨rl, bl HB⟩
  ·replace c5 := Bool.eq_false_iff.mpr c5
   subst c5
   rw [if_neg (show ¬ (false = true) by decide)] at H
   obtain ⟨t220, A13, H⟩ := bo H
   try dsimp only at H
   obtain ⟨t223, A14, H⟩ := bo H
   try dsimp only at H
   obtain ⟨t226, A15, H⟩ := bo H
   try dsimp only at H
   by_cases c16 : t226 < 0
   ·rw [if_pos c16] at H
    have c16b0 := decide_eq_true c16
    clear c16
    simp only [Option.some.injEq, Prod.mk.injEq] at H
    obtain ⟨rfl, rfl, rfl⟩ := H
    go_enter Tryz.func129, Tryz.ntmps129
    go_wp2_with (first | ((with_reducible refine gc (f := 141) rfl ?_); refine goesM (some 21) Tryz.func141 #[.string a0, .string a1] ?_; (with_reducible refine (decimal_both.calls k a0 a1 t215 t216 false _ ?s1 A4.out).mono ?_); (case s1 => exact gb HG0 HB); rintro e w17 ⟨rfl, hb⟩; refine ⟨_, rfl, ?_⟩; replace HB := bs HB hb; (try clear hb)) | ((with_reducible refine gc (f := 142) rfl ?_); refine goesM (some 35) Tryz.func142 #[.string a0] ?_; (with_reducible refine (dCut.calls a0 t220 _ A13.out).mono ?_); rintro e w18 ⟨v221, rfl, ho0, hb⟩; refine ⟨_, rfl, ?_⟩; have HO222 := am (Kd.R_lower ho0 (below_size (bl HB))); replace HB := bs HB hb; (try clear hb); (try clear ho0)) | ((with_reducible refine gc (f := 142) rfl ?_); refine goesM (some 37) Tryz.func142 #[.string a1] ?_; (with_reducible refine (dCut.calls a1 t223 _ A14.out).mono ?_); rintro e w19 ⟨v224, rfl, ho0, hb⟩; refine ⟨_, rfl, ?_⟩; have HO225 := am (Kd.R_lower (Kd.R_new' ho0 (Kd.R_lt (kr HO222))) (below_size (bl HB))); replace HO222 := am (Kd.R_elder' (kr HO222) (Kd.R_base ho0) hb); replace HB := bs HB hb; (try clear hb); (try clear ho0); obtain ⟨Ao20, co20, eo20⟩ := Kd.R_slice HO222.out; subst eo20; obtain ⟨Ao21, co21, eo21⟩ := Kd.R_slice HO225.out; subst eo21) | ((with_reducible refine gc (f := 154) rfl ?_); refine goesM (some 40) Tryz.func154 #[.slice Ao20 t220.length co20, .slice Ao21 t223.length co21] ?_; (with_reducible refine (decimal_pieces_compare.calls k _ _ t220 _ _ t223 t226 _ ?s1 ?s2 ?s3 ?s4 A15.out).mono ?_); (case s1 => exact cR HO222); (case s2 => exact (Kd.R_reads' HO222.out).2.1); (case s3 => exact cR HO225); (case s4 => exact (Kd.R_reads' HO225.out).2.1); rintro e w22 ⟨rfl, hb⟩; refine ⟨_, rfl, ?_⟩; replace HO222 := rb HO222 hb; replace HO225 := rb HO225 hb; replace HB := bs HB hb; (try clear hb)))
    go_ret3
    exact ⟨rl, bl HB⟩
   ·rw [if_neg c16] at H
    have c16b0 := decide_eq_false c16
    clear c16
    by_cases c23 : (t223.length : Int) = 1
    ·rw [if_pos c23] at H
     have c23b0 := beq_iff_eq.mpr c23
     have c23b1 := bne_eq_false_iff_eq.mpr c23
     clear c23
     by_cases c24 : 0 < (t223.length : Int)
     case neg => rw [if_neg c24] at H; cases H
     rw [if_pos c24] at H
     have c24b0 := decide_eq_true c24
     have c24b1 : decide (0 < t223.length) = true := decide_eq_true (by omega)
     clear c24
     obtain ⟨⟨t228, t229⟩, A25, H⟩ := bo H
     try dsimp only at H
     obtain ⟨t232, A26, H⟩ := bo H
     try dsimp only at H
     obtain ⟨t233, A27, H⟩ := bo H
     try dsimp only at H
     simp only [Option.some.injEq, Prod.mk.injEq] at H
     obtain ⟨rfl, rfl, rfl⟩ := H
     go_enter Tryz.func129, Tryz.ntmps129
     go_wp2_with (first | ((with_reducible refine gc (f := 141) rfl ?_); refine goesM (some 21) Tryz.func141 #[.string a0, .string a1] ?_; (with_reducible refine (decimal_both.calls k a0 a1 t215 t216 false _ ?s1 A4.out).mono ?_); (case s1 => exact gb HG0 HB); rintro e w28 ⟨rfl, hb⟩; refine ⟨_, rfl, ?_⟩; replace HB := bs HB hb; (try clear hb)) | ((with_reducible refine gc (f := 142) rfl ?_); refine goesM (some 35) Tryz.func142 #[.string a0] ?_; (with_reducible refine (dCut.calls a0 t220 _ A13.out).mono ?_); rintro e w29 ⟨v221, rfl, ho0, hb⟩; refine ⟨_, rfl, ?_⟩; have HO222 := am (Kd.R_lower ho0 (below_size (bl HB))); replace HB := bs HB hb; (try clear hb); (try clear ho0)) | ((with_reducible refine gc (f := 142) rfl ?_); refine goesM (some 37) Tryz.func142 #[.string a1] ?_; (with_reducible refine (dCut.calls a1 t223 _ A14.out).mono ?_); rintro e w30 ⟨v224, rfl, ho0, hb⟩; refine ⟨_, rfl, ?_⟩; have HO225 := am (Kd.R_lower (Kd.R_new' ho0 (Kd.R_lt (kr HO222))) (below_size (bl HB))); replace HO222 := am (Kd.R_elder' (kr HO222) (Kd.R_base ho0) hb); replace HB := bs HB hb; (try clear hb); (try clear ho0); obtain ⟨Ao31, co31, eo31⟩ := Kd.R_slice HO222.out; subst eo31; obtain ⟨Ao32, co32, eo32⟩ := Kd.R_slice HO225.out; subst eo32) | ((with_reducible refine gc (f := 154) rfl ?_); refine goesM (some 40) Tryz.func154 #[.slice Ao31 t220.length co31, .slice Ao32 t223.length co32] ?_; (with_reducible refine (decimal_pieces_compare.calls k _ _ t220 _ _ t223 t226 _ ?s1 ?s2 ?s3 ?s4 A15.out).mono ?_); (case s1 => exact cR HO222); (case s2 => exact (Kd.R_reads' HO222.out).2.1); (case s3 => exact cR HO225); (case s4 => exact (Kd.R_reads' HO225.out).2.1); rintro e w33 ⟨rfl, hb⟩; refine ⟨_, rfl, ?_⟩; replace HO222 := rb HO222 hb; replace HO225 := rb HO225 hb; replace HB := bs HB hb; (try clear hb); have p227 : 0 ≤ (0 : Int) := (by omega); have q227 : 0 < (t223.length : Int) := of_decide_eq_true (by first | (with_reducible assumption) | assumption); obtain ⟨ad227, e227, hx227_0⟩ := Kd.at_int (Kd.R_reads' HO225.out).2.2 0 p227 q227; cases e227; have qi227 : (0 < t223.length) = True := eq_true (by omega); (try rw [show ((0 : Int)).toNat = 0 from rfl] at hx227_0); (try rw [Addr.add_zero'] at hx227_0); replace p227 := eq_true p227; replace q227 := eq_true q227) | ((with_reducible refine gc (f := 155) rfl ?_); refine goesM (some 51) Tryz.func155 #[.slice Ao31 t220.length co31, .int .u64 (rd t223 0)] ?_; (with_reducible refine (decimal_pieces_small.calls k _ _ t220 (rd t223 0) t228 t229 _ ?s1 ?s2 A25.out).mono ?_); (case s1 => exact cR HO222); (case s2 => exact (Kd.R_reads' HO222.out).2.1); rintro e w34 ⟨v230, rfl, ho0, hb⟩; refine ⟨_, rfl, ?_⟩; have HO231 := am (Kd.R_lower (Kd.R_new' (Kd.R_new' ho0 (Kd.R_lt (kr HO222))) (Kd.R_lt (kr HO225))) (below_size (bl HB))); replace HO222 := am (Kd.R_elder' (kr HO222) (Kd.R_base ho0) hb); replace HO225 := am (Kd.R_elder' (kr HO225) (Kd.R_base ho0) hb); replace HB := bs HB hb; (try clear hb); (try clear ho0); obtain ⟨Ao35, co35, eo35⟩ := Kd.R_slice HO231.out; subst eo35) | ((with_reducible refine gc (f := 144) rfl ?_); refine goesM (some 55) Tryz.func144 #[.slice Ao35 t228.length co35] ?_; (with_reducible refine (decimal_pieces_text.calls k _ _ t228 t232 _ ?s1 ?s2 A26.out).mono ?_); (case s1 => exact cR HO231); (case s2 => exact (Kd.R_reads' HO231.out).2.1); rintro e w36 ⟨rfl, hb⟩; refine ⟨_, rfl, ?_⟩; replace HO222 := rb HO222 hb; replace HO225 := rb HO225 hb; replace HO231 := rb HO231 hb; replace HB := bs HB hb; (try clear hb)) | ((with_reducible refine gc (f := 122) rfl ?_); refine goesM (some 57) Tryz.func122 #[.int .u64 t229] ?_; (with_reducible refine (decimal_Of.calls t229 t233 _ ?s1 A27.out).mono ?_); (case s1 => exact gb HG0 HB); rintro e w37 ⟨rfl, hb⟩; refine ⟨_, rfl, ?_⟩; replace HO222 := rb HO222 hb; replace HO225 := rb HO225 hb; replace HO231 := rb HO231 hb; replace HB := bs HB hb; (try clear hb)))
     go_ret3
     exact ⟨rl, bl HB⟩
    ·rw [if_neg c23] at H
     have c23b0 := beq_eq_false_iff_ne.mpr c23
     have c23b1 := bne_iff_ne.mpr c23
     obtain ⟨⟨t234, t235⟩, A38, H⟩ := bo H
     try dsimp only at H
     obtain ⟨t240, A39, H⟩ := bo H
     try dsimp only at H
     obtain ⟨t241, A40, H⟩ := bo H
     try dsimp only at H
     simp only [Option.some.injEq, Prod.mk.injEq] at H
     obtain ⟨rfl, rfl, rfl⟩ := H
     go_enter Tryz.func129, Tryz.ntmps129
     go_wp2_with (first | ((with_reducible refine gc (f := 141) rfl ?_); refine goesM (some 21) Tryz.func141 #[.string a0, .string a1] ?_; (with_reducible refine (decimal_both.calls k a0 a1 t215 t216 false _ ?s1 A4.out).mono ?_); (case s1 => exact gb HG0 HB); rintro e w41 ⟨rfl, hb⟩; refine ⟨_, rfl, ?_⟩; replace HB := bs HB hb; (try clear hb)) | ((with_reducible refine gc (f := 142) rfl ?_); refine goesM (some 35) Tryz.func142 #[.string a0] ?_; (with_reducible refine (dCut.calls a0 t220 _ A13.out).mono ?_); rintro e w42 ⟨v221, rfl, ho0, hb⟩; refine ⟨_, rfl, ?_⟩; have HO222 := am (Kd.R_lower ho0 (below_size (bl HB))); replace HB := bs HB hb; (try clear hb); (try clear ho0)) | ((with_reducible refine gc (f := 142) rfl ?_); refine goesM (some 37) Tryz.func142 #[.string a1] ?_; (with_reducible refine (dCut.calls a1 t223 _ A14.out).mono ?_); rintro e w43 ⟨v224, rfl, ho0, hb⟩; refine ⟨_, rfl, ?_⟩; have HO225 := am (Kd.R_lower (Kd.R_new' ho0 (Kd.R_lt (kr HO222))) (below_size (bl HB))); replace HO222 := am (Kd.R_elder' (kr HO222) (Kd.R_base ho0) hb); replace HB := bs HB hb; (try clear hb); (try clear ho0); obtain ⟨Ao44, co44, eo44⟩ := Kd.R_slice HO222.out; subst eo44; obtain ⟨Ao45, co45, eo45⟩ := Kd.R_slice HO225.out; subst eo45) | ((with_reducible refine gc (f := 154) rfl ?_); refine goesM (some 40) Tryz.func154 #[.slice Ao44 t220.length co44, .slice Ao45 t223.length co45] ?_; (with_reducible refine (decimal_pieces_compare.calls k _ _ t220 _ _ t223 t226 _ ?s1 ?s2 ?s3 ?s4 A15.out).mono ?_); (case s1 => exact cR HO222); (case s2 => exact (Kd.R_reads' HO222.out).2.1); (case s3 => exact cR HO225); (case s4 => exact (Kd.R_reads' HO225.out).2.1); rintro e w46 ⟨rfl, hb⟩; refine ⟨_, rfl, ?_⟩; replace HO222 := rb HO222 hb; replace HO225 := rb HO225 hb; replace HB := bs HB hb; (try clear hb)) | ((with_reducible refine gc (f := 156) rfl ?_); refine goesM (some 61) Tryz.func156 #[.slice Ao44 t220.length co44, .slice Ao45 t223.length co45] ?_; (with_reducible refine (decimal_pieces_divide.calls k _ _ t220 _ _ t223 t234 t235 _ ?s1 ?s2 ?s3 ?s4 A38.out).mono ?_); (case s1 => exact cR HO222); (case s2 => exact (Kd.R_reads' HO222.out).2.1); (case s3 => exact cR HO225); (case s4 => exact (Kd.R_reads' HO225.out).2.1); rintro e w47 ⟨v236, v238, rfl, ho0, ho1, hb⟩; refine ⟨_, rfl, ?_⟩; have HO237 := am (Kd.R_lower (Kd.R_new' (Kd.R_new' ho0 (Kd.R_lt (kr HO222))) (Kd.R_lt (kr HO225))) (below_size (bl HB))); have HO239 := am (Kd.R_lower (Kd.R_new' (Kd.R_new' ho1 (Kd.R_lt (kr HO222))) (Kd.R_lt (kr HO225))) (below_size (bl HB))); replace HO222 := am (Kd.R_mono (Kd.R_told (Kd.R_told (Kd.R_old (kr HO222) hb) (Kd.R_base ho0)) (Kd.R_base ho1)) (fun _ h_ => h_.1)); replace HO225 := am (Kd.R_mono (Kd.R_told (Kd.R_told (Kd.R_old (kr HO225) hb) (Kd.R_base ho0)) (Kd.R_base ho1)) (fun _ h_ => h_.1)); replace HB := bs HB hb; (try clear hb); (try clear ho0); (try clear ho1); obtain ⟨Ao48, co48, eo48⟩ := Kd.R_slice HO237.out; subst eo48) | ((with_reducible refine gc (f := 144) rfl ?_); refine goesM (some 65) Tryz.func144 #[.slice Ao48 t234.length co48] ?_; (with_reducible refine (decimal_pieces_text.calls k _ _ t234 t240 _ ?s1 ?s2 A39.out).mono ?_); (case s1 => exact cR HO237); (case s2 => exact (Kd.R_reads' HO237.out).2.1); rintro e w49 ⟨rfl, hb⟩; refine ⟨_, rfl, ?_⟩; replace HO222 := rb HO222 hb; replace HO225 := rb HO225 hb; replace HO237 := rb HO237 hb; replace HO239 := rb HO239 hb; replace HB := bs HB hb; (try clear hb); obtain ⟨Ao50, co50, eo50⟩ := Kd.R_slice HO239.out; subst eo50) | ((with_reducible refine gc (f := 144) rfl ?_); refine goesM (some 67) Tryz.func144 #[.slice Ao50 t235.length co50] ?_; (with_reducible refine (decimal_pieces_text.calls k _ _ t235 t241 _ ?s1 ?s2 A40.out).mono ?_); (case s1 => exact cR HO239); (case s2 => exact (Kd.R_reads' HO239.out).2.1); rintro e w51 ⟨rfl, hb⟩; refine ⟨_, rfl, ?_⟩; replace HO222 := rb HO222 hb; replace HO225 := rb HO225 hb; replace HO237 := rb HO237 hb; replace HO239 := rb HO239 hb; replace HB := bs HB hb; (try clear hb)))
     go_ret3
     exact ⟨rl, bl HB⟩
def decimal_Gcd.l0 : Nat → ByteArray → ByteArray → Option (ByteArray)
 | 0, _, _ => none
 | k + 1, x0, x1 => if x1.toList = ([48] : List UInt8) then (some x0) else ((decimal_DivMod.f k x0 x1).bind fun bt242 => (if bt242.2.2 = 0 then (decimal_Gcd.l0 k x1 bt242.2.1) else (some (⟨#[]⟩ : ByteArray))))
def decimal_Gcd.f (k : Nat) (a0 : ByteArray) (a1 : ByteArray) : Option (ByteArray) := decimal_Gcd.l0 k a0 a1
theorem decimal_Gcd.calls (k : Nat) (a0 : ByteArray) (a1 : ByteArray) (r : ByteArray) (w : World) (hG : Glob w) (h : decimal_Gcd.f k a0 a1 = some r) :
  Calls Tryz.prog 99 #[.string a0, .string a1] w fun e w' => e = .returned (.string r) ∧ Below w.heap.size w w' := by
 have HG0 := am hG
 clear hG
 have HB := am (Below.refl w.heap.size w)
 have H := h
 unfold decimal_Gcd.f at H
 clear h
 have H' := am H
 clear H
 go_enter Tryz.func99, Tryz.ntmps99
 go_wp2
 go_loopg [0, 1] k (fun kq v0 v1 w' => ∃ (x0_1 : ByteArray) (x1_1 : ByteArray), v0 = .string x0_1 ∧ v1 = .string x1_1 ∧ Aside0 (decimal_Gcd.l0 kq x0_1 x1_1 = some r) ∧ Aside0 (kq ≤ k) ∧ Aside0 (Below w.heap.size w w'))
 case atStart => exact ⟨(a0), (a1), rs, rs, H', ⟨Nat.le_refl _⟩, ⟨bl HB⟩⟩
 case round =>
  clear H'
  try clear p2
  obtain ⟨x0_1, x1_1, rfl, rfl, HA, HK1, HB⟩ := hrel
  cases gk with
  | zero => exact absurd HA.out (by simp [decimal_Gcd.l0])
  | succ k1 =>
   have H := HA.out
   clear HA
   simp only [decimal_Gcd.l0] at H
   by_cases c3 : x1_1.toList = ([48] : List UInt8)
   ·rw [if_pos c3] at H
    have c3b0 := beq_iff_eq.mpr c3
    have c3b1 := bne_eq_false_iff_eq.mpr c3
    clear c3
    obtain rfl := Option.some.inj H
    go_wp2
    go_ret
    exact ⟨rl, bl HB⟩
   ·rw [if_neg c3] at H
    have c3b0 := beq_eq_false_iff_ne.mpr c3
    have c3b1 := bne_iff_ne.mpr c3
    obtain ⟨⟨t242, t243, t244⟩, A4, H⟩ := bo H
    try dsimp only at H
    by_cases c5 : t244 = 0
    ·rw [if_pos c5] at H
     have c5b0 := beq_iff_eq.mpr c5
     have c5b1 := bne_eq_false_iff_eq.mpr c5
     clear c5
     have H' := am H
     clear H
     go_wp2_with (first | ((with_reducible refine gc (f := 129) rfl ?_); refine goesM (some 13) Tryz.func129 #[.string x0_1, .string x1_1] ?_; (with_reducible refine (decimal_DivMod.calls k1 x0_1 x1_1 t242 t243 t244 _ ?s1 A4.out).mono ?_); (case s1 => exact gb HG0 HB); rintro e w6 ⟨rfl, hb⟩; refine ⟨_, rfl, ?_⟩; replace HB := bs HB hb; (try clear hb)))
     go_roundg k1
     case measure => have := HK1.out; omega
     case rel => exact ⟨(x1_1), (t243), rs, rs, H', ⟨by have := HK1.out; omega⟩, ⟨bl HB⟩⟩
    ·rw [if_neg c5] at H
     have c5b0 := beq_eq_false_iff_ne.mpr c5
     have c5b1 := bne_iff_ne.mpr c5
     obtain rfl := Option.some.inj H
     go_wp2_with (first | ((with_reducible refine gc (f := 129) rfl ?_); refine goesM (some 13) Tryz.func129 #[.string x0_1, .string x1_1] ?_; (with_reducible refine (decimal_DivMod.calls k1 x0_1 x1_1 t242 t243 t244 _ ?s1 A4.out).mono ?_); (case s1 => exact gb HG0 HB); rintro e w7 ⟨rfl, hb⟩; refine ⟨_, rfl, ?_⟩; replace HB := bs HB hb; (try clear hb)))
     go_ret
     exact ⟨rl, bl HB⟩
def whole_Gcd.f (k : Nat) (a0 : ByteArray) (a1 : ByteArray) : Option (ByteArray) := (whole_Abs.f a0).bind fun t245 => ((whole_Abs.f a1).bind fun t246 => ((wLittle.f t245 18).bind fun bt247 => (if bt247.2 = true then ((wLittle.f t246 18).bind fun bt249 => (if bt249.2 = true then ((whole_gcd.f k bt247.1 bt249.1).bind fun t251 => ((whole_Of.f t251).bind fun t252 => (some t252))) else ((decimal_Gcd.f k t245 t246).bind fun t253 => (some t253)))) else ((decimal_Gcd.f k t245 t246).bind fun t254 => (some t254)))))
theorem whole_Gcd.calls (k : Nat) (a0 : ByteArray) (a1 : ByteArray) (r : ByteArray) (w : World) (hG : Glob w) (h : whole_Gcd.f k a0 a1 = some r) :
  Calls Tryz.prog 55 #[.string a0, .string a1] w fun e w' => e = .returned (.string r) ∧ Below w.heap.size w w' := by
 have HG0 := am hG
 clear hG
 have HB := am (Below.refl w.heap.size w)
 have H := h
 unfold whole_Gcd.f at H
 clear h
 obtain ⟨t245, A3, H⟩ := bo H
 try dsimp only at H
 obtain ⟨t246, A4, H⟩ := bo H
 try dsimp only at H
 obtain ⟨⟨t247, t248⟩, A5, H⟩ := bo H
 try dsimp only at H
 by_cases c6 : t248 = true
 ·subst c6
  rw [if_pos rfl] at H
  obtain ⟨⟨t249, t250⟩, A7, H⟩ := bo H
  try dsimp only at H
  by_cases c8 : t250 = true
  ·subst c8
   rw [if_pos rfl] at H
   obtain ⟨t251, A9, H⟩ := bo H
   try dsimp only at H
   obtain ⟨t252, A10, H⟩ := bo H
   try dsimp only at H
   obtain rfl := Option.some.inj H
   go_enter Tryz.func55, Tryz.ntmps55
   go_wp2_with (first | ((with_reducible refine gc (f := 63) rfl ?_); refine goesM (some 12) Tryz.func63 #[.string a0] ?_; (with_reducible refine (whole_Abs.calls a0 t245 _ A3.out).mono ?_); rintro e w' ⟨rfl, ⟨nd, rfl⟩⟩; refine ⟨_, rfl, ?_⟩) | ((with_reducible refine gc (f := 63) rfl ?_); refine goesM (some 14) Tryz.func63 #[.string a1] ?_; (with_reducible refine (whole_Abs.calls a1 t246 _ A4.out).mono ?_); rintro e w' ⟨rfl, ⟨nd, rfl⟩⟩; refine ⟨_, rfl, ?_⟩) | ((with_reducible refine gc (f := 96) rfl ?_); refine goesM (some 17) Tryz.func96 #[.string t245, .int .i64 18] ?_; (with_reducible refine (wLittle.calls t245 18 t247 true _ ?s1 A5.out).mono ?_); (case s1 => exact gb HG0 HB); rintro e w11 ⟨rfl, hb⟩; refine ⟨_, rfl, ?_⟩; replace HB := bs HB hb; (try clear hb)) | ((with_reducible refine gc (f := 96) rfl ?_); refine goesM (some 23) Tryz.func96 #[.string t246, .int .i64 18] ?_; (with_reducible refine (wLittle.calls t246 18 t249 true _ ?s1 A7.out).mono ?_); (case s1 => exact gb HG0 HB); rintro e w12 ⟨rfl, hb⟩; refine ⟨_, rfl, ?_⟩; replace HB := bs HB hb; (try clear hb)) | ((with_reducible refine gc (f := 98) rfl ?_); refine goesM (some 29) Tryz.func98 #[.int .i64 t247, .int .i64 t249] ?_; (with_reducible refine (whole_gcd.calls k t247 t249 t251 _ A9.out).mono ?_); rintro e w' ⟨rfl, ⟨nd, rfl⟩⟩; refine ⟨_, rfl, ?_⟩) | ((with_reducible refine gc (f := 97) rfl ?_); refine goesM (some 30) Tryz.func97 #[.int .i64 t251] ?_; (with_reducible refine (whole_Of.calls t251 t252 _ ?s1 A10.out).mono ?_); (case s1 => exact gb HG0 HB); rintro e w13 ⟨rfl, hb⟩; refine ⟨_, rfl, ?_⟩; replace HB := bs HB hb; (try clear hb)))
   go_ret
   exact ⟨rl, bl HB⟩
  ·replace c8 := Bool.eq_false_iff.mpr c8
   subst c8
   rw [if_neg (show ¬ (false = true) by decide)] at H
   obtain ⟨t253, A14, H⟩ := bo H
   try dsimp only at H
   obtain rfl := Option.some.inj H
   go_enter Tryz.func55, Tryz.ntmps55
   go_wp2_with (first | ((with_reducible refine gc (f := 63) rfl ?_); refine goesM (some 12) Tryz.func63 #[.string a0] ?_; (with_reducible refine (whole_Abs.calls a0 t245 _ A3.out).mono ?_); rintro e w' ⟨rfl, ⟨nd, rfl⟩⟩; refine ⟨_, rfl, ?_⟩) | ((with_reducible refine gc (f := 63) rfl ?_); refine goesM (some 14) Tryz.func63 #[.string a1] ?_; (with_reducible refine (whole_Abs.calls a1 t246 _ A4.out).mono ?_); rintro e w' ⟨rfl, ⟨nd, rfl⟩⟩; refine ⟨_, rfl, ?_⟩) | ((with_reducible refine gc (f := 96) rfl ?_); refine goesM (some 17) Tryz.func96 #[.string t245, .int .i64 18] ?_; (with_reducible refine (wLittle.calls t245 18 t247 true _ ?s1 A5.out).mono ?_); (case s1 => exact gb HG0 HB); rintro e w15 ⟨rfl, hb⟩; refine ⟨_, rfl, ?_⟩; replace HB := bs HB hb; (try clear hb)) | ((with_reducible refine gc (f := 96) rfl ?_); refine goesM (some 23) Tryz.func96 #[.string t246, .int .i64 18] ?_; (with_reducible refine (wLittle.calls t246 18 t249 false _ ?s1 A7.out).mono ?_); (case s1 => exact gb HG0 HB); rintro e w16 ⟨rfl, hb⟩; refine ⟨_, rfl, ?_⟩; replace HB := bs HB hb; (try clear hb)) | ((with_reducible refine gc (f := 99) rfl ?_); refine goesM (some 33) Tryz.func99 #[.string t245, .string t246] ?_; (with_reducible refine (decimal_Gcd.calls k t245 t246 t253 _ ?s1 A14.out).mono ?_); (case s1 => exact gb HG0 HB); rintro e w17 ⟨rfl, hb⟩; refine ⟨_, rfl, ?_⟩; replace HB := bs HB hb; (try clear hb)))
   go_ret
   exact ⟨rl, bl HB⟩
 ·replace c6 := Bool.eq_false_iff.mpr c6
  subst c6
  rw [if_neg (show ¬ (false = true) by decide)] at H
  obtain ⟨t254, A18, H⟩ := bo H
  try dsimp only at H
  obtain rfl := Option.some.inj H
  go_enter Tryz.func55, Tryz.ntmps55
  go_wp2_with (first | ((with_reducible refine gc (f := 63) rfl ?_); refine goesM (some 12) Tryz.func63 #[.string a0] ?_; (with_reducible refine (whole_Abs.calls a0 t245 _ A3.out).mono ?_); rintro e w' ⟨rfl, ⟨nd, rfl⟩⟩; refine ⟨_, rfl, ?_⟩) | ((with_reducible refine gc (f := 63) rfl ?_); refine goesM (some 14) Tryz.func63 #[.string a1] ?_; (with_reducible refine (whole_Abs.calls a1 t246 _ A4.out).mono ?_); rintro e w' ⟨rfl, ⟨nd, rfl⟩⟩; refine ⟨_, rfl, ?_⟩) | ((with_reducible refine gc (f := 96) rfl ?_); refine goesM (some 17) Tryz.func96 #[.string t245, .int .i64 18] ?_; (with_reducible refine (wLittle.calls t245 18 t247 false _ ?s1 A5.out).mono ?_); (case s1 => exact gb HG0 HB); rintro e w19 ⟨rfl, hb⟩; refine ⟨_, rfl, ?_⟩; replace HB := bs HB hb; (try clear hb)) | ((with_reducible refine gc (f := 99) rfl ?_); refine goesM (some 33) Tryz.func99 #[.string t245, .string t246] ?_; (with_reducible refine (decimal_Gcd.calls k t245 t246 t254 _ ?s1 A18.out).mono ?_); (case s1 => exact gb HG0 HB); rintro e w20 ⟨rfl, hb⟩; refine ⟨_, rfl, ?_⟩; replace HB := bs HB hb; (try clear hb)))
  go_ret
  exact ⟨rl, bl HB⟩
def fraction_Check.j0 : Nat → Bool → ByteArray → ByteArray → Option (Int)
 | 0, _, _, _ => none
 | k + 1, x3, x256000, x256001 => if x3 = true then (some 2) else ((whole_Sign.f x256001).bind fun t258 => (if t258 ≤ 0 then (some 2) else ((whole_Gcd.f k x256000 x256001).bind fun t259 => (if t259.toList = ([49] : List UInt8) then (some 0) else (some 2)))))
def fraction_Check.f (k : Nat) (a0_0 : ByteArray) (a0_1 : ByteArray) : Option (Int) := (whole_Check.f a0_0).bind fun t256 => (if t256 = 0 then ((whole_Check.f a0_1).bind fun t257 => (fraction_Check.j0 k (t257 != 0) a0_0 a0_1)) else (fraction_Check.j0 k (t256 != 0) a0_0 a0_1))
theorem fraction_Check.calls (k : Nat) (a0_0 : ByteArray) (a0_1 : ByteArray) (r : Int) (w : World) (hG : Glob w) (h : fraction_Check.f k a0_0 a0_1 = some r) :
  Calls Tryz.prog 14 #[.agg #[.string a0_0, .string a0_1]] w fun e w' => e = .returned (.int .i64 r) ∧ Below w.heap.size w w' := by
 have hu30 := Tryz.underlying30
 have HG0 := am hG
 clear hG
 have HB := am (Below.refl w.heap.size w)
 have H := h
 unfold fraction_Check.f at H
 clear h
 obtain ⟨t256, A2, H⟩ := bo H
 try dsimp only at H
 have HC3 := am H
 clear H
 go_enter Tryz.func14, Tryz.ntmps14
 go_upto_if 3 with (first | ((with_reducible refine gd (N := 1) rfl ?_); refine boxM (N := 1) #[.string a0_0, .string a0_1] 30 ?_; intro gb255 hg w4 hbox hb; have BK255 := am (hbox); have GW255 := gw hg HB; have GE255 := GW255; replace HB := bs HB hb; clear hb hbox hg; have hcz5_0 := bc BK255 0 (.string a0_0); have hcz5_1 := bc BK255 1 (.string a0_1); have hfz5_0 := blk_frozen BK255.out 0; have hfz5_1 := blk_frozen BK255.out 1) | ((with_reducible refine gc (f := 33) rfl ?_); refine goesM (some 6) Tryz.func33 #[.string a0_0] ?_; (with_reducible refine (whole_Check.calls a0_0 t256 _ A2.out).mono ?_); rintro e w6 ⟨rfl, hb⟩; refine ⟨_, rfl, ?_⟩; replace BK255 := kb BK255 hb; replace HB := bs HB hb; (try clear hb)))
 (try simp only [Act.put, List.setIfInBounds_toArray, List.set_cons_zero, List.set_cons_succ])
 go_cut [3] (fun v3 wc => ∃ (kq : Nat) (x3_2 : Bool), v3 = .bool x3_2 ∧ Aside0 (fraction_Check.j0 kq x3_2 a0_0 a0_1 = some r) ∧ Aside0 (kq ≤ k) ∧ Aside0 (wc.heap[gb255]? = some (.cells #[.string a0_0, .string a0_1] 30 (0, 0))) ∧ Aside0 (Below w.heap.size w wc))
 case first =>
  have H := HC3.out
  clear HC3
  by_cases c7 : t256 = 0
  ·rw [if_pos c7] at H
   have c7b0 := beq_iff_eq.mpr c7
   have c7b1 := bne_eq_false_iff_eq.mpr c7
   clear c7
   (first | rw [c7b0] | (simp only [i64_w, i32_w]; rw [c7b0]) | skip)
   obtain ⟨t257, A8, H⟩ := bo H
   try dsimp only at H
   have H' := am H
   clear H
   have hcz9_0 := bc BK255 0 (.string a0_0)
   have hcz9_1 := bc BK255 1 (.string a0_1)
   have hfz9_0 := blk_frozen BK255.out 0
   have hfz9_1 := blk_frozen BK255.out 1
   go_wp2_with (first | ((with_reducible refine gc (f := 33) rfl ?_); refine goesM (some 10) Tryz.func33 #[.string a0_1] ?_; (with_reducible refine (whole_Check.calls a0_1 t257 _ A8.out).mono ?_); rintro e w10 ⟨rfl, hb⟩; refine ⟨_, rfl, ?_⟩; replace BK255 := kb BK255 hb; replace HB := bs HB hb; (try clear hb)))
   go_meet
   case rel => exact ⟨_, ((t257 != 0)), rs, H', ⟨by first | omega | exact Nat.le_refl _⟩, ⟨bk BK255⟩, ⟨bl HB⟩⟩
  ·rw [if_neg c7] at H
   have c7b0 := beq_eq_false_iff_ne.mpr c7
   have c7b1 := bne_iff_ne.mpr c7
   (first | rw [c7b0] | (simp only [i64_w, i32_w]; rw [c7b0]) | skip)
   have H' := am H
   clear H
   go_wp2
   go_meet
   case rel => exact ⟨_, ((t256 != 0)), rs, H', ⟨by first | omega | exact Nat.le_refl _⟩, ⟨bk BK255⟩, ⟨bl HB⟩⟩
 case rest =>
  clear HC3
  try clear c1
  try clear p2
  try clear c3
  try clear c7
  try clear c7b0
  try clear c7b1
  try clear hcz5_0
  try clear hcz5_1
  try clear hcz9_0
  try clear hcz9_1
  try clear hfz5_0
  try clear hfz5_1
  try clear hfz9_0
  try clear hfz9_1
  obtain ⟨kq, x3_2, rfl, HA, HJ2, BK255, HB⟩ := hcut
  cases kq with
  | zero => exact absurd HA.out (by simp [fraction_Check.j0])
  | succ kj2 =>
   have H := HA.out
   clear HA
   simp only [fraction_Check.j0] at H
   by_cases c11 : x3_2 = true
   ·subst c11
    rw [if_pos rfl] at H
    obtain rfl := Option.some.inj H
    go_wp2
    go_ret
    exact ⟨rl, bl HB⟩
   ·replace c11 := Bool.eq_false_iff.mpr c11
    subst c11
    rw [if_neg (show ¬ (false = true) by decide)] at H
    obtain ⟨t258, A12, H⟩ := bo H
    try dsimp only at H
    by_cases c13 : t258 ≤ 0
    ·rw [if_pos c13] at H
     have c13b0 := decide_eq_true c13
     clear c13
     obtain rfl := Option.some.inj H
     have hcz14_0 := bc BK255 0 (.string a0_0)
     have hcz14_1 := bc BK255 1 (.string a0_1)
     have hfz14_0 := blk_frozen BK255.out 0
     have hfz14_1 := blk_frozen BK255.out 1
     go_wp2_with (first | ((with_reducible refine gc (f := 54) rfl ?_); refine goesM (some 15) Tryz.func54 #[.string a0_1] ?_; (with_reducible refine (whole_Sign.calls a0_1 t258 _ A12.out).mono ?_); rintro e w' ⟨rfl, ⟨nd, rfl⟩⟩; refine ⟨_, rfl, ?_⟩))
     go_ret
     exact ⟨rl, bl HB⟩
    ·rw [if_neg c13] at H
     have c13b0 := decide_eq_false c13
     clear c13
     obtain ⟨t259, A15, H⟩ := bo H
     try dsimp only at H
     by_cases c16 : t259.toList = ([49] : List UInt8)
     ·rw [if_pos c16] at H
      have c16b0 := beq_iff_eq.mpr c16
      have c16b1 := bne_eq_false_iff_eq.mpr c16
      clear c16
      obtain rfl := Option.some.inj H
      have hcz17_0 := bc BK255 0 (.string a0_0)
      have hcz17_1 := bc BK255 1 (.string a0_1)
      have hfz17_0 := blk_frozen BK255.out 0
      have hfz17_1 := blk_frozen BK255.out 1
      go_wp2_with (first | ((with_reducible refine gc (f := 54) rfl ?_); refine goesM (some 15) Tryz.func54 #[.string a0_1] ?_; (with_reducible refine (whole_Sign.calls a0_1 t258 _ A12.out).mono ?_); rintro e w' ⟨rfl, ⟨nd, rfl⟩⟩; refine ⟨_, rfl, ?_⟩) | ((with_reducible refine gc (f := 55) rfl ?_); refine goesM (some 21) Tryz.func55 #[.string a0_0, .string a0_1] ?_; (with_reducible refine (whole_Gcd.calls kj2 a0_0 a0_1 t259 _ ?s1 A15.out).mono ?_); (case s1 => exact gb HG0 HB); rintro e w18 ⟨rfl, hb⟩; refine ⟨_, rfl, ?_⟩; replace BK255 := kb BK255 hb; replace HB := bs HB hb; (try clear hb)))
      go_ret
      exact ⟨rl, bl HB⟩
     ·rw [if_neg c16] at H
      have c16b0 := beq_eq_false_iff_ne.mpr c16
      have c16b1 := bne_iff_ne.mpr c16
      obtain rfl := Option.some.inj H
      have hcz19_0 := bc BK255 0 (.string a0_0)
      have hcz19_1 := bc BK255 1 (.string a0_1)
      have hfz19_0 := blk_frozen BK255.out 0
      have hfz19_1 := blk_frozen BK255.out 1
      go_wp2_with (first | ((with_reducible refine gc (f := 54) rfl ?_); refine goesM (some 15) Tryz.func54 #[.string a0_1] ?_; (with_reducible refine (whole_Sign.calls a0_1 t258 _ A12.out).mono ?_); rintro e w' ⟨rfl, ⟨nd, rfl⟩⟩; refine ⟨_, rfl, ?_⟩) | ((with_reducible refine gc (f := 55) rfl ?_); refine goesM (some 21) Tryz.func55 #[.string a0_0, .string a0_1] ?_; (with_reducible refine (whole_Gcd.calls kj2 a0_0 a0_1 t259 _ ?s1 A15.out).mono ?_); (case s1 => exact gb HG0 HB); rintro e w20 ⟨rfl, hb⟩; refine ⟨_, rfl, ?_⟩; replace BK255 := kb BK255 hb; replace HB := bs HB hb; (try clear hb)))
      go_ret
      exact ⟨rl, bl HB⟩
def size_Combine_1.f (k : Nat) (a0_0 : ByteArray) (a0_1 : ByteArray) : Option (Bool) := (fraction_Check.f k a0_0 a0_1).bind fun t261 => (some (t261 != 0))
theorem size_Combine_1.calls (k : Nat) (a0_0 : ByteArray) (a0_1 : ByteArray) (r : Bool) (w : World) (hG : Glob w) (h : size_Combine_1.f k a0_0 a0_1 = some r) :
  Calls Tryz.prog 57 #[.agg #[.string a0_0, .string a0_1]] w fun e w' => e = .returned (.bool r) ∧ Below w.heap.size w w' := by
 have hu30 := Tryz.underlying30
 have HG0 := am hG
 clear hG
 have HB := am (Below.refl w.heap.size w)
 have H := h
 unfold size_Combine_1.f at H
 clear h
 obtain ⟨t261, A2, H⟩ := bo H
 try dsimp only at H
 obtain rfl := Option.some.inj H
 go_enter Tryz.func57, Tryz.ntmps57
 go_wp2_with (first | ((with_reducible refine gd (N := 1) rfl ?_); refine boxM (N := 1) #[.string a0_0, .string a0_1] 30 ?_; intro gb260 hg w3 hbox hb; have BK260 := am (hbox); have GW260 := gw hg HB; have GE260 := GW260; replace HB := bs HB hb; clear hb hbox hg; have hcz4_0 := bc BK260 0 (.string a0_0); have hcz4_1 := bc BK260 1 (.string a0_1); have hfz4_0 := blk_frozen BK260.out 0; have hfz4_1 := blk_frozen BK260.out 1) | ((with_reducible refine gc (f := 14) rfl ?_); refine goesM (some 4) Tryz.func14 #[.agg #[.string a0_0, .string a0_1]] ?_; (with_reducible refine (fraction_Check.calls k a0_0 a0_1 t261 _ ?s1 A2.out).mono ?_); (case s1 => exact gb HG0 HB); rintro e w5 ⟨rfl, hb⟩; refine ⟨_, rfl, ?_⟩; replace BK260 := kb BK260 hb; replace HB := bs HB hb; (try clear hb)))
 go_ret
 exact ⟨rl, bl HB⟩
def size_short.f (a0_0 : ByteArray) (a0_1 : ByteArray) : Option (Bool) := (whole_Abs.f a0_0).bind fun t263 => (if (t263.size : Int) ≤ 30 then (some (decide ((a0_1.size : Int) ≤ 30))) else (some false))
theorem size_short.calls (a0_0 : ByteArray) (a0_1 : ByteArray) (r : Bool) (w : World) (h : size_short.f a0_0 a0_1 = some r) :
  Calls Tryz.prog 103 #[.agg #[.string a0_0, .string a0_1]] w fun e w' => e = .returned (.bool r) ∧ Below w.heap.size w w' := by
 have hu30 := Tryz.underlying30
 have HB := am (Below.refl w.heap.size w)
 have H := h
 unfold size_short.f at H
 clear h
 obtain ⟨t263, A2, H⟩ := bo H
 try dsimp only at H
 by_cases c3 : (t263.size : Int) ≤ 30
 ·rw [if_pos c3] at H
  have c3b0 := decide_eq_true c3
  have c3b1 : decide (t263.size ≤ 30) = true := decide_eq_true (by omega)
  clear c3
  obtain rfl := Option.some.inj H
  go_enter Tryz.func103, Tryz.ntmps103
  go_wp2_with (first | ((with_reducible refine gd (N := 1) rfl ?_); (try (refine gate_guard (by rfl) ?_; dsimp only)); refine boxM (N := 1) #[.string a0_0, .string a0_1] 30 ?_; intro gb262 hg w4 hbox hb; have BK262 := am (hbox); have GW262 := gw hg HB; have GE262 := GW262; replace HB := bs HB hb; clear hb hbox hg; have hcz5_0 := bc BK262 0 (.string a0_0); have hcz5_1 := bc BK262 1 (.string a0_1); have hfz5_0 := blk_frozen BK262.out 0; have hfz5_1 := blk_frozen BK262.out 1) | ((with_reducible refine gc (f := 63) rfl ?_); refine goesM (some 5) Tryz.func63 #[.string a0_0] ?_; (with_reducible refine (whole_Abs.calls a0_0 t263 _ A2.out).mono ?_); rintro e w' ⟨rfl, ⟨nd, rfl⟩⟩; refine ⟨_, rfl, ?_⟩))
  go_ret
  exact ⟨rl, bl HB⟩
 ·rw [if_neg c3] at H
  have c3b0 := decide_eq_false c3
  have c3b1 : decide (t263.size ≤ 30) = false := decide_eq_false (by omega)
  clear c3
  obtain rfl := Option.some.inj H
  go_enter Tryz.func103, Tryz.ntmps103
  go_wp2_with (first | ((with_reducible refine gd (N := 1) rfl ?_); (try (refine gate_guard (by rfl) ?_; dsimp only)); refine boxM (N := 1) #[.string a0_0, .string a0_1] 30 ?_; intro gb262 hg w6 hbox hb; have BK262 := am (hbox); have GW262 := gw hg HB; have GE262 := GW262; replace HB := bs HB hb; clear hb hbox hg; have hcz7_0 := bc BK262 0 (.string a0_0); have hcz7_1 := bc BK262 1 (.string a0_1); have hfz7_0 := blk_frozen BK262.out 0; have hfz7_1 := blk_frozen BK262.out 1) | ((with_reducible refine gc (f := 63) rfl ?_); refine goesM (some 5) Tryz.func63 #[.string a0_0] ?_; (with_reducible refine (whole_Abs.calls a0_0 t263 _ A2.out).mono ?_); rintro e w' ⟨rfl, ⟨nd, rfl⟩⟩; refine ⟨_, rfl, ?_⟩))
  go_ret
  exact ⟨rl, bl HB⟩
def size_result_1.f (a0_0 : ByteArray) (a0_1 : ByteArray) : Option (Bool) := (size_short.f a0_0 a0_1).bind fun t265 => (some (!t265))
theorem size_result_1.calls (a0_0 : ByteArray) (a0_1 : ByteArray) (r : Bool) (w : World) (h : size_result_1.f a0_0 a0_1 = some r) :
  Calls Tryz.prog 102 #[.agg #[.string a0_0, .string a0_1]] w fun e w' => e = .returned (.bool r) ∧ Below w.heap.size w w' := by
 have hu30 := Tryz.underlying30
 have HB := am (Below.refl w.heap.size w)
 have H := h
 unfold size_result_1.f at H
 clear h
 obtain ⟨t265, A2, H⟩ := bo H
 try dsimp only at H
 obtain rfl := Option.some.inj H
 go_enter Tryz.func102, Tryz.ntmps102
 go_wp2_with (first | ((with_reducible refine gd (N := 1) rfl ?_); refine boxM (N := 1) #[.string a0_0, .string a0_1] 30 ?_; intro gb264 hg w3 hbox hb; have BK264 := am (hbox); have GW264 := gw hg HB; have GE264 := GW264; replace HB := bs HB hb; clear hb hbox hg; have hcz4_0 := bc BK264 0 (.string a0_0); have hcz4_1 := bc BK264 1 (.string a0_1); have hfz4_0 := blk_frozen BK264.out 0; have hfz4_1 := blk_frozen BK264.out 1) | ((with_reducible refine gc (f := 103) rfl ?_); refine goesM (some 4) Tryz.func103 #[.agg #[.string a0_0, .string a0_1]] ?_; (with_reducible refine (size_short.calls a0_0 a0_1 t265 _ A2.out).mono ?_); rintro e w5 ⟨rfl, hb⟩; refine ⟨_, rfl, ?_⟩; replace BK264 := kb BK264 hb; replace HB := bs HB hb; (try clear hb)))
 go_ret
 exact ⟨rl, bl HB⟩
def whole_join.f (a0 : Bool) (a1 : ByteArray) : Option (ByteArray) := if a0 = true then (if a1.toList = ([48] : List UInt8) then (some a1) else (if 1 + a1.size ≤ 9223372036854775807 then (some ((⟨#[45]⟩ : ByteArray) ++ a1)) else (none))) else (some a1)
theorem whole_join.calls (a0 : Bool) (a1 : ByteArray) (r : ByteArray) (w : World) (h : whole_join.f a0 a1 = some r) :
  Calls Tryz.prog 78 #[.bool a0, .string a1] w fun e w' => e = .returned (.string r) ∧ Drawn0 w w' := by
 have H := h
 unfold whole_join.f at H
 clear h
 by_cases c3 : a0 = true
 ·subst c3
  rw [if_pos rfl] at H
  by_cases c4 : a1.toList = ([48] : List UInt8)
  ·rw [if_pos c4] at H
   have c4b0 := beq_iff_eq.mpr c4
   have c4b1 := bne_eq_false_iff_eq.mpr c4
   clear c4
   obtain rfl := Option.some.inj H
   go_enter Tryz.func78, Tryz.ntmps78
   go_wp2
   go_ret
   exact ⟨by first | rfl | (simp; done) | (simp [*]; done), by repeat (first | exact Drawn0.refl _ | apply Drawn0.step)⟩
  ·rw [if_neg c4] at H
   have c4b0 := beq_eq_false_iff_ne.mpr c4
   have c4b1 := bne_iff_ne.mpr c4
   by_cases c5 : 1 + a1.size ≤ 9223372036854775807
   case neg => rw [if_neg c5] at H; cases H
   rw [if_pos c5] at H
   have c5b0 := eq_true c5
   have c5b1 := decide_eq_true c5
   try have c5b2 : (9223372036854775807 < 1 + a1.size) = False := eq_false (Nat.not_lt.2 c5)
   obtain rfl := Option.some.inj H
   go_enter Tryz.func78, Tryz.ntmps78
   go_wp2
   go_ret
   exact ⟨by first | rfl | (simp; done) | (simp [*]; done), by repeat (first | exact Drawn0.refl _ | apply Drawn0.step)⟩
 ·replace c3 := Bool.eq_false_iff.mpr c3
  subst c3
  rw [if_neg (show ¬ (false = true) by decide)] at H
  obtain rfl := Option.some.inj H
  go_enter Tryz.func78, Tryz.ntmps78
  go_wp2
  go_ret
  exact ⟨by first | rfl | (simp; done) | (simp [*]; done), by repeat (first | exact Drawn0.refl _ | apply Drawn0.step)⟩
def whole_Neg.f (a0 : ByteArray) : Option (ByteArray) := (whole_split.f a0).bind fun bt266 => ((whole_join.f (!bt266.1) bt266.2).bind fun t268 => (some t268))
theorem whole_Neg.calls (a0 : ByteArray) (r : ByteArray) (w : World) (h : whole_Neg.f a0 = some r) :
  Calls Tryz.prog 34 #[.string a0] w fun e w' => e = .returned (.string r) ∧ Drawn0 w w' := by
 have H := h
 unfold whole_Neg.f at H
 clear h
 obtain ⟨⟨t266, t267⟩, A2, H⟩ := bo H
 try dsimp only at H
 obtain ⟨t268, A3, H⟩ := bo H
 try dsimp only at H
 obtain rfl := Option.some.inj H
 go_enter Tryz.func34, Tryz.ntmps34
 go_wp2_with (first | ((with_reducible refine gc (f := 76) rfl ?_); refine goesM (some 7) Tryz.func76 #[.string a0] ?_; (with_reducible refine (whole_split.calls a0 t266 t267 _ A2.out).mono ?_); rintro e w' ⟨rfl, ⟨nd, rfl⟩⟩; refine ⟨_, rfl, ?_⟩) | ((with_reducible refine gc (f := 78) rfl ?_); refine goesM (some 13) Tryz.func78 #[.bool (!t266), .string t267] ?_; (with_reducible refine (whole_join.calls (!t266) t267 t268 _ A3.out).mono ?_); rintro e w' ⟨rfl, ⟨nd, rfl⟩⟩; refine ⟨_, rfl, ?_⟩))
 go_ret
 exact ⟨by first | rfl | (simp; done) | (simp [*]; done), by repeat (first | exact Drawn0.refl _ | apply Drawn0.step)⟩
end Go.Proofs.YtailoobjgbldgaaGreatDoor.P
end
section
namespace Go.Proofs.YtailoobjgbldgaaGreatDoor.Val
open Go Go.Lib Go.RowKit Go.Proofs.YtailoobjgbldgaaGreatDoor.P Go.Proofs.YtailoobjgbldgaaGreatDoorW.PrintWords Go.Proofs.YtailoobjgbldgaaGreatDoorW.PrintLast Go.Proofs.YtailoobjgbldgaaGreatDoorW.PrintMore
set_option linter.unusedSimpArgs false
set_option linter.unusedVariables false
def ints (l : List UInt8) : List Int := l.map fun b => (b.toNat : Int)
theorem strOfNums_ints (l : List UInt8) : strOfNums (ints l) = ⟨l.toArray⟩ := by
  unfold strOfNums ints
  apply bytes_ext
  simp [List.map_map, Function.comp_def]
theorem ints_append (a b : List UInt8) : ints (a ++ b) = ints a ++ ints b := by simp [ints]
theorem w64p {j : Nat} (h : j ≤ 1000000000000) (h1 : 1 ≤ j) : wrap64 ((j : Int) - 1) = ((j - 1 : Nat) : Int) := (w64m1 h).trans (by omega)
theorem reverse_loop : ∀ (d i j : Nat) (xs : List Int) (a m b : List Int), xs = a ++ m ++ b → a.length = i → i + m.length = j + 1 → m.length ≤ d → xs.length ≤ 1000000000000 →
    Evt (fun k => slices_Reverse_byte_byte.l0 k xs (i : Int) (j : Int)) (a ++ m.reverse ++ b) := by
  intro d
  induction d with
  | zero =>
    intro i j xs a m b hx ha hm hd hb
    obtain rfl := List.length_eq_zero_iff.1 (by omega : m.length = 0)
    refine (Evt.const _).step fun k => ?_
    simp only [List.length_nil] at hm
    rw [slices_Reverse_byte_byte.l0, if_neg (by omega), hx]
    simp
  | succ d ih =>
    intro i j xs a m b hx ha hm hd hb
    by_cases h2 : m.length ≤ 1
    · refine (Evt.const _).step fun k => ?_
      rw [slices_Reverse_byte_byte.l0, if_neg (by omega), hx]
      have : m.reverse = m := by
        match m, h2 with
        | [], _ => rfl
        | [x], _ => rfl
        | _ :: _ :: _, h => simp at h
      rw [this]
    · obtain ⟨x, m', y, rfl⟩ : ∃ x m' y, m = x :: (m' ++ [y]) := by
        match m with
        | [] => simp at h2
        | x :: r =>
          have hr : r ≠ [] := by rintro rfl; simp at h2
          exact ⟨x, r.dropLast, r.getLast hr, by rw [List.dropLast_concat_getLast]⟩
      have hlen : (a ++ (x :: (m' ++ [y])) ++ b).length = a.length + (m'.length + 2) + b.length := by simp; omega
      have hml : (x :: (m' ++ [y])).length = m'.length + 2 := by simp
      rw [hml] at hm hd
      have hjx : j = i + m'.length + 1 := by omega
      have hxl : xs.length = a.length + (m'.length + 2) + b.length := by rw [hx, hlen]
      have hi : rd xs (i : Int) = x := by
        rw [rd_gt, hx]; simp [gt, ha.symm, List.getElem?_append]
      have hj : rd xs (j : Int) = y := by
        rw [rd_gt, hx, hjx]; unfold gt
        rw [List.getD_eq_getElem?_getD, List.append_assoc, List.getElem?_append_right (show a.length ≤ i + m'.length + 1 by omega), show i + m'.length + 1 - a.length = m'.length + 1 by omega]
        simp [List.getElem?_append]
      have hset : (xs.set i y).set j x = (a ++ [y]) ++ m' ++ ([x] ++ b) := by
        rw [hx, hjx]
        apply List.ext_getElem?
        intro t
        simp only [List.getElem?_set, List.length_set, hlen]
        by_cases h1 : i + m'.length + 1 = t
        · subst h1
          rw [if_pos rfl, if_pos (by omega)]
          rw [List.getElem?_append_right (by simp; omega), show i + m'.length + 1 - (a ++ [y] ++ m').length = 0 by simp; omega]
          rfl
        · rw [if_neg h1]
          by_cases h3 : i = t
          · subst h3
            rw [if_pos rfl, if_pos (by omega)]
            rw [List.append_assoc, List.append_assoc, List.getElem?_append_right (by omega)]
            simp [ha]
          · rw [if_neg h3]
            simp only [List.append_assoc, List.getElem?_append, List.length_cons, List.length_append, List.length_nil, List.singleton_append, List.cons_append, List.nil_append, List.getElem?_cons]
            by_cases h4 : t < a.length
            · simp [h4]
            · have h5 : ¬ t - a.length = 0 := by omega
              simp only [h4, if_false, h5]
              by_cases h6 : t - a.length - 1 < m'.length
              · simp [h6]
              · have h7 : ¬ t - a.length - 1 - m'.length = 0 := by omega
                simp [h6, h7]
      have := ih (i + 1) (j - 1) ((xs.set i y).set j x) (a ++ [y]) m' ([x] ++ b) hset (by simp [ha]) (by omega) (by omega) (by simpa using hb)
      have e : a ++ (x :: (m' ++ [y])).reverse ++ b = (a ++ [y]) ++ m'.reverse ++ ([x] ++ b) := by simp
      rw [e]
      refine this.step fun k => ?_
      rw [slices_Reverse_byte_byte.l0, if_pos (by omega), if_pos (by omega), if_pos (by omega), if_pos (by omega), if_pos (by omega), hi, hj, Int.toNat_natCast, Int.toNat_natCast, w64j (j := i) (by omega), w64p (j := j) (by omega) (by omega)]
theorem reverse_is {xs : List Int} (hb : xs.length ≤ 1000000000000) : Evt (fun k => slices_Reverse_byte_byte.f k xs) xs.reverse := by
  cases xs with
  | nil =>
    refine ((Evt.const _).step (g := fun _ => some []) (h := fun k => slices_Reverse_byte_byte.l0 k [] 0 (-1)) fun k => ?_).congr fun k => ?_
    · rw [slices_Reverse_byte_byte.l0, if_neg (by decide)]
    · unfold slices_Reverse_byte_byte.f
      rw [show wrap64 ((([] : List Int).length : Int) - 1) = -1 by simp [wrap64]]
  | cons x r =>
    have := reverse_loop (x :: r).length 0 r.length (x :: r) [] (x :: r) [] (by simp) rfl (by rw [List.length_cons]; omega) (Nat.le_refl _) hb
    simp only [List.nil_append, List.append_nil] at this
    refine this.congr fun k => ?_
    unfold slices_Reverse_byte_byte.f
    have w2 : wrap64 (((x :: r).length : Int) - 1) = (r.length : Int) := (w64m1 hb).trans (by rw [List.length_cons]; omega)
    rw [w2]
    rfl
theorem text_byte {n : Nat} (hn : n < 1000000000) : IntKind.u64.wrap (48 + Int.tmod (n : Int) 10) % 256 = ((UInt8.ofNat (48 + n % 10)).toNat : Int) := by
  rw [tmod_pos (by omega), u64 (by omega) (by omega), toNat_ofNat_small (by omega)]
  omega
theorem text_div {n : Nat} (hn : n < 1000000000) : IntKind.u64.wrap (Int.tdiv (n : Int) 10) = ((n / 10 : Nat) : Int) := by
  rw [tdiv_pos (by omega), u64 (by omega) (by omega)]
  omega
theorem text_nine {xs : List Int} {i : Nat} {R : ByteArray} (hi : i + 1 < xs.length) (hb : xs.length ≤ 1000000000000) : ∀ (d j n : Nat) (out : List Int), j + d = 9 → n < 1000000000 → out.length ≤ 10000000000000 + j →
    Evt (fun k => decimal_pieces_text.l0 k xs (out ++ ints (rpad d n)) xs (xs.length : Int) ((i + 1 : Nat) : Int)) R → Evt (fun k => decimal_pieces_text.l1 k xs out (i : Int) (n : Int) (j : Int) xs (xs.length : Int) (i : Int)) R := by
  intro d
  induction d with
  | zero =>
    intro j n out hj hn ho h
    rw [show rpad 0 n = [] from rfl, show ints [] = [] from rfl, List.append_nil] at h
    refine h.step fun k => ?_
    rw [decimal_pieces_text.l1, if_neg (by omega), w64j (by omega)]
  | succ d ih =>
    intro j n out hj hn ho h
    rw [rpad, show ints (UInt8.ofNat (48 + n % 10) :: rpad d (n / 10)) = [((UInt8.ofNat (48 + n % 10)).toNat : Int)] ++ ints (rpad d (n / 10)) from rfl, ← List.append_assoc] at h
    have := ih (j + 1) (n / 10) _ (by omega) (by omega) (by rw [List.length_append]; simp; omega) h
    refine this.step fun k => ?_
    rw [decimal_pieces_text.l1, if_pos (by omega), w64j (j := i) (by omega), if_pos (by omega), if_pos (by omega), text_byte hn, text_div hn, w64j (j := j) (by omega)]
theorem text_last {xs : List Int} {i : Nat} {R : ByteArray} (hi : i + 1 = xs.length) (hb : xs.length ≤ 1000000000000) : ∀ (d j n : Nat) (out : List Int), j + d = 9 → n < 10 ^ d → out.length ≤ 10000000000000 + j →
    Evt (fun k => decimal_pieces_text.l0 k xs (out ++ ints (rev n)) xs (xs.length : Int) ((i + 1 : Nat) : Int)) R → Evt (fun k => decimal_pieces_text.l1 k xs out (i : Int) (n : Int) (j : Int) xs (xs.length : Int) (i : Int)) R := by
  intro d
  induction d with
  | zero =>
    intro j n out hj hn ho h
    obtain rfl : n = 0 := by simpa using hn
    rw [rev_zero, show ints [] = [] from rfl, List.append_nil] at h
    refine h.step fun k => ?_
    rw [decimal_pieces_text.l1, if_neg (by omega), w64j (by omega)]
  | succ d ih =>
    intro j n out hj hn ho h
    have hd9 : 10 ^ (d + 1) ≤ 10 ^ 9 := Nat.pow_le_pow_right (by decide) (by omega)
    have e9 : (10 : Nat) ^ 9 = 1000000000 := by decide
    by_cases h0 : n = 0
    · subst h0
      rw [rev_zero, show ints [] = [] from rfl, List.append_nil] at h
      refine h.step fun k => ?_
      rw [decimal_pieces_text.l1, if_pos (by omega), w64j (j := i) (by omega), if_neg (by omega), if_neg (by omega)]
    · rw [rev_step h0, show ints (UInt8.ofNat (48 + n % 10) :: rev (n / 10)) = [((UInt8.ofNat (48 + n % 10)).toNat : Int)] ++ ints (rev (n / 10)) from rfl, ← List.append_assoc] at h
      rw [Nat.pow_succ] at hn
      have := ih (j + 1) (n / 10) _ (by omega) (by omega) (by rw [List.length_append]; simp; omega) h
      refine this.step fun k => ?_
      rw [Nat.pow_succ] at hd9
      rw [decimal_pieces_text.l1, if_pos (by omega), w64j (j := i) (by omega), if_neg (by omega), if_pos (by omega), if_pos (by omega), text_byte (by omega), text_div (by omega), w64j (j := j) (by omega)]
theorem text_loop {xs : List Int} (hb : xs.length ≤ 100000000000) : ∀ (d i n : Nat) (out : List Int), i + d = xs.length → xs.drop i = digs n → out.length ≤ 9 * i →
    Evt (fun k => decimal_pieces_text.l0 k xs out xs (xs.length : Int) (i : Int)) (strOfNums (out ++ ints (rev n)).reverse) := by
  intro d
  induction d with
  | zero =>
    intro i n out hi hx ho
    obtain rfl : n = 0 := digs_nil (by rw [← hx, List.drop_eq_nil_of_le (by omega)])
    rw [rev_zero, show ints [] = [] from rfl, List.append_nil]
    refine ((reverse_is (xs := out) (by omega)).bind1 (h := fun t => some (strOfNums t)) rfl).step fun k => ?_
    rw [decimal_pieces_text.l0, if_neg (by omega)]
  | succ d ih =>
    intro i n out hi hx ho
    have hil : i < xs.length := by omega
    have hn0 : n ≠ 0 := by
      rintro rfl
      rw [digs_zero, List.drop_eq_nil_iff] at hx
      omega
    rw [List.drop_eq_getElem_cons hil, digs_pos hn0] at hx
    injection hx with hx1 hx2
    have hr : rd xs (i : Int) = ((n % 1000000000 : Nat) : Int) := by rw [rd_gt, gt_eq hil, hx1]
    have hstep : ∀ R, Evt (fun k => decimal_pieces_text.l1 k xs out (i : Int) ((n % 1000000000 : Nat) : Int) ((0 : Nat) : Int) xs (xs.length : Int) (i : Int)) R → Evt (fun k => decimal_pieces_text.l0 k xs out xs (xs.length : Int) (i : Int)) R := fun R h => h.step fun k => by
      rw [decimal_pieces_text.l0, if_pos (by omega), if_pos (by omega), if_pos (by omega), hr]
      rfl
    apply hstep
    by_cases hlast : i + 1 = xs.length
    · have h0 : n / 1000000000 = 0 := digs_nil (by rw [← hx2, List.drop_eq_nil_of_le (by omega)])
      have hn9 : n < 1000000000 := by omega
      rw [Nat.mod_eq_of_lt hn9]
      refine text_last hlast (by omega) 9 0 n out rfl (by omega) (by omega) ?_
      have := ih (i + 1) 0 (out ++ ints (rev n)) (by omega) (by rw [digs_zero, List.drop_eq_nil_of_le (by omega)]) (by
        rw [List.length_append]
        have : (ints (rev n)).length ≤ 9 := by
          unfold ints rev
          rw [if_neg hn0, List.length_map, List.length_reverse]
          exact length_dec_le_nine.2 hn9
        omega)
      rw [rev_zero, show ints [] = [] from rfl, List.append_nil] at this
      exact this
    · refine text_nine (by omega) (by omega) 9 0 _ out rfl (Nat.mod_lt _ (by decide)) (by omega) ?_
      have hq : n / 1000000000 ≠ 0 := by
        intro h
        rw [h, digs_zero, List.drop_eq_nil_iff] at hx2
        omega
      have e : ints (rev n) = ints (rpad 9 (n % 1000000000)) ++ ints (rev (n / 1000000000)) := by
        rw [rev_nine (by omega), ints_append, rpad_mod 9 n (n % 1000000000) (by
          have e9 : (10 : Nat) ^ 9 = 1000000000 := by decide
          rw [e9, Nat.mod_mod])]
      have := ih (i + 1) (n / 1000000000) (out ++ ints (rpad 9 (n % 1000000000))) (by omega) hx2 (by
        rw [List.length_append]
        have : (ints (rpad 9 (n % 1000000000))).length = 9 := by unfold ints; rw [List.length_map, rpad_length]
        omega)
      rw [e, ← List.append_assoc]
      exact this
theorem text_is {n : Nat} (hb : (digs n).length ≤ 1000000000) : Evt (fun k => decimal_pieces_text.f k (digs n)) (txtN n) := by
  by_cases h0 : n = 0
  · subst h0
    refine (Evt.const _).congr fun k => ?_
    unfold decimal_pieces_text.f
    rw [digs_zero, if_pos (by simp)]
    congr 1
    apply bytes_ext
    rw [txtN_data, dec_small (by decide)]
    rfl
  · have := text_loop (xs := digs n) (by omega) (digs n).length 0 n [] (by omega) (by simp) (by simp)
    have e : strOfNums (([] : List Int) ++ ints (rev n)).reverse = txtN n := by
      rw [List.nil_append]
      have : (ints (rev n)).reverse = ints (decDigits n) := by
        unfold ints rev
        rw [if_neg h0, ← List.map_reverse, List.reverse_reverse]
      rw [this, strOfNums_ints]
      rfl
    rw [e] at this
    refine this.congr fun k => ?_
    unfold decimal_pieces_text.f
    have hne : ¬ ((digs n).length : Int) = 0 := fun h => h0 (digs_nil (List.length_eq_zero_iff.1 (by omega)))
    have w : wrap64 (9 * ((digs n).length : Int)) = 9 * ((digs n).length : Int) := w64 (by omega) (by omega)
    rw [if_neg hne, w, if_pos (by omega), if_pos (by omega)]
    rfl
theorem toList_txtN (n : Nat) : (txtN n).toList = decDigits n := by rw [Lib.toList_data]; rfl
theorem txtN_zero_iff {n : Nat} : (txtN n).toList = ([48] : List UInt8) ↔ n = 0 := by
  rw [toList_txtN]
  constructor
  · intro h
    have : natVal (decDigits n) = natVal [48] := by rw [h]
    rw [natVal_dec] at this
    simpa [natVal] using this
  · rintro rfl
    exact dec_small (by decide)
theorem size_le_iff {n k : Nat} (hk : 1 ≤ k) : ((txtN n).size : Int) ≤ k ↔ n < 10 ^ k := by
  rw [txtN_size]
  have := nDigits_le_iff (n := n) hk
  omega
theorem ofN {z : Int} (h0 : 0 ≤ z) (h1 : z < 18446744073709551616) : decimal_Of.f z = some (txtN z.toNat) := by
  unfold decimal_Of.f goFormatUint.f
  rw [if_pos ⟨h0, h1, rfl⟩]
  have : txt z = txtN z.toNat := by rw [← txt_nonneg]; congr 1; omega
  rw [this]
  rfl
theorem dSmall_N {n : Nat} (h : n < 10 ^ 18) : dSmall.f (txtN n) = some ((n : Int), true) := by
  unfold dSmall.f
  rw [unN_txtN, Option.bind_some]
  have h1 : (txtN n).size ≤ 1000000 := by
    have := (size_le_iff (n := n) (k := 18) (by decide)).2 h
    omega
  have h2 : n < 18446744073709551616 := Nat.lt_of_lt_of_le h (by decide)
  rw [if_pos h1, if_pos h2]
theorem both_is (m n : Nat) : Evt (fun k => decimal_both.f k (txtN m) (txtN n)) (if m < 10 ^ 18 ∧ n < 10 ^ 18 then ((m : Int), (n : Int), true) else (0, 0, false)) := by
  have h1 := size_le_iff (n := m) (k := 18) (by decide)
  have h2 := size_le_iff (n := n) (k := 18) (by decide)
  by_cases hm : m < 10 ^ 18
  · by_cases hn : n < 10 ^ 18
    · rw [if_pos ⟨hm, hn⟩]
      refine ((Evt.const _).step (h := fun k => decimal_both.j0 k (txtN m) (txtN n) false) fun k => ?_).congr fun k => ?_
      · rw [decimal_both.j0]
        simp only [if_neg (show ¬ (false = true) by decide), dSmall_N hm, dSmall_N hn, Option.bind_some]
      · unfold decimal_both.f
        rw [if_neg (by have := h1.2 hm; omega)]
        have := h2.2 hn
        rw [decide_eq_false (by omega)]
    · rw [if_neg (fun h => hn h.2)]
      refine ((Evt.const _).step (h := fun k => decimal_both.j0 k (txtN m) (txtN n) true) fun k => ?_).congr fun k => ?_
      · rw [decimal_both.j0, if_pos rfl]
      · unfold decimal_both.f
        rw [if_neg (by have := h1.2 hm; omega)]
        rw [decide_eq_true (by rcases Int.lt_or_le 18 ((txtN n).size : Int) with h | h; exact h; exact absurd (h2.1 h) hn)]
  · rw [if_neg (fun h => hm h.1)]
    refine ((Evt.const _).step (h := fun k => decimal_both.j0 k (txtN m) (txtN n) true) fun k => ?_).congr fun k => ?_
    · rw [decimal_both.j0, if_pos rfl]
    · unfold decimal_both.f
      rw [if_pos (by rcases Int.lt_or_le 18 ((txtN m).size : Int) with h | h; exact h; exact absurd (h1.1 h) hm)]
theorem cut_N {n : Nat} (h : (txtN n).size ≤ 1000000000) : dCut.f (txtN n) = some (digs n) := by
  unfold dCut.f
  rw [if_pos ⟨h, dec_digits n⟩, txtN_data, natVal_dec]
theorem digs_length_size (n : Nat) : (digs n).length ≤ (txtN n).size := by
  apply digs_length_le
  rw [txtN_size]
  have h1 := lt_pow_nDigits n
  have : ((10 ^ nDigits n : Nat) : Int) ≤ pw (nDigits n) := by
    have e : pw (nDigits n) = ((1000000000 ^ nDigits n : Nat) : Int) := by unfold pw; rw [Int.natCast_pow]; rfl
    rw [e]
    exact Int.ofNat_le.2 (Nat.pow_le_pow_left (by decide) _)
  omega
theorem size_mono {m n : Nat} (h : m ≤ n) : (txtN m).size ≤ (txtN n).size := by
  rw [txtN_size, txtN_size]
  exact nDigits_le_of_lt (nDigits_pos n) (Nat.lt_of_le_of_lt h (lt_pow_nDigits n))
theorem divmod_is {m n : Nat} (hn : n ≠ 0) (hm9 : (txtN m).size ≤ 100000000) (hn9 : (txtN n).size ≤ 100000000) :
    Evt (fun k => decimal_DivMod.f k (txtN m) (txtN n)) (txtN (m / n), txtN (m % n), 0) := by
  have hz : ¬ (txtN n).toList = ([48] : List UInt8) := fun h => hn (txtN_zero_iff.1 h)
  have hb := both_is m n
  have hf : ∀ {g : Nat → Int × Int × Bool → Option (ByteArray × ByteArray × Int)}, (∀ k, decimal_DivMod.f k (txtN m) (txtN n) = (decimal_both.f k (txtN m) (txtN n)).bind (g k)) → ∀ v, Evt (fun k => g k (if m < 10 ^ 18 ∧ n < 10 ^ 18 then ((m : Int), (n : Int), true) else (0, 0, false))) v → Evt (fun k => decimal_DivMod.f k (txtN m) (txtN n)) v :=
    fun hg v h => (hb.bind h).congr hg
  refine hf (fun k => by unfold decimal_DivMod.f; rw [if_neg hz]) _ ?_
  by_cases hs : m < 10 ^ 18 ∧ n < 10 ^ 18
  · rw [if_pos hs]
    have e18 : (10 : Nat) ^ 18 = 1000000000000000000 := by decide
    have h1 : Int.tdiv (m : Int) (n : Int) = ((m / n : Nat) : Int) := by rw [tdiv_pos (by omega)]; exact (Int.natCast_ediv ..).symm
    have h2 : Int.tmod (m : Int) (n : Int) = ((m % n : Nat) : Int) := by rw [tmod_pos (by omega)]; exact (Int.natCast_emod ..).symm
    have hd : m / n ≤ m := Nat.div_le_self ..
    have hr : m % n < n := Nat.mod_lt _ (by omega)
    have q1 : m / n < 18446744073709551615 := Nat.lt_of_le_of_lt hd (by omega)
    have q2 : m % n < 18446744073709551615 := Nat.lt_trans hr (by omega)
    have q3 : ((m / n : Nat) : Int) ≤ 18446744073709551615 := Int.ofNat_le.2 (Nat.le_of_lt q1)
    have q4 : ((m / n : Nat) : Int) < 18446744073709551616 := Int.ofNat_lt.2 (Nat.lt_trans q1 (by decide))
    have q5 : ((m % n : Nat) : Int) < 18446744073709551616 := Int.ofNat_lt.2 (Nat.lt_trans q2 (by decide))
    refine (Evt.const _).congr fun k => ?_
    rw [if_pos rfl, if_neg (by simpa using hn), h1, h2, u64 (Int.natCast_nonneg _) q3, ofN (Int.natCast_nonneg _) q4, Option.bind_some, ofN (Int.natCast_nonneg _) q5, Option.bind_some, Int.toNat_natCast, Int.toNat_natCast]
  · rw [if_neg hs]
    have lm := digs_length_size m
    have ln := digs_length_size n
    have hcmp := compare_is m n (by omega) (by omega)
    refine Evt.congr (g := fun k => (decimal_pieces_compare.f k (digs m) (digs n)).bind fun t226 => (if t226 < 0 then (some ((⟨#[48]⟩ : ByteArray), txtN m, 0)) else (if ((digs n).length : Int) = 1 then (if 0 < ((digs n).length : Int) then ((decimal_pieces_small.f k (digs m) (rd (digs n) 0)).bind fun bt228 => ((decimal_pieces_text.f k bt228.1).bind fun t232 => ((decimal_Of.f bt228.2).bind fun t233 => (some (t232, t233, 0))))) else (none)) else ((decimal_pieces_divide.f k (digs m) (digs n)).bind fun bt234 => ((decimal_pieces_text.f k bt234.1).bind fun t240 => ((decimal_pieces_text.f k bt234.2).bind fun t241 => (some (t240, t241, 0)))))))) ?_ fun k => ?_
    · refine hcmp.bind ?_
      by_cases hlt : m < n
      · rw [if_pos hlt]
        refine (Evt.const _).congr fun k => ?_
        rw [if_pos (by decide), Nat.div_eq_of_lt hlt, Nat.mod_eq_of_lt hlt]
        have : txtN 0 = (⟨#[48]⟩ : ByteArray) := bytes_ext (by rw [txtN_data, dec_small (by decide)]; rfl)
        rw [this]
      · have hge : ∀ x : Int, ¬ (if n < m then (1 : Int) else 0) < 0 := fun _ => by split <;> omega
        rw [if_neg hlt]
        have hdl : (digs (m / n)).length ≤ 1000000000 := by
          have := digs_length_size (m / n)
          have := size_mono (Nat.div_le_self m n)
          omega
        have hrl : (digs (m % n)).length ≤ 1000000000 := by
          have := digs_length_size (m % n)
          have := size_mono (Nat.le_of_lt (Nat.mod_lt m (by omega : n > 0)))
          omega
        by_cases h1 : (digs n).length = 1
        · have hn9' : n < 1000000000 := by
            have := lt_pw_digs n
            rw [h1, show pw 1 = 1000000000 from rfl] at this
            omega
          have hr0 : rd (digs n) 0 = (n : Int) := by rw [digs_small hn hn9']; rfl
          have hsm := small_is (xs := digs m) (n := (n : Int)) (digs_dig m) (by omega) (by omega) (by omega)
          rw [val_digs] at hsm
          have e1 : ((m : Int) / (n : Int)).toNat = m / n := by rw [← Int.natCast_ediv, Int.toNat_natCast]
          have e2 : (m : Int) % (n : Int) = ((m % n : Nat) : Int) := (Int.natCast_emod ..).symm
          rw [e1, e2] at hsm
          have hr := Nat.mod_lt m (by omega : n > 0)
          have ht := text_is hdl
          refine Evt.congr (g := fun k => (decimal_pieces_small.f k (digs m) (n : Int)).bind fun bt228 => ((decimal_pieces_text.f k bt228.1).bind fun t232 => ((decimal_Of.f bt228.2).bind fun t233 => (some (t232, t233, 0))))) ?_ fun k => ?_
          · refine hsm.bind (ht.bind1 ?_)
            rw [ofN (by omega) (by omega)]
            rfl
          · rw [if_neg (hge 0), if_pos (by omega), if_pos (by omega), hr0]
        · have h2 : 2 ≤ (digs n).length := by
            have : (digs n).length ≠ 0 := fun h => hn (digs_nil (List.length_eq_zero_iff.1 h))
            omega
          have hle : (digs n).length ≤ (digs m).length := by
            rcases Nat.lt_or_ge (digs m).length (digs n).length with h | h
            · exact absurd (digs_lt_of_length h) hlt
            · exact h
          have hdv := divide_is h2 hle (by omega)
          refine Evt.congr (g := fun k => (decimal_pieces_divide.f k (digs m) (digs n)).bind fun bt234 => ((decimal_pieces_text.f k bt234.1).bind fun t240 => ((decimal_pieces_text.f k bt234.2).bind fun t241 => (some (t240, t241, 0))))) ?_ fun k => ?_
          · exact hdv.bind ((text_is hdl).bind ((text_is hrl).bind1 rfl))
          · rw [if_neg (hge 0), if_neg (by omega)]
    · rw [if_neg (by decide), cut_N (by omega), cut_N (by omega)]
      rfl
theorem gcd_loop : ∀ (b a : Nat), (txtN a).size ≤ 100000000 → (txtN b).size ≤ 100000000 → Evt (fun k => decimal_Gcd.l0 k (txtN a) (txtN b)) (txtN (Nat.gcd a b)) := by
  intro b
  induction b using Nat.strongRecOn with
  | _ b ih =>
    intro a ha hb
    by_cases h0 : b = 0
    · subst h0
      refine (Evt.const _).step fun k => ?_
      rw [decimal_Gcd.l0, if_pos (txtN_zero_iff.2 rfl), Nat.gcd_zero_right]
    · have hr := Nat.mod_lt a (by omega : b > 0)
      have h1 := ih (a % b) hr b hb (Nat.le_trans (size_mono (Nat.le_of_lt hr)) hb)
      rw [Nat.gcd_comm b, ← Nat.gcd_rec, Nat.gcd_comm b] at h1
      have h2 := divmod_is h0 ha hb
      refine Evt.step (g := fun k => (decimal_DivMod.f k (txtN a) (txtN b)).bind fun bt242 => (if bt242.2.2 = 0 then (decimal_Gcd.l0 k (txtN b) bt242.2.1) else (some (⟨#[]⟩ : ByteArray)))) (h2.bind (h1.congr fun k => by rw [if_pos rfl])) fun k => ?_
      rw [decimal_Gcd.l0, if_neg (fun h => h0 (txtN_zero_iff.1 h))]
theorem gcdInt_loop : ∀ (b a : Nat), Evt (fun k => whole_gcd.l0 k (a : Int) (b : Int)) ((Nat.gcd a b : Nat) : Int) := by
  intro b
  induction b using Nat.strongRecOn with
  | _ b ih =>
    intro a
    by_cases h0 : b = 0
    · subst h0
      refine (Evt.const _).step fun k => ?_
      rw [whole_gcd.l0, if_pos (by decide), Nat.gcd_zero_right]
    · have hr := Nat.mod_lt a (by omega : b > 0)
      have h1 := ih (a % b) hr b
      rw [Nat.gcd_comm b, ← Nat.gcd_rec, Nat.gcd_comm b] at h1
      refine h1.step fun k => ?_
      rw [whole_gcd.l0, if_neg (by omega), tmod_pos (by omega)]
      rw [Int.natCast_emod]
end Go.Proofs.YtailoobjgbldgaaGreatDoor.Val
end
section
namespace Go.Proofs.YtailoobjgbldgaaGreatDoor.P
open Go.RowKit Go.Proofs.YtailoobjgbldgaaGreatDoorW.PrintWords Go.Proofs.YtailoobjgbldgaaGreatDoorW.PrintLast Go.Proofs.YtailoobjgbldgaaGreatDoorW.PrintMore
attribute [local go_sem] max2_int min2_int max_two min_two max_three min_three max_four min_four   
set_option linter.unusedVariables false
set_option linter.unusedSimpArgs false
set_option maxHeartbeats 8000000
set_option maxRecDepth 100000
mutual
def whole_DivMod.j1 : Nat → ByteArray → ByteArray → Option (ByteArray × ByteArray × Int)
 | 0, _, _ => none
 | k + 1, x0, x1 => (whole_split.f x0).bind fun bt277 => ((whole_split.f x1).bind fun bt279 => (none))
def whole_DivMod.j0 : Nat → Int → Int → Int → Bool → Option (ByteArray × ByteArray × Int)
 | 0, _, _, _, _ => none
 | k + 1, x9, x11, x12, x47 => if x47 = true then ((whole_Of.f (wrap64 (x11 - 1))).bind fun t273 => ((whole_Of.f (wrap64 (x12 + x9))).bind fun t274 => (some (t273, t274, 0)))) else ((whole_Of.f x11).bind fun t275 => ((whole_Of.f x12).bind fun t276 => (some (t275, t276, 0))))
end
def whole_DivMod.f (k : Nat) (a0 : ByteArray) (a1 : ByteArray) : Option (ByteArray × ByteArray × Int) := if a1.toList = ([48] : List UInt8) then (some ((⟨#[]⟩ : ByteArray), (⟨#[]⟩ : ByteArray), 17)) else ((wLittle.f a0 18).bind fun bt269 => (if bt269.2 = true then ((wLittle.f a1 18).bind fun bt271 => (if bt271.2 = true then (if bt271.1 = 0 then (none) else (if (Int.tmod bt269.1 bt271.1) = 0 then (whole_DivMod.j0 k bt271.1 (wrap64 (Int.tdiv bt269.1 bt271.1)) (Int.tmod bt269.1 bt271.1) false) else (whole_DivMod.j0 k bt271.1 (wrap64 (Int.tdiv bt269.1 bt271.1)) (Int.tmod bt269.1 bt271.1) ((decide ((Int.tmod bt269.1 bt271.1) < 0)) != (decide (bt271.1 < 0)))))) else (whole_DivMod.j1 k a0 a1))) else (whole_DivMod.j1 k a0 a1)))
theorem whole_DivMod.calls (k : Nat) (a0 : ByteArray) (a1 : ByteArray) (r1 : ByteArray) (r2 : ByteArray) (r3 : Int) (w : World) (hG : Glob w) (h : whole_DivMod.f k a0 a1 = some (r1, r2, r3)) :
  Calls Tryz.prog 107 #[.string a0, .string a1] w fun e w' => e = .returned (.tuple #[.string r1, .string r2, .int .i64 r3]) ∧ Below w.heap.size w w' := by
 have HG0 := am hG
 clear hG
 have HB := am (Below.refl w.heap.size w)
 have H := h
 unfold whole_DivMod.f at H
 clear h
 by_cases c3 : a1.toList = ([48] : List UInt8)
 ·rw [if_pos c3] at H
  have c3b0 := beq_iff_eq.mpr c3
  have c3b1 := bne_eq_false_iff_eq.mpr c3
  clear c3
  simp only [Option.some.injEq, Prod.mk.injEq] at H
  obtain ⟨rfl, rfl, rfl⟩ := H
  go_enter Tryz.func107, Tryz.ntmps107
  go_wp2
  repeat (go_quiet (fail); try go_wp2)
  go_ret3
  exact ⟨rl, bl HB⟩
 ·rw [if_neg c3] at H
  have c3b0 := beq_eq_false_iff_ne.mpr c3
  have c3b1 := bne_iff_ne.mpr c3
  obtain ⟨⟨t269, t270⟩, A4, H⟩ := bo H
  try dsimp only at H
  have HC5 := am H
  clear H
  go_enter Tryz.func107, Tryz.ntmps107
  go_upto_if 26 with (first | (go_at_call 96; (with_reducible refine (wLittle.calls a0 18 t269 t270 _ ?s1 A4.out).mono ?_); (case s1 => exact gb HG0 HB); rintro e w6 ⟨rfl, hb⟩; replace HB := bs HB hb; (try clear hb)))
  repeat (go_quiet (first | (go_at_call 96; (with_reducible refine (wLittle.calls a0 18 t269 t270 _ ?s1 A4.out).mono ?_); (case s1 => exact gb HG0 HB); rintro e w6 ⟨rfl, hb⟩; replace HB := bs HB hb; (try clear hb))); go_upto_if 26 with (first | (go_at_call 96; (with_reducible refine (wLittle.calls a0 18 t269 t270 _ ?s1 A4.out).mono ?_); (case s1 => exact gb HG0 HB); rintro e w6 ⟨rfl, hb⟩; replace HB := bs HB hb; (try clear hb))))
  (try simp only [Act.put, List.setIfInBounds_toArray, List.set_cons_zero, List.set_cons_succ])
  go_cut [] (fun wc => ∃ (kq : Nat), Aside0 (whole_DivMod.j1 kq a0 a1 = some (r1, r2, r3)) ∧ Aside0 (kq ≤ k) ∧ Aside0 (Below w.heap.size w wc))
  case first =>
   have H := HC5.out
   clear HC5
   by_cases c7 : t270 = true
   ·subst c7
    rw [if_pos rfl] at H
    obtain ⟨⟨t271, t272⟩, A8, H⟩ := bo H
    try dsimp only at H
    by_cases c9 : t272 = true
    ·subst c9
     rw [if_pos rfl] at H
     by_cases c10 : t271 = 0
     case pos => rw [if_pos c10] at H; cases H
     rw [if_neg c10] at H
     have c10b0 := beq_eq_false_iff_ne.mpr c10
     have c10b1 := bne_iff_ne.mpr c10
     (first | rw [c10b0] | (simp only [i64_w, i32_w]; rw [c10b0]) | skip)
     have HC11 := am H
     clear H
     go_upto_region 8 with (first | (go_at_call 96; (with_reducible refine (wLittle.calls a1 18 t271 true _ ?s1 A8.out).mono ?_); (case s1 => exact gb HG0 HB); rintro e w12 ⟨rfl, hb⟩; replace HB := bs HB hb; (try clear hb)))
     repeat (go_quiet (first | (go_at_call 96; (with_reducible refine (wLittle.calls a1 18 t271 true _ ?s1 A8.out).mono ?_); (case s1 => exact gb HG0 HB); rintro e w12 ⟨rfl, hb⟩; replace HB := bs HB hb; (try clear hb))); go_upto_region 8 with (first | (go_at_call 96; (with_reducible refine (wLittle.calls a1 18 t271 true _ ?s1 A8.out).mono ?_); (case s1 => exact gb HG0 HB); rintro e w12 ⟨rfl, hb⟩; replace HB := bs HB hb; (try clear hb))))
     (try simp only [Act.put, List.setIfInBounds_toArray, List.set_cons_zero, List.set_cons_succ])
     go_cut [47] (fun v47 wc => ∃ (kq : Nat) (x47_10 : Bool), v47 = .bool x47_10 ∧ Aside0 (whole_DivMod.j0 kq t271 (wrap64 (Int.tdiv t269 t271)) (Int.tmod t269 t271) x47_10 = some (r1, r2, r3)) ∧ Aside0 (kq ≤ k) ∧ Aside0 (Below w.heap.size w wc))
     case first =>
      have H := HC11.out
      clear HC11
      by_cases c13 : (Int.tmod t269 t271) = 0
      ·rw [if_pos c13] at H
       have c13b0 := beq_iff_eq.mpr c13
       have c13b1 := bne_eq_false_iff_eq.mpr c13
       clear c13
       (first | rw [c13b0] | (simp only [i64_w, i32_w]; rw [c13b0]) | skip)
       have H' := am H
       clear H
       go_wp2
       repeat (go_quiet (fail); try go_wp2)
       go_meet
       case rel => exact ⟨_, (false), rs, H', ⟨by first | omega | exact Nat.le_refl _⟩, ⟨bl HB⟩⟩
      ·rw [if_neg c13] at H
       have c13b0 := beq_eq_false_iff_ne.mpr c13
       have c13b1 := bne_iff_ne.mpr c13
       (first | rw [c13b0] | (simp only [i64_w, i32_w]; rw [c13b0]) | skip)
       have H' := am H
       clear H
       go_wp2
       repeat (go_quiet (fail); try go_wp2)
       go_meet
       case rel => exact ⟨_, (((decide ((Int.tmod t269 t271) < 0)) != (decide (t271 < 0)))), rs, H', ⟨by first | omega | exact Nat.le_refl _⟩, ⟨bl HB⟩⟩
     case rest =>
      clear HC11
      try clear c1
      try clear p2
      try clear c3
      try clear c3b0
      try clear c3b1
      try clear p6
      try clear c7
      try clear c9
      try clear c10
      try clear c10b0
      try clear c10b1
      try clear c13
      try clear c13b0
      try clear c13b1
      obtain ⟨kq, x47_10, rfl, HA, HJ10, HB⟩ := hcut
      cases kq with
      | zero => exact absurd HA.out (by simp [whole_DivMod.j0])
      | succ kj10 =>
       have H := HA.out
       clear HA
       simp only [whole_DivMod.j0] at H
       by_cases c14 : x47_10 = true
       ·subst c14
        rw [if_pos rfl] at H
        obtain ⟨t273, A15, H⟩ := bo H
        try dsimp only at H
        obtain ⟨t274, A16, H⟩ := bo H
        try dsimp only at H
        simp only [Option.some.injEq, Prod.mk.injEq] at H
        obtain ⟨rfl, rfl, rfl⟩ := H
        go_wp2_with (first | (go_at_call 97; (with_reducible refine (whole_Of.calls (wrap64 ((wrap64 (Int.tdiv t269 t271)) - 1)) t273 _ ?s1 A15.out).mono ?_); (case s1 => exact gb HG0 HB); rintro e w17 ⟨rfl, hb⟩; replace HB := bs HB hb; (try clear hb)) | (go_at_call 97; (with_reducible refine (whole_Of.calls (wrap64 ((Int.tmod t269 t271) + t271)) t274 _ ?s1 A16.out).mono ?_); (case s1 => exact gb HG0 HB); rintro e w18 ⟨rfl, hb⟩; replace HB := bs HB hb; (try clear hb)))
        repeat (go_quiet (first | (go_at_call 97; (with_reducible refine (whole_Of.calls (wrap64 ((wrap64 (Int.tdiv t269 t271)) - 1)) t273 _ ?s1 A15.out).mono ?_); (case s1 => exact gb HG0 HB); rintro e w17 ⟨rfl, hb⟩; replace HB := bs HB hb; (try clear hb)) | (go_at_call 97; (with_reducible refine (whole_Of.calls (wrap64 ((Int.tmod t269 t271) + t271)) t274 _ ?s1 A16.out).mono ?_); (case s1 => exact gb HG0 HB); rintro e w18 ⟨rfl, hb⟩; replace HB := bs HB hb; (try clear hb))); try go_wp2_with (first | (go_at_call 97; (with_reducible refine (whole_Of.calls (wrap64 ((wrap64 (Int.tdiv t269 t271)) - 1)) t273 _ ?s1 A15.out).mono ?_); (case s1 => exact gb HG0 HB); rintro e w17 ⟨rfl, hb⟩; replace HB := bs HB hb; (try clear hb)) | (go_at_call 97; (with_reducible refine (whole_Of.calls (wrap64 ((Int.tmod t269 t271) + t271)) t274 _ ?s1 A16.out).mono ?_); (case s1 => exact gb HG0 HB); rintro e w18 ⟨rfl, hb⟩; replace HB := bs HB hb; (try clear hb))))
        go_ret3
        exact ⟨rl, bl HB⟩
       ·replace c14 := Bool.eq_false_iff.mpr c14
        subst c14
        rw [if_neg (show ¬ (false = true) by decide)] at H
        obtain ⟨t275, A19, H⟩ := bo H
        try dsimp only at H
        obtain ⟨t276, A20, H⟩ := bo H
        try dsimp only at H
        simp only [Option.some.injEq, Prod.mk.injEq] at H
        obtain ⟨rfl, rfl, rfl⟩ := H
        go_wp2_with (first | (go_at_call 97; (with_reducible refine (whole_Of.calls (wrap64 (Int.tdiv t269 t271)) t275 _ ?s1 A19.out).mono ?_); (case s1 => exact gb HG0 HB); rintro e w21 ⟨rfl, hb⟩; replace HB := bs HB hb; (try clear hb)) | (go_at_call 97; (with_reducible refine (whole_Of.calls (Int.tmod t269 t271) t276 _ ?s1 A20.out).mono ?_); (case s1 => exact gb HG0 HB); rintro e w22 ⟨rfl, hb⟩; replace HB := bs HB hb; (try clear hb)))
        repeat (go_quiet (first | (go_at_call 97; (with_reducible refine (whole_Of.calls (wrap64 (Int.tdiv t269 t271)) t275 _ ?s1 A19.out).mono ?_); (case s1 => exact gb HG0 HB); rintro e w21 ⟨rfl, hb⟩; replace HB := bs HB hb; (try clear hb)) | (go_at_call 97; (with_reducible refine (whole_Of.calls (Int.tmod t269 t271) t276 _ ?s1 A20.out).mono ?_); (case s1 => exact gb HG0 HB); rintro e w22 ⟨rfl, hb⟩; replace HB := bs HB hb; (try clear hb))); try go_wp2_with (first | (go_at_call 97; (with_reducible refine (whole_Of.calls (wrap64 (Int.tdiv t269 t271)) t275 _ ?s1 A19.out).mono ?_); (case s1 => exact gb HG0 HB); rintro e w21 ⟨rfl, hb⟩; replace HB := bs HB hb; (try clear hb)) | (go_at_call 97; (with_reducible refine (whole_Of.calls (Int.tmod t269 t271) t276 _ ?s1 A20.out).mono ?_); (case s1 => exact gb HG0 HB); rintro e w22 ⟨rfl, hb⟩; replace HB := bs HB hb; (try clear hb))))
        go_ret3
        exact ⟨rl, bl HB⟩
    ·replace c9 := Bool.eq_false_iff.mpr c9
     subst c9
     rw [if_neg (show ¬ (false = true) by decide)] at H
     have H' := am H
     clear H
     go_wp2_with (first | (go_at_call 96; (with_reducible refine (wLittle.calls a1 18 t271 false _ ?s1 A8.out).mono ?_); (case s1 => exact gb HG0 HB); rintro e w23 ⟨rfl, hb⟩; replace HB := bs HB hb; (try clear hb)))
     repeat (go_quiet (first | (go_at_call 96; (with_reducible refine (wLittle.calls a1 18 t271 false _ ?s1 A8.out).mono ?_); (case s1 => exact gb HG0 HB); rintro e w23 ⟨rfl, hb⟩; replace HB := bs HB hb; (try clear hb))); try go_wp2_with (first | (go_at_call 96; (with_reducible refine (wLittle.calls a1 18 t271 false _ ?s1 A8.out).mono ?_); (case s1 => exact gb HG0 HB); rintro e w23 ⟨rfl, hb⟩; replace HB := bs HB hb; (try clear hb))))
     go_meet
     case rel => exact ⟨_, H', ⟨by first | omega | exact Nat.le_refl _⟩, ⟨bl HB⟩⟩
   ·replace c7 := Bool.eq_false_iff.mpr c7
    subst c7
    rw [if_neg (show ¬ (false = true) by decide)] at H
    have H' := am H
    clear H
    go_wp2
    repeat (go_quiet (fail); try go_wp2)
    go_meet
    case rel => exact ⟨_, H', ⟨by first | omega | exact Nat.le_refl _⟩, ⟨bl HB⟩⟩
  case rest =>
   clear HC5
   try clear c1
   try clear p2
   try clear c3
   try clear c3b0
   try clear c3b1
   try clear p6
   try clear c7
   try clear c9
   try clear c10
   try clear c10b0
   try clear c10b1
   try clear c13
   try clear c13b0
   try clear c13b1
   try clear c14
   try clear p2
   try clear p6
   obtain ⟨kq, HA, HJ4, HB⟩ := hcut
   cases kq with
   | zero => exact absurd HA.out (by simp [whole_DivMod.j1])
   | succ kj4 =>
    have H := HA.out
    clear HA
    simp only [whole_DivMod.j1] at H
    obtain ⟨⟨t277, t278⟩, A24, H⟩ := bo H
    try dsimp only at H
    obtain ⟨⟨t279, t280⟩, A25, H⟩ := bo H
    try dsimp only at H
    cases H
def fraction_lowest.j0 : Nat → ByteArray → ByteArray → Option (ByteArray × ByteArray)
 | 0, _, _ => none
 | k + 1, x0, x1 => (whole_Gcd.f k x0 x1).bind fun t285 => (if t285.toList = ([49] : List UInt8) then (some (x0, x1)) else ((whole_DivMod.f k x0 t285).bind fun bt286 => ((whole_DivMod.f k x1 t285).bind fun bt289 => (some (bt286.1, bt289.1)))))
def fraction_lowest.f (k : Nat) (a0 : ByteArray) (a1 : ByteArray) : Option (ByteArray × ByteArray) := (whole_Sign.f a1).bind fun t282 => (if t282 < 0 then ((whole_Neg.f a0).bind fun t283 => ((whole_Neg.f a1).bind fun t284 => (fraction_lowest.j0 k t283 t284))) else (fraction_lowest.j0 k a0 a1))
theorem fraction_lowest.calls (k : Nat) (a0 : ByteArray) (a1 : ByteArray) (r1 : ByteArray) (r2 : ByteArray) (w : World) (hG : Glob w) (h : fraction_lowest.f k a0 a1 = some (r1, r2)) :
  Calls Tryz.prog 81 #[.string a0, .string a1] w fun e w' => e = .returned (.agg #[.string r1, .string r2]) ∧ Below w.heap.size w w' := by
 have hu30 := Tryz.underlying30
 have HG0 := am hG
 clear hG
 have HB := am (Below.refl w.heap.size w)
 have H := h
 unfold fraction_lowest.f at H
 clear h
 obtain ⟨t282, A3, H⟩ := bo H
 try dsimp only at H
 have HC4 := am H
 clear H
 go_enter Tryz.func81, Tryz.ntmps81
 go_upto_if 8 with (first | ((with_reducible refine gd (N := 4) rfl ?_); refine boxM (N := 4) #[.string (⟨#[]⟩ : ByteArray), .string (⟨#[]⟩ : ByteArray)] 30 ?_; intro gb281 hg w5 hbox hb; have BK281 := am (hbox); have GW281 := gw hg HB; have GE281 := GW281; replace HB := bs HB hb; clear hb hbox hg) | ((with_reducible refine gc (f := 54) rfl ?_); refine goesM (some 7) Tryz.func54 #[.string a1] ?_; (with_reducible refine (whole_Sign.calls a1 t282 _ A3.out).mono ?_); rintro e w' ⟨rfl, ⟨nd, rfl⟩⟩; refine ⟨_, rfl, ?_⟩))
 (try simp only [Act.put, List.setIfInBounds_toArray, List.set_cons_zero, List.set_cons_succ])
 go_cut [0, 1] (fun v0 v1 wc => ∃ (kq : Nat) (x0_3 : ByteArray) (x1_3 : ByteArray), v0 = .string x0_3 ∧ v1 = .string x1_3 ∧ Aside0 (fraction_lowest.j0 kq x0_3 x1_3 = some (r1, r2)) ∧ Aside0 (kq ≤ k) ∧ Aside0 (wc.heap[gb281]? = some (.cells #[.string (⟨#[]⟩ : ByteArray), .string (⟨#[]⟩ : ByteArray)] 30 (0, 0))) ∧ Aside0 (Below w.heap.size w wc))
 case first =>
  have H := HC4.out
  clear HC4
  by_cases c6 : t282 < 0
  ·rw [if_pos c6] at H
   have c6b0 := decide_eq_true c6
   clear c6
   (first | rw [c6b0] | (simp only [i64_w, i32_w]; rw [c6b0]) | skip)
   obtain ⟨t283, A7, H⟩ := bo H
   try dsimp only at H
   obtain ⟨t284, A8, H⟩ := bo H
   try dsimp only at H
   have H' := am H
   clear H
   go_wp2_with (first | ((with_reducible refine gc (f := 34) rfl ?_); refine goesM (some 10) Tryz.func34 #[.string a0] ?_; (with_reducible refine (whole_Neg.calls a0 t283 _ A7.out).mono ?_); rintro e w' ⟨rfl, ⟨nd, rfl⟩⟩; refine ⟨_, rfl, ?_⟩) | ((with_reducible refine gc (f := 34) rfl ?_); refine goesM (some 12) Tryz.func34 #[.string a1] ?_; (with_reducible refine (whole_Neg.calls a1 t284 _ A8.out).mono ?_); rintro e w' ⟨rfl, ⟨nd, rfl⟩⟩; refine ⟨_, rfl, ?_⟩))
   go_meet
   case rel => exact ⟨_, (t283), (t284), rs, rs, H', ⟨by first | omega | exact Nat.le_refl _⟩, ⟨bk BK281⟩, ⟨bl HB⟩⟩
  ·rw [if_neg c6] at H
   have c6b0 := decide_eq_false c6
   clear c6
   (first | rw [c6b0] | (simp only [i64_w, i32_w]; rw [c6b0]) | skip)
   have H' := am H
   clear H
   go_wp2
   go_meet
   case rel => exact ⟨_, (a0), (a1), rs, rs, H', ⟨by first | omega | exact Nat.le_refl _⟩, ⟨bk BK281⟩, ⟨bl HB⟩⟩
 case rest =>
  clear HC4
  try clear p2
  try clear c3
  try clear c5
  try clear c6
  try clear c6b0
  try clear c8
  obtain ⟨kq, x0_3, x1_3, rfl, rfl, HA, HJ3, BK281, HB⟩ := hcut
  cases kq with
  | zero => exact absurd HA.out (by simp [fraction_lowest.j0])
  | succ kj3 =>
   have H := HA.out
   clear HA
   simp only [fraction_lowest.j0] at H
   obtain ⟨t285, A9, H⟩ := bo H
   try dsimp only at H
   by_cases c10 : t285.toList = ([49] : List UInt8)
   ·rw [if_pos c10] at H
    have c10b0 := beq_iff_eq.mpr c10
    have c10b1 := bne_eq_false_iff_eq.mpr c10
    clear c10
    simp only [Option.some.injEq, Prod.mk.injEq] at H
    obtain ⟨rfl, rfl⟩ := H
    go_wp2_with (first | ((with_reducible refine gc (f := 55) rfl ?_); refine goesM (some 15) Tryz.func55 #[.string x0_3, .string x1_3] ?_; (with_reducible refine (whole_Gcd.calls kj3 x0_3 x1_3 t285 _ ?s1 A9.out).mono ?_); (case s1 => exact gb HG0 HB); rintro e w11 ⟨rfl, hb⟩; refine ⟨_, rfl, ?_⟩; replace BK281 := kb BK281 hb; replace HB := bs HB hb; (try clear hb); have hcz12_0 := bc BK281 0 (.string (⟨#[]⟩ : ByteArray)); have hcz12_1 := bc BK281 1 (.string (⟨#[]⟩ : ByteArray)); have hfz12_0 := blk_frozen BK281.out 0; have hfz12_1 := blk_frozen BK281.out 1))
    refine bodyPost_ret (results_cell_row rfl _ _ gb281 30 #[.string x0_3, .string x1_3] (0, 0) _ rfl (by (with_reducible repeat (first | refine blk_drewN ?_ _ | refine blk_drew ?_ | refine blk_alloc ?_ _)); refine blk_put (cs := #[.string x0_3, .string (⟨#[]⟩ : ByteArray)]) ?_ 1 _ rfl; (with_reducible repeat (first | refine blk_drewN ?_ _ | refine blk_drew ?_ | refine blk_alloc ?_ _)); refine blk_put (cs := #[.string (⟨#[]⟩ : ByteArray), .string (⟨#[]⟩ : ByteArray)]) ?_ 0 _ rfl; (with_reducible repeat (first | refine blk_drewN ?_ _ | refine blk_drew ?_ | refine blk_alloc ?_ _)); exact BK281.out) Tryz.underlying30 rfl (by kernel_rfl)) rfl ?_
    exact ⟨rl, bl HB⟩
   ·rw [if_neg c10] at H
    have c10b0 := beq_eq_false_iff_ne.mpr c10
    have c10b1 := bne_iff_ne.mpr c10
    obtain ⟨⟨t286, t287, t288⟩, A13, H⟩ := bo H
    try dsimp only at H
    obtain ⟨⟨t289, t290, t291⟩, A14, H⟩ := bo H
    try dsimp only at H
    simp only [Option.some.injEq, Prod.mk.injEq] at H
    obtain ⟨rfl, rfl⟩ := H
    go_wp2_with (first | ((with_reducible refine gc (f := 55) rfl ?_); refine goesM (some 15) Tryz.func55 #[.string x0_3, .string x1_3] ?_; (with_reducible refine (whole_Gcd.calls kj3 x0_3 x1_3 t285 _ ?s1 A9.out).mono ?_); (case s1 => exact gb HG0 HB); rintro e w15 ⟨rfl, hb⟩; refine ⟨_, rfl, ?_⟩; replace BK281 := kb BK281 hb; replace HB := bs HB hb; (try clear hb)) | ((with_reducible refine gc (f := 107) rfl ?_); refine goesM (some 21) Tryz.func107 #[.string x0_3, .string t285] ?_; (with_reducible refine (whole_DivMod.calls kj3 x0_3 t285 t286 t287 t288 _ ?s1 A13.out).mono ?_); (case s1 => exact gb HG0 HB); rintro e w16 ⟨rfl, hb⟩; refine ⟨_, rfl, ?_⟩; replace BK281 := kb BK281 hb; replace HB := bs HB hb; (try clear hb)) | ((with_reducible refine gc (f := 107) rfl ?_); refine goesM (some 28) Tryz.func107 #[.string x1_3, .string t285] ?_; (with_reducible refine (whole_DivMod.calls kj3 x1_3 t285 t289 t290 t291 _ ?s1 A14.out).mono ?_); (case s1 => exact gb HG0 HB); rintro e w17 ⟨rfl, hb⟩; refine ⟨_, rfl, ?_⟩; replace BK281 := kb BK281 hb; replace HB := bs HB hb; (try clear hb); have hcz18_0 := bc BK281 0 (.string (⟨#[]⟩ : ByteArray)); have hcz18_1 := bc BK281 1 (.string (⟨#[]⟩ : ByteArray)); have hfz18_0 := blk_frozen BK281.out 0; have hfz18_1 := blk_frozen BK281.out 1))
    refine bodyPost_ret (results_cell_row rfl _ _ gb281 30 #[.string t286, .string t289] (0, 0) _ rfl (by (with_reducible repeat (first | refine blk_drewN ?_ _ | refine blk_drew ?_ | refine blk_alloc ?_ _)); refine blk_put (cs := #[.string t286, .string (⟨#[]⟩ : ByteArray)]) ?_ 1 _ rfl; (with_reducible repeat (first | refine blk_drewN ?_ _ | refine blk_drew ?_ | refine blk_alloc ?_ _)); refine blk_put (cs := #[.string (⟨#[]⟩ : ByteArray), .string (⟨#[]⟩ : ByteArray)]) ?_ 0 _ rfl; (with_reducible repeat (first | refine blk_drewN ?_ _ | refine blk_drew ?_ | refine blk_alloc ?_ _)); exact BK281.out) Tryz.underlying30 rfl (by kernel_rfl)) rfl ?_
    exact ⟨rl, bl HB⟩
def fraction_New.f (k : Nat) (a0 : ByteArray) (a1 : ByteArray) : Option (ByteArray × ByteArray × Int) := (whole_Sign.f a1).bind fun t293 => (if t293 = 0 then (some ((⟨#[]⟩ : ByteArray), (⟨#[]⟩ : ByteArray), 17)) else ((fraction_lowest.f k a0 a1).bind fun bt294 => (some (bt294.1, bt294.2, 0))))
theorem fraction_New.calls (k : Nat) (a0 : ByteArray) (a1 : ByteArray) (r1 : ByteArray) (r2 : ByteArray) (r3 : Int) (w : World) (hG : Glob w) (h : fraction_New.f k a0 a1 = some (r1, r2, r3)) :
  Calls Tryz.prog 105 #[.string a0, .string a1] w fun e w' => e = .returned (.tuple #[.agg #[.string r1, .string r2], .int .i64 r3]) ∧ Below w.heap.size w w' := by
 have hu30 := Tryz.underlying30
 have HG0 := am hG
 clear hG
 have HB := am (Below.refl w.heap.size w)
 have H := h
 unfold fraction_New.f at H
 clear h
 obtain ⟨t293, A3, H⟩ := bo H
 try dsimp only at H
 by_cases c4 : t293 = 0
 ·rw [if_pos c4] at H
  have c4b0 := beq_iff_eq.mpr c4
  have c4b1 := bne_eq_false_iff_eq.mpr c4
  clear c4
  simp only [Option.some.injEq, Prod.mk.injEq] at H
  obtain ⟨rfl, rfl, rfl⟩ := H
  go_enter Tryz.func105, Tryz.ntmps105
  go_wp2_with (first | ((with_reducible refine gd (N := 4) rfl ?_); refine boxM (N := 4) #[.string (⟨#[]⟩ : ByteArray), .string (⟨#[]⟩ : ByteArray)] 30 ?_; intro gb292 hg w5 hbox hb; have BK292 := am (hbox); have GW292 := gw hg HB; have GE292 := GW292; replace HB := bs HB hb; clear hb hbox hg) | ((with_reducible refine gc (f := 54) rfl ?_); refine goesM (some 7) Tryz.func54 #[.string a1] ?_; (with_reducible refine (whole_Sign.calls a1 t293 _ A3.out).mono ?_); rintro e w' ⟨rfl, ⟨nd, rfl⟩⟩; refine ⟨_, rfl, ?_⟩; (try (rw [drewN_self w5]; generalize hq_ : World.drewN w5 _ = w5; have n0_ : Aside0 (w5.heap[gb292]? = some (.cells #[.string (⟨#[]⟩ : ByteArray), .string (⟨#[]⟩ : ByteArray)] 30 (0, 0))) := ⟨by rw [← hq_]; exact (bk BK292)⟩; have n1_ : Aside0 (Below w.heap.size w w5) := ⟨by rw [← hq_]; exact (bl HB)⟩; clear BK292 HB hq_; have BK292 := n0_; have HB := n1_; clear n0_ n1_)); have hcz6_0 := bc BK292 0 (.string (⟨#[]⟩ : ByteArray)); have hcz6_1 := bc BK292 1 (.string (⟨#[]⟩ : ByteArray)); have hfz6_0 := blk_frozen BK292.out 0; have hfz6_1 := blk_frozen BK292.out 1))
  refine bodyPost_ret (results_ct rfl _ _ gb292 30 #[.string (⟨#[]⟩ : ByteArray), .string (⟨#[]⟩ : ByteArray)] (0, 0) _ rfl (by (with_reducible repeat (first | refine blk_drewN ?_ _ | refine blk_drew ?_ | refine blk_alloc ?_ _)); refine blk_put (cs := #[.string (⟨#[]⟩ : ByteArray), .string (⟨#[]⟩ : ByteArray)]) ?_ 1 _ rfl; (with_reducible repeat (first | refine blk_drewN ?_ _ | refine blk_drew ?_ | refine blk_alloc ?_ _)); refine blk_put (cs := #[.string (⟨#[]⟩ : ByteArray), .string (⟨#[]⟩ : ByteArray)]) ?_ 0 _ rfl; (with_reducible repeat (first | refine blk_drewN ?_ _ | refine blk_drew ?_ | refine blk_alloc ?_ _)); exact BK292.out) Tryz.underlying30 rfl (by kernel_rfl)) rfl ?_
  exact ⟨rl, bl HB⟩
 ·rw [if_neg c4] at H
  have c4b0 := beq_eq_false_iff_ne.mpr c4
  have c4b1 := bne_iff_ne.mpr c4
  obtain ⟨⟨t294, t295⟩, A7, H⟩ := bo H
  try dsimp only at H
  simp only [Option.some.injEq, Prod.mk.injEq] at H
  obtain ⟨rfl, rfl, rfl⟩ := H
  go_enter Tryz.func105, Tryz.ntmps105
  go_wp2_with (first | ((with_reducible refine gd (N := 4) rfl ?_); refine boxM (N := 4) #[.string (⟨#[]⟩ : ByteArray), .string (⟨#[]⟩ : ByteArray)] 30 ?_; intro gb292 hg w8 hbox hb; have BK292 := am (hbox); have GW292 := gw hg HB; have GE292 := GW292; replace HB := bs HB hb; clear hb hbox hg) | ((with_reducible refine gc (f := 54) rfl ?_); refine goesM (some 7) Tryz.func54 #[.string a1] ?_; (with_reducible refine (whole_Sign.calls a1 t293 _ A3.out).mono ?_); rintro e w' ⟨rfl, ⟨nd, rfl⟩⟩; refine ⟨_, rfl, ?_⟩; (try (rw [drewN_self w8]; generalize hq_ : World.drewN w8 _ = w8; have n0_ : Aside0 (w8.heap[gb292]? = some (.cells #[.string (⟨#[]⟩ : ByteArray), .string (⟨#[]⟩ : ByteArray)] 30 (0, 0))) := ⟨by rw [← hq_]; exact (bk BK292)⟩; have n1_ : Aside0 (Below w.heap.size w w8) := ⟨by rw [← hq_]; exact (bl HB)⟩; clear BK292 HB hq_; have BK292 := n0_; have HB := n1_; clear n0_ n1_))) | ((with_reducible refine gc (f := 81) rfl ?_); refine goesM (some 12) Tryz.func81 #[.string a0, .string a1] ?_; (with_reducible refine (fraction_lowest.calls k a0 a1 t294 t295 _ ?s1 A7.out).mono ?_); (case s1 => exact gb HG0 HB); rintro e w9 ⟨rfl, hb⟩; refine ⟨_, rfl, ?_⟩; replace BK292 := kb BK292 hb; replace HB := bs HB hb; (try clear hb); have hcz10_0 := bc BK292 0 (.string (⟨#[]⟩ : ByteArray)); have hcz10_1 := bc BK292 1 (.string (⟨#[]⟩ : ByteArray)); have hfz10_0 := blk_frozen BK292.out 0; have hfz10_1 := blk_frozen BK292.out 1))
  refine bodyPost_ret (results_ct rfl _ _ gb292 30 #[.string t294, .string t295] (0, 0) _ rfl (by (with_reducible repeat (first | refine blk_drewN ?_ _ | refine blk_drew ?_ | refine blk_alloc ?_ _)); refine blk_put (cs := #[.string t294, .string (⟨#[]⟩ : ByteArray)]) ?_ 1 _ rfl; (with_reducible repeat (first | refine blk_drewN ?_ _ | refine blk_drew ?_ | refine blk_alloc ?_ _)); refine blk_put (cs := #[.string (⟨#[]⟩ : ByteArray), .string (⟨#[]⟩ : ByteArray)]) ?_ 0 _ rfl; (with_reducible repeat (first | refine blk_drewN ?_ _ | refine blk_drew ?_ | refine blk_alloc ?_ _)); exact BK292.out) Tryz.underlying30 rfl (by kernel_rfl)) rfl ?_
  exact ⟨rl, bl HB⟩
def fraction_Of.f (k : Nat) (a0 : Int) (a1 : Int) : Option (ByteArray × ByteArray × Int) := (whole_Of.f a0).bind fun t297 => ((whole_Of.f a1).bind fun t298 => ((fraction_New.f k t297 t298).bind fun bt299 => (some (bt299.1, bt299.2.1, bt299.2.2))))
theorem fraction_Of.calls (k : Nat) (a0 : Int) (a1 : Int) (r1 : ByteArray) (r2 : ByteArray) (r3 : Int) (w : World) (hG : Glob w) (h : fraction_Of.f k a0 a1 = some (r1, r2, r3)) :
  Calls Tryz.prog 61 #[.int .i64 a0, .int .i64 a1] w fun e w' => e = .returned (.tuple #[.agg #[.string r1, .string r2], .int .i64 r3]) ∧ Below w.heap.size w w' := by
 have hu30 := Tryz.underlying30
 have HG0 := am hG
 clear hG
 have HB := am (Below.refl w.heap.size w)
 have H := h
 unfold fraction_Of.f at H
 clear h
 obtain ⟨t297, A3, H⟩ := bo H
 try dsimp only at H
 obtain ⟨t298, A4, H⟩ := bo H
 try dsimp only at H
 obtain ⟨⟨t299, t300, t301⟩, A5, H⟩ := bo H
 try dsimp only at H
 simp only [Option.some.injEq, Prod.mk.injEq] at H
 obtain ⟨rfl, rfl, rfl⟩ := H
 go_enter Tryz.func61, Tryz.ntmps61
 go_wp2_with (first | ((with_reducible refine gd (N := 4) rfl ?_); refine boxM (N := 4) #[.string (⟨#[]⟩ : ByteArray), .string (⟨#[]⟩ : ByteArray)] 30 ?_; intro gb296 hg w6 hbox hb; have BK296 := am (hbox); have GW296 := gw hg HB; have GE296 := GW296; replace HB := bs HB hb; clear hb hbox hg) | ((with_reducible refine gc (f := 97) rfl ?_); refine goesM (some 7) Tryz.func97 #[.int .i64 a0] ?_; (with_reducible refine (whole_Of.calls a0 t297 _ ?s1 A3.out).mono ?_); (case s1 => exact gb HG0 HB); rintro e w7 ⟨rfl, hb⟩; refine ⟨_, rfl, ?_⟩; replace BK296 := kb BK296 hb; replace HB := bs HB hb; (try clear hb)) | ((with_reducible refine gc (f := 97) rfl ?_); refine goesM (some 9) Tryz.func97 #[.int .i64 a1] ?_; (with_reducible refine (whole_Of.calls a1 t298 _ ?s1 A4.out).mono ?_); (case s1 => exact gb HG0 HB); rintro e w8 ⟨rfl, hb⟩; refine ⟨_, rfl, ?_⟩; replace BK296 := kb BK296 hb; replace HB := bs HB hb; (try clear hb)) | ((with_reducible refine gc (f := 105) rfl ?_); refine goesM (some 10) Tryz.func105 #[.string t297, .string t298] ?_; (with_reducible refine (fraction_New.calls k t297 t298 t299 t300 t301 _ ?s1 A5.out).mono ?_); (case s1 => exact gb HG0 HB); rintro e w9 ⟨rfl, hb⟩; refine ⟨_, rfl, ?_⟩; replace BK296 := kb BK296 hb; replace HB := bs HB hb; (try clear hb); have hcz10_0 := bc BK296 0 (.string (⟨#[]⟩ : ByteArray)); have hcz10_1 := bc BK296 1 (.string (⟨#[]⟩ : ByteArray)); have hfz10_0 := blk_frozen BK296.out 0; have hfz10_1 := blk_frozen BK296.out 1))
 refine bodyPost_ret (results_ct rfl _ _ gb296 30 #[.string t299, .string t300] (0, 0) _ rfl (by (with_reducible repeat (first | refine blk_drewN ?_ _ | refine blk_drew ?_ | refine blk_alloc ?_ _)); refine blk_put (cs := #[.string t299, .string (⟨#[]⟩ : ByteArray)]) ?_ 1 _ rfl; (with_reducible repeat (first | refine blk_drewN ?_ _ | refine blk_drew ?_ | refine blk_alloc ?_ _)); refine blk_put (cs := #[.string (⟨#[]⟩ : ByteArray), .string (⟨#[]⟩ : ByteArray)]) ?_ 0 _ rfl; (with_reducible repeat (first | refine blk_drewN ?_ _ | refine blk_drew ?_ | refine blk_alloc ?_ _)); exact BK296.out) Tryz.underlying30 rfl (by kernel_rfl)) rfl ?_
 exact ⟨rl, bl HB⟩
def schismalaw13_part.f (k : Nat) (a0 : Int) (a1 : Int) : Option (ByteArray × ByteArray) := (fraction_Of.f k a0 a1).bind fun bt303 => (some (bt303.1, bt303.2.1))
theorem schismalaw13_part.calls (k : Nat) (a0 : Int) (a1 : Int) (r1 : ByteArray) (r2 : ByteArray) (w : World) (hG : Glob w) (h : schismalaw13_part.f k a0 a1 = some (r1, r2)) :
  Calls Tryz.prog 18 #[.int .i64 a0, .int .i64 a1] w fun e w' => e = .returned (.agg #[.string r1, .string r2]) ∧ Below w.heap.size w w' := by
 have hu30 := Tryz.underlying30
 have HG0 := am hG
 clear hG
 have HB := am (Below.refl w.heap.size w)
 have H := h
 unfold schismalaw13_part.f at H
 clear h
 obtain ⟨⟨t303, t304, t305⟩, A3, H⟩ := bo H
 try dsimp only at H
 simp only [Option.some.injEq, Prod.mk.injEq] at H
 obtain ⟨rfl, rfl⟩ := H
 go_enter Tryz.func18, Tryz.ntmps18
 go_wp2_with (first | ((with_reducible refine gd (N := 4) rfl ?_); refine boxM (N := 4) #[.string (⟨#[]⟩ : ByteArray), .string (⟨#[]⟩ : ByteArray)] 30 ?_; intro gb302 hg w4 hbox hb; have BK302 := am (hbox); have GW302 := gw hg HB; have GE302 := GW302; replace HB := bs HB hb; clear hb hbox hg) | ((with_reducible refine gc (f := 61) rfl ?_); refine goesM (some 10) Tryz.func61 #[.int .i64 a0, .int .i64 a1] ?_; (with_reducible refine (fraction_Of.calls k a0 a1 t303 t304 t305 _ ?s1 A3.out).mono ?_); (case s1 => exact gb HG0 HB); rintro e w5 ⟨rfl, hb⟩; refine ⟨_, rfl, ?_⟩; replace BK302 := kb BK302 hb; replace HB := bs HB hb; (try clear hb)) | ((with_reducible refine gd (N := 5) rfl ?_); refine boxM (N := 5) #[.string (⟨#[]⟩ : ByteArray), .string (⟨#[]⟩ : ByteArray)] 30 ?_; intro gb306 hg w6 hbox hb; have BK306 := am (hbox); have GW306 := gw hg HB; have GE306 := GW306; replace HB := bs HB hb; have NB302_306 := nl hg BK302; have NB306_302 := ng hg BK302; replace BK302 := kb BK302 hb; clear hb hbox hg; have hnb7 := NB306_302.out; have hnc7 := NB302_306.out; have hcz8_0 := bc BK306 0 (.string (⟨#[]⟩ : ByteArray)); have hcz8_1 := bc BK306 1 (.string (⟨#[]⟩ : ByteArray)); have hfz8_0 := blk_frozen BK306.out 0; have hfz8_1 := blk_frozen BK306.out 1; have hcz9_0 := bc BK302 0 (.string (⟨#[]⟩ : ByteArray)); have hcz9_1 := bc BK302 1 (.string (⟨#[]⟩ : ByteArray)); have hfz9_0 := blk_frozen BK302.out 0; have hfz9_1 := blk_frozen BK302.out 1))
 refine bodyPost_ret (results_cell_row rfl _ _ gb302 30 #[.string t303, .string t304] (0, 0) _ rfl (by (with_reducible repeat (first | refine blk_drewN ?_ _ | refine blk_drew ?_ | refine blk_alloc ?_ _)); refine blk_put (cs := #[.string t303, .string (⟨#[]⟩ : ByteArray)]) ?_ 1 _ rfl; (with_reducible repeat (first | refine blk_drewN ?_ _ | refine blk_drew ?_ | refine blk_alloc ?_ _)); refine blk_put (cs := #[.string (⟨#[]⟩ : ByteArray), .string (⟨#[]⟩ : ByteArray)]) ?_ 0 _ rfl; (with_reducible repeat (first | refine blk_drewN ?_ _ | refine blk_drew ?_ | refine blk_alloc ?_ _)); refine blk_far ?_ NB302_306.out _; (with_reducible repeat (first | refine blk_drewN ?_ _ | refine blk_drew ?_ | refine blk_alloc ?_ _)); refine blk_far ?_ NB302_306.out _; (with_reducible repeat (first | refine blk_drewN ?_ _ | refine blk_drew ?_ | refine blk_alloc ?_ _)); exact BK302.out) Tryz.underlying30 rfl (by kernel_rfl)) rfl ?_
 exact ⟨rl, bl HB⟩
mutual
def prime_IsPrime.j0 : Nat → Int → Bool → Option (Bool)
 | 0, _, _ => none
 | k + 1, x0, x9 => if x9 = true then (some false) else (prime_IsPrime.l0 k x0 2)
def prime_IsPrime.l0 : Nat → Int → Int → Option (Bool)
 | 0, _, _ => none
 | k + 1, x0, x3 => if (wrap64 (x3 * x3)) ≤ x0 then (if x3 = 0 then (none) else (if (Int.tmod x0 x3) = 0 then (some false) else (prime_IsPrime.l0 k x0 (wrap64 (x3 + 1))))) else (some true)
end
def prime_IsPrime.f (k : Nat) (a0 : Int) : Option (Bool) := if a0 < 2 then (prime_IsPrime.j0 k a0 true) else (prime_IsPrime.j0 k a0 (decide (a0 > 97)))
theorem prime_IsPrime.mono_l : ∀ k, (∀ y0 y1, LeO (prime_IsPrime.j0 k y0 y1) (prime_IsPrime.j0 (k + 1) y0 y1)) ∧ (∀ y0 y1, LeO (prime_IsPrime.l0 k y0 y1) (prime_IsPrime.l0 (k + 1) y0 y1))
 | 0 => ⟨fun _ _ r h => by simp [prime_IsPrime.j0] at h, fun _ _ r h => by simp [prime_IsPrime.l0] at h⟩
 | k + 1 => by
  obtain ⟨ih0, ih1⟩ := prime_IsPrime.mono_l k
  refine ⟨?_, ?_⟩
  ·intro y0 y1
   unfold prime_IsPrime.j0
   repeat' first
   | (with_reducible exact ih0 _ _)
   | (with_reducible exact ih1 _ _)
   | (with_reducible exact LeO.refl _)
   | (with_reducible exact LeO.none _)
   | (with_reducible refine LeO.ite ?_ ?_)
   | (with_reducible refine LeO.bind ?_ (fun _ => ?_))
   | exact ih0 _ _
   | exact ih1 _ _
   | exact LeO.none _
   | refine LeO.ite ?_ ?_
   | refine LeO.bind ?_ (fun _ => ?_)
  ·intro y0 y1
   unfold prime_IsPrime.l0
   repeat' first
   | (with_reducible exact ih0 _ _)
   | (with_reducible exact ih1 _ _)
   | (with_reducible exact LeO.refl _)
   | (with_reducible exact LeO.none _)
   | (with_reducible refine LeO.ite ?_ ?_)
   | (with_reducible refine LeO.bind ?_ (fun _ => ?_))
   | exact ih0 _ _
   | exact ih1 _ _
   | exact LeO.none _
   | refine LeO.ite ?_ ?_
   | refine LeO.bind ?_ (fun _ => ?_)
theorem prime_IsPrime.mono : ∀ a0 k, LeO (prime_IsPrime.f k a0) (prime_IsPrime.f (k + 1) a0) := by
 intro a0 k
 obtain ⟨ih0, ih1⟩ := prime_IsPrime.mono_l k
 unfold prime_IsPrime.f
 repeat' first
   | (with_reducible exact ih0 _ _)
   | (with_reducible exact ih1 _ _)
   | (with_reducible exact LeO.refl _)
   | (with_reducible exact LeO.none _)
   | (with_reducible refine LeO.ite ?_ ?_)
   | (with_reducible refine LeO.bind ?_ (fun _ => ?_))
   | exact ih0 _ _
   | exact ih1 _ _
   | exact LeO.none _
   | refine LeO.ite ?_ ?_
   | refine LeO.bind ?_ (fun _ => ?_)
theorem prime_IsPrime.calls (k : Nat) (a0 : Int) (r : Bool) (w : World) (h : prime_IsPrime.f k a0 = some r) :
  Calls Tryz.prog 84 #[.int .i64 a0] w fun e w' => e = .returned (.bool r) ∧ Drawn0 w w' := by
 have H := h
 unfold prime_IsPrime.f at H
 clear h
 have HC2 := am H
 clear H
 go_enter Tryz.func84, Tryz.ntmps84
 go_upto_region 1 with (fail)
 go_cut [9] (fun v9 wc => ∃ (kq : Nat) (x9_1 : Bool), v9 = .bool x9_1 ∧ Aside0 (prime_IsPrime.j0 kq a0 x9_1 = some r) ∧ Aside0 (kq ≤ k) ∧ Drawn0 w wc)
 case first =>
  have H := HC2.out
  clear HC2
  by_cases c3 : a0 < 2
  ·rw [if_pos c3] at H
   have c3b0 := decide_eq_true c3
   clear c3
   (first | rw [c3b0] | (simp only [i64_w, i32_w]; rw [c3b0]) | skip)
   have H' := am H
   clear H
   go_wp2
   go_meet
   case rel => exact ⟨_, (true), rs, H', ⟨by first | omega | exact Nat.le_refl _⟩, by repeat (first | exact Drawn0.refl _ | apply Drawn0.step)⟩
  ·rw [if_neg c3] at H
   have c3b0 := decide_eq_false c3
   clear c3
   (first | rw [c3b0] | (simp only [i64_w, i32_w]; rw [c3b0]) | skip)
   have H' := am H
   clear H
   go_wp2
   go_meet
   case rel => exact ⟨_, (decide (a0 > 97)), rs, H', ⟨by first | omega | exact Nat.le_refl _⟩, by repeat (first | exact Drawn0.refl _ | apply Drawn0.step)⟩
 case rest =>
  clear HC2
  try clear p2
  try clear c3
  try clear c3b0
  obtain ⟨kq, x9_1, rfl, HA, HJ1, ⟨mc1, rfl⟩⟩ := hcut
  cases kq with
  | zero => exact absurd HA.out (by simp [prime_IsPrime.j0])
  | succ kj1 =>
   have H := HA.out
   clear HA
   simp only [prime_IsPrime.j0] at H
   by_cases c4 : x9_1 = true
   ·subst c4
    rw [if_pos rfl] at H
    obtain rfl := Option.some.inj H
    go_wp2
    go_ret
    exact ⟨by first | rfl | (simp; done) | (simp [*]; done), by repeat (first | exact Drawn0.refl _ | apply Drawn0.step)⟩
   ·replace c4 := Bool.eq_false_iff.mpr c4
    subst c4
    rw [if_neg (show ¬ (false = true) by decide)] at H
    have H' := am H
    clear H
    go_wp2
    go_loopg [3] kj1 (fun kq v3 w' => ∃ (x3_2 : Int), v3 = .int .i64 x3_2 ∧ Aside0 (prime_IsPrime.l0 kq a0 x3_2 = some r) ∧ Aside0 (kq ≤ kj1) ∧ Drawn0 w w')
    case atStart => exact ⟨(2), rs, H', ⟨Nat.le_refl _⟩, by repeat (first | exact Drawn0.refl _ | apply Drawn0.step)⟩
    case round =>
     clear H'
     try clear c1
     try clear p2
     try clear c3
     try clear c3b0
     try clear c4
     try clear p2
     obtain ⟨x3_2, rfl, HA, HK2, ⟨m2, rfl⟩⟩ := hrel
     cases gk with
     | zero => exact absurd HA.out (by simp [prime_IsPrime.l0])
     | succ k2 =>
      have H := HA.out
      clear HA
      simp only [prime_IsPrime.l0] at H
      by_cases c5 : (wrap64 (x3_2 * x3_2)) ≤ a0
      ·rw [if_pos c5] at H
       have c5b0 := decide_eq_true c5
       clear c5
       by_cases c6 : x3_2 = 0
       case pos => rw [if_pos c6] at H; cases H
       rw [if_neg c6] at H
       have c6b0 := beq_eq_false_iff_ne.mpr c6
       have c6b1 := bne_iff_ne.mpr c6
       by_cases c7 : (Int.tmod a0 x3_2) = 0
       ·rw [if_pos c7] at H
        have c7b0 := beq_iff_eq.mpr c7
        have c7b1 := bne_eq_false_iff_eq.mpr c7
        clear c7
        obtain rfl := Option.some.inj H
        go_wp2
        go_ret
        exact ⟨by first | rfl | (simp; done) | (simp [*]; done), by repeat (first | exact Drawn0.refl _ | apply Drawn0.step)⟩
       ·rw [if_neg c7] at H
        have c7b0 := beq_eq_false_iff_ne.mpr c7
        have c7b1 := bne_iff_ne.mpr c7
        have H' := am H
        clear H
        go_wp2
        go_roundg k2
        case measure => have := HJ1.out; have := HK2.out; omega
        case rel => exact ⟨(wrap64 (x3_2 + 1)), rs, H', ⟨by have := HJ1.out; have := HK2.out; omega⟩, by repeat (first | exact Drawn0.refl _ | apply Drawn0.step)⟩
      ·rw [if_neg c5] at H
       have c5b0 := decide_eq_false c5
       clear c5
       obtain rfl := Option.some.inj H
       go_wp2
       go_ret
       exact ⟨by first | rfl | (simp; done) | (simp [*]; done), by repeat (first | exact Drawn0.refl _ | apply Drawn0.step)⟩
def prime_Check.l0 : Nat → List Int → List Int → Int → Int → Option (Int)
 | 0, _, _, _, _ => none
 | k + 1, x0, x13, x14, x15 => if x15 < x14 then (if 0 ≤ x15 then (if x15 < (x13.length : Int) then ((prime_IsPrime.f k (rd x13 x15)).bind fun t308 => (if t308 = true then (if x15 > 0 then (if 0 ≤ (wrap64 (x15 - 1)) then (if (wrap64 (x15 - 1)) < (x0.length : Int) then (if (rd x13 x15) ≤ (rd x0 (wrap64 (x15 - 1))) then (some 6) else (prime_Check.l0 k x0 x13 x14 (wrap64 (x15 + 1)))) else (none)) else (none)) else (prime_Check.l0 k x0 x13 x14 (wrap64 (x15 + 1)))) else (some 25))) else (none)) else (none)) else (some 0)
def prime_Check.f (k : Nat) (l0 : List Int) : Option (Int) := if (l0.length : Int) = 0 then (some 13) else (if (l0.length : Int) > 6 then (some 4) else (prime_Check.l0 k l0 l0 (l0.length : Int) 0))
theorem prime_Check.calls (k : Nat) (A0 : Option Addr) (c0 : Nat) (l0 : List Int) (r : Int) (w : World) (hr0 : Kd.C (Kd.int .i64) w A0 l0.length l0) (hc0 : l0.length ≤ c0) (h : prime_Check.f k l0 = some r) :
  Calls Tryz.prog 40 #[.slice A0 l0.length c0] w fun e w' => e = .returned (.int .i64 r) ∧ Drawn0 w w' := by
 have HR0 := am hr0
 have HC0 := am hc0
 clear hr0 hc0
 have H := h
 unfold prime_Check.f at H
 clear h
 by_cases c2 : (l0.length : Int) = 0
 ·rw [if_pos c2] at H
  have c2b0 := beq_iff_eq.mpr c2
  have c2b1 := bne_eq_false_iff_eq.mpr c2
  clear c2
  obtain rfl := Option.some.inj H
  go_enter Tryz.func40, Tryz.ntmps40
  go_wp2
  go_ret
  exact ⟨by first | rfl | (simp; done) | (simp [*]; done), by repeat (first | exact Drawn0.refl _ | apply Drawn0.step)⟩
 ·rw [if_neg c2] at H
  have c2b0 := beq_eq_false_iff_ne.mpr c2
  have c2b1 := bne_iff_ne.mpr c2
  have c2b2 : ¬ (l0 = []) := fun h_ => c2 (by rw [h_]; rfl)
  by_cases c3 : (l0.length : Int) > 6
  ·rw [if_pos c3] at H
   have c3b0 : decide (6 < (l0.length : Int)) = true := decide_eq_true c3
   have c3b1 : decide (6 < l0.length) = true := decide_eq_true (by omega)
   clear c3
   obtain rfl := Option.some.inj H
   go_enter Tryz.func40, Tryz.ntmps40
   go_wp2
   go_ret
   exact ⟨by first | rfl | (simp; done) | (simp [*]; done), by repeat (first | exact Drawn0.refl _ | apply Drawn0.step)⟩
  ·rw [if_neg c3] at H
   have c3b0 : decide (6 < (l0.length : Int)) = false := decide_eq_false c3
   have c3b1 : decide (6 < l0.length) = false := decide_eq_false (by omega)
   clear c3
   have H' := am H
   clear H
   go_enter Tryz.func40, Tryz.ntmps40
   go_wp2
   go_loopg [15] k (fun kq v15 w' => ∃ (x15_1 : Int), v15 = .int .i64 x15_1 ∧ Aside0 (prime_Check.l0 kq l0 l0 (l0.length : Int) x15_1 = some r) ∧ Aside0 (kq ≤ k) ∧ Drawn0 w w')
   case atStart => exact ⟨(0), rs, H', ⟨Nat.le_refl _⟩, by repeat (first | exact Drawn0.refl _ | apply Drawn0.step)⟩
   case round =>
    clear H'
    try clear c2
    try clear c2b0
    try clear c2b1
    try clear c2b2
    try clear p2
    try clear c3
    try clear c3b0
    try clear c3b1
    obtain ⟨x15_1, rfl, HA, HK1, ⟨m1, rfl⟩⟩ := hrel
    cases gk with
    | zero => exact absurd HA.out (by simp [prime_Check.l0])
    | succ k1 =>
     have H := HA.out
     clear HA
     simp only [prime_Check.l0] at H
     by_cases c4 : x15_1 < (l0.length : Int)
     ·rw [if_pos c4] at H
      have c4b0 := decide_eq_true c4
      clear c4
      by_cases c5 : 0 ≤ x15_1
      case neg => rw [if_neg c5] at H; cases H
      rw [if_pos c5] at H
      have c5b0 := decide_eq_true c5
      clear c5
      by_cases c6 : x15_1 < (l0.length : Int)
      case neg => rw [if_neg c6] at H; cases H
      rw [if_pos c6] at H
      have c6b0 := decide_eq_true c6
      clear c6
      obtain ⟨t308, A7, H⟩ := bo H
      try dsimp only at H
      by_cases c8 : t308 = true
      ·subst c8
       rw [if_pos rfl] at H
       by_cases c9 : x15_1 > 0
       ·rw [if_pos c9] at H
        have c9b0 : decide (0 < x15_1) = true := decide_eq_true c9
        clear c9
        obtain ⟨ji10, hji10⟩ : ∃ j_ : Int, (wrap64 (x15_1 - 1)) = j_ := ⟨_, rfl⟩
        first | rw [hji10] at H | simp only [hji10] at H | skip
        (try rw [hji10] at A7)
        have hji10w : (IntKind.i64.wrap (x15_1 - 1)) = ji10 := (i64_w _).trans hji10
        by_cases c11 : 0 ≤ (ji10)
        case neg => rw [if_neg c11] at H; cases H
        rw [if_pos c11] at H
        have c11b0 := decide_eq_true c11
        clear c11
        by_cases c12 : (ji10) < (l0.length : Int)
        case neg => rw [if_neg c12] at H; cases H
        rw [if_pos c12] at H
        have c12b0 := decide_eq_true c12
        clear c12
        by_cases c13 : (rd l0 x15_1) ≤ (rd l0 (ji10))
        ·rw [if_pos c13] at H
         have c13b0 := decide_eq_true c13
         clear c13
         obtain rfl := Option.some.inj H
         have p307 : 0 ≤ (x15_1 : Int) := of_decide_eq_true (by first | (with_reducible assumption) | assumption)
         have q307 : x15_1 < (l0.length : Int) := of_decide_eq_true (by first | (with_reducible assumption) | assumption)
         obtain ⟨ad307, e307, hx307_0⟩ := Kd.at_int HR0.out x15_1 p307 q307
         cases e307
         replace p307 := eq_true p307
         replace q307 := eq_true q307
         go_wp2_with (first | ((with_reducible refine gc (f := 84) rfl ?_); refine goesM (some 21) Tryz.func84 #[.int .i64 (rd l0 x15_1)] ?_; (with_reducible refine (prime_IsPrime.calls k1 (rd l0 x15_1) true _ A7.out).mono ?_); rintro e w' ⟨rfl, ⟨nd, rfl⟩⟩; refine ⟨_, rfl, ?_⟩; have p309 : 0 ≤ ((ji10) : Int) := of_decide_eq_true (by first | (with_reducible assumption) | assumption); have q309 : (ji10) < (l0.length : Int) := of_decide_eq_true (by first | (with_reducible assumption) | assumption); obtain ⟨ad309, e309, hx309_0⟩ := Kd.at_int HR0.out (ji10) p309 q309; obtain rfl : ad307 = ad309 := (by injection e309); replace p309 := eq_true p309; replace q309 := eq_true q309))
         go_ret
         exact ⟨by first | rfl | (simp; done) | (simp only [← hji10] <;> (first | rfl | simp)) | (simp [*]; done), by repeat (first | exact Drawn0.refl _ | apply Drawn0.step)⟩
        ·rw [if_neg c13] at H
         have c13b0 := decide_eq_false c13
         clear c13
         have H' := am H
         clear H
         have p307 : 0 ≤ (x15_1 : Int) := of_decide_eq_true (by first | (with_reducible assumption) | assumption)
         have q307 : x15_1 < (l0.length : Int) := of_decide_eq_true (by first | (with_reducible assumption) | assumption)
         obtain ⟨ad307, e307, hx307_0⟩ := Kd.at_int HR0.out x15_1 p307 q307
         cases e307
         replace p307 := eq_true p307
         replace q307 := eq_true q307
         go_wp2_with (first | ((with_reducible refine gc (f := 84) rfl ?_); refine goesM (some 21) Tryz.func84 #[.int .i64 (rd l0 x15_1)] ?_; (with_reducible refine (prime_IsPrime.calls k1 (rd l0 x15_1) true _ A7.out).mono ?_); rintro e w' ⟨rfl, ⟨nd, rfl⟩⟩; refine ⟨_, rfl, ?_⟩; have p309 : 0 ≤ ((ji10) : Int) := of_decide_eq_true (by first | (with_reducible assumption) | assumption); have q309 : (ji10) < (l0.length : Int) := of_decide_eq_true (by first | (with_reducible assumption) | assumption); obtain ⟨ad309, e309, hx309_0⟩ := Kd.at_int HR0.out (ji10) p309 q309; obtain rfl : ad307 = ad309 := (by injection e309); replace p309 := eq_true p309; replace q309 := eq_true q309))
         go_roundg k1
         case measure => have := HK1.out; omega
         case rel => exact ⟨(wrap64 (x15_1 + 1)), rs, H', ⟨by have := HK1.out; omega⟩, by repeat (first | exact Drawn0.refl _ | apply Drawn0.step)⟩
       ·rw [if_neg c9] at H
        have c9b0 : decide (0 < x15_1) = false := decide_eq_false c9
        clear c9
        have H' := am H
        clear H
        have p307 : 0 ≤ (x15_1 : Int) := of_decide_eq_true (by first | (with_reducible assumption) | assumption)
        have q307 : x15_1 < (l0.length : Int) := of_decide_eq_true (by first | (with_reducible assumption) | assumption)
        obtain ⟨ad307, e307, hx307_0⟩ := Kd.at_int HR0.out x15_1 p307 q307
        cases e307
        replace p307 := eq_true p307
        replace q307 := eq_true q307
        go_wp2_with (first | ((with_reducible refine gc (f := 84) rfl ?_); refine goesM (some 21) Tryz.func84 #[.int .i64 (rd l0 x15_1)] ?_; (with_reducible refine (prime_IsPrime.calls k1 (rd l0 x15_1) true _ A7.out).mono ?_); rintro e w' ⟨rfl, ⟨nd, rfl⟩⟩; refine ⟨_, rfl, ?_⟩))
        go_roundg k1
        case measure => have := HK1.out; omega
        case rel => exact ⟨(wrap64 (x15_1 + 1)), rs, H', ⟨by have := HK1.out; omega⟩, by repeat (first | exact Drawn0.refl _ | apply Drawn0.step)⟩
      ·replace c8 := Bool.eq_false_iff.mpr c8
       subst c8
       rw [if_neg (show ¬ (false = true) by decide)] at H
       obtain rfl := Option.some.inj H
       have p307 : 0 ≤ (x15_1 : Int) := of_decide_eq_true (by first | (with_reducible assumption) | assumption)
       have q307 : x15_1 < (l0.length : Int) := of_decide_eq_true (by first | (with_reducible assumption) | assumption)
       obtain ⟨ad307, e307, hx307_0⟩ := Kd.at_int HR0.out x15_1 p307 q307
       cases e307
       replace p307 := eq_true p307
       replace q307 := eq_true q307
       go_wp2_with (first | ((with_reducible refine gc (f := 84) rfl ?_); refine goesM (some 21) Tryz.func84 #[.int .i64 (rd l0 x15_1)] ?_; (with_reducible refine (prime_IsPrime.calls k1 (rd l0 x15_1) false _ A7.out).mono ?_); rintro e w' ⟨rfl, ⟨nd, rfl⟩⟩; refine ⟨_, rfl, ?_⟩))
       go_ret
       exact ⟨by first | rfl | (simp; done) | (simp [*]; done), by repeat (first | exact Drawn0.refl _ | apply Drawn0.step)⟩
     ·rw [if_neg c4] at H
      have c4b0 := decide_eq_false c4
      clear c4
      obtain rfl := Option.some.inj H
      go_wp2
      go_ret
      exact ⟨by first | rfl | (simp; done) | (simp [*]; done), by repeat (first | exact Drawn0.refl _ | apply Drawn0.step)⟩
def size_check.l0 : Nat → List (S30) → Int → Int → Option (Int)
 | 0, _, _, _ => none
 | k + 1, x12, x13, x14 => if x14 < x13 then (if 0 ≤ x14 then (if x14 < (x12.length : Int) then ((fraction_Check.f k ((rd_T30 x12 x14).f0) ((rd_T30 x12 x14).f1)).bind fun t312 => (if t312 = 0 then ((size_short.f ((rd_T30 x12 x14).f0) ((rd_T30 x12 x14).f1)).bind fun t313 => (if t313 = true then (size_check.l0 k x12 x13 (wrap64 (x14 + 1))) else (some 4))) else (some 2))) else (none)) else (none)) else (some 0)
def size_check.f (k : Nat) (l0 : List Int) (l1 : List (S30)) : Option (Int) := if (l1.length : Int) = (l0.length : Int) then (size_check.l0 k l1 (l1.length : Int) 0) else (some 5)
theorem size_check.calls (k : Nat) (A0 : Option Addr) (c0 : Nat) (l0 : List Int) (A1 : Option Addr) (c1 : Nat) (l1 : List (S30)) (r : Int) (w : World) (hG : Glob w) (hr0 : Kd.C (Kd.int .i64) w A0 l0.length l0) (hc0 : l0.length ≤ c0) (hr1 : Kd.C k30 w A1 l1.length l1) (hc1 : l1.length ≤ c1) (h : size_check.f k l0 l1 = some r) :
  Calls Tryz.prog 94 #[.slice A0 l0.length c0, .slice A1 l1.length c1] w fun e w' => e = .returned (.int .i64 r) ∧ Below w.heap.size w w' := by
 have hu30 := Tryz.underlying30
 have HR0 := am hr0
 have HC0 := am hc0
 clear hr0 hc0
 have HR1 := am hr1
 have HC1 := am hc1
 clear hr1 hc1
 have HG0 := am hG
 clear hG
 have HB := am (Below.refl w.heap.size w)
 have H := h
 unfold size_check.f at H
 clear h
 by_cases c3 : (l1.length : Int) = (l0.length : Int)
 ·rw [if_pos c3] at H
  have c3b0 := beq_iff_eq.mpr c3
  have c3b1 := bne_eq_false_iff_eq.mpr c3
  have c3b2 : (l1.length == l0.length) = true := by first | simpa using c3 | (simp at c3 ⊢; omega)
  clear c3
  have H' := am H
  clear H
  go_enter Tryz.func94, Tryz.ntmps94
  go_wp2
  go_loopg [14] k (fun kq v14 w' => ∃ (x14_1 : Int), v14 = .int .i64 x14_1 ∧ Aside0 (size_check.l0 kq l1 (l1.length : Int) x14_1 = some r) ∧ Aside0 (kq ≤ k) ∧ Aside0 (Below w.heap.size w w'))
  case atStart => exact ⟨(0), rs, H', ⟨Nat.le_refl _⟩, ⟨bl HB⟩⟩
  case round =>
   clear H'
   try clear c1
   try clear p2
   try clear c3
   try clear c3b0
   try clear c3b1
   try clear c3b2
   obtain ⟨x14_1, rfl, HA, HK1, HB⟩ := hrel
   cases gk with
   | zero => exact absurd HA.out (by simp [size_check.l0])
   | succ k1 =>
    have H := HA.out
    clear HA
    simp only [size_check.l0] at H
    by_cases c4 : x14_1 < (l1.length : Int)
    ·rw [if_pos c4] at H
     have c4b0 := decide_eq_true c4
     clear c4
     by_cases c5 : 0 ≤ x14_1
     case neg => rw [if_neg c5] at H; cases H
     rw [if_pos c5] at H
     have c5b0 := decide_eq_true c5
     clear c5
     by_cases c6 : x14_1 < (l1.length : Int)
     case neg => rw [if_neg c6] at H; cases H
     rw [if_pos c6] at H
     have c6b0 := decide_eq_true c6
     clear c6
     obtain ⟨t312, A7, H⟩ := bo H
     try dsimp only at H
     by_cases c8 : t312 = 0
     ·rw [if_pos c8] at H
      have c8b0 := beq_iff_eq.mpr c8
      have c8b1 := bne_eq_false_iff_eq.mpr c8
      clear c8
      obtain ⟨t313, A9, H⟩ := bo H
      try dsimp only at H
      by_cases c10 : t313 = true
      ·subst c10
       rw [if_pos rfl] at H
       have H' := am H
       clear H
       have p310 : 0 ≤ (x14_1 : Int) := of_decide_eq_true (by first | (with_reducible assumption) | assumption)
       have q310 : x14_1 < (l1.length : Int) := of_decide_eq_true (by first | (with_reducible assumption) | assumption)
       obtain ⟨ad310, e310, hx310_0, hx310_1⟩ := at_T30 HR1.out x14_1 p310 q310
       cases e310
       replace hx310_0 := (HB.out.cell (World.block_lt_of_cell? w _ hx310_0)).trans hx310_0
       replace hx310_1 := (HB.out.cell (World.block_lt_of_cell? w _ hx310_1)).trans hx310_1
       replace p310 := eq_true p310
       replace q310 := eq_true q310
       go_wp2_with (first | ((with_reducible refine gd (N := 6) rfl ?_); refine boxM (N := 6) #[.string (⟨#[]⟩ : ByteArray), .string (⟨#[]⟩ : ByteArray)] 30 ?_; intro gb311 hg w11 hbox hb; have BK311 := am (hbox); have GW311 := gw hg HB; have GE311 := GW311; replace HB := bs HB hb; clear hb hbox hg; have hcz12_0 := bc BK311 0 (.string (⟨#[]⟩ : ByteArray)); have hcz12_1 := bc BK311 1 (.string (⟨#[]⟩ : ByteArray)); have hfz12_0 := blk_frozen BK311.out 0; have hfz12_1 := blk_frozen BK311.out 1) | ((with_reducible refine gc (f := 14) rfl ?_); refine goesM (some 19) Tryz.func14 #[.agg #[.string ((rd_T30 l1 x14_1).f0), .string ((rd_T30 l1 x14_1).f1)]] ?_; (with_reducible refine (fraction_Check.calls k1 ((rd_T30 l1 x14_1).f0) ((rd_T30 l1 x14_1).f1) t312 _ ?s1 A7.out).mono ?_); (case s1 => exact gb HG0 HB); rintro e w13 ⟨rfl, hb⟩; refine ⟨_, rfl, ?_⟩; replace BK311 := am (blk_below (g := gb311) (o := .cells #[.string ((rd_T30 l1 x14_1).f0), .string ((rd_T30 l1 x14_1).f1)] 30 (0, 0)) (by (with_reducible repeat (first | refine blk_drewN ?_ _ | refine blk_drew ?_ | refine blk_alloc ?_ _)); refine blk_put (cs := #[.string ((rd_T30 l1 x14_1).f0), .string (⟨#[]⟩ : ByteArray)]) ?_ 1 _ rfl; (with_reducible repeat (first | refine blk_drewN ?_ _ | refine blk_drew ?_ | refine blk_alloc ?_ _)); refine blk_put (cs := #[.string (⟨#[]⟩ : ByteArray), .string (⟨#[]⟩ : ByteArray)]) ?_ 0 _ rfl; (with_reducible repeat (first | refine blk_drewN ?_ _ | refine blk_drew ?_ | refine blk_alloc ?_ _)); exact BK311.out) hb); replace HB := bs HB hb; (try clear hb); have hcz14_0 := bc BK311 0 (.string ((rd_T30 l1 x14_1).f0)); have hcz14_1 := bc BK311 1 (.string ((rd_T30 l1 x14_1).f1)); have hfz14_0 := blk_frozen BK311.out 0; have hfz14_1 := blk_frozen BK311.out 1) | ((with_reducible refine gc (f := 103) rfl ?_); refine goesM (some 22) Tryz.func103 #[.agg #[.string ((rd_T30 l1 x14_1).f0), .string ((rd_T30 l1 x14_1).f1)]] ?_; (with_reducible refine (size_short.calls ((rd_T30 l1 x14_1).f0) ((rd_T30 l1 x14_1).f1) true _ A9.out).mono ?_); rintro e w15 ⟨rfl, hb⟩; refine ⟨_, rfl, ?_⟩; replace BK311 := kb BK311 hb; replace HB := bs HB hb; (try clear hb)))
       go_roundg k1
       case measure => have := HK1.out; omega
       case rel => exact ⟨(wrap64 (x14_1 + 1)), rs, H', ⟨by have := HK1.out; omega⟩, ⟨bl HB⟩⟩
      ·replace c10 := Bool.eq_false_iff.mpr c10
       subst c10
       rw [if_neg (show ¬ (false = true) by decide)] at H
       obtain rfl := Option.some.inj H
       have p310 : 0 ≤ (x14_1 : Int) := of_decide_eq_true (by first | (with_reducible assumption) | assumption)
       have q310 : x14_1 < (l1.length : Int) := of_decide_eq_true (by first | (with_reducible assumption) | assumption)
       obtain ⟨ad310, e310, hx310_0, hx310_1⟩ := at_T30 HR1.out x14_1 p310 q310
       cases e310
       replace hx310_0 := (HB.out.cell (World.block_lt_of_cell? w _ hx310_0)).trans hx310_0
       replace hx310_1 := (HB.out.cell (World.block_lt_of_cell? w _ hx310_1)).trans hx310_1
       replace p310 := eq_true p310
       replace q310 := eq_true q310
       go_wp2_with (first | ((with_reducible refine gd (N := 6) rfl ?_); refine boxM (N := 6) #[.string (⟨#[]⟩ : ByteArray), .string (⟨#[]⟩ : ByteArray)] 30 ?_; intro gb311 hg w16 hbox hb; have BK311 := am (hbox); have GW311 := gw hg HB; have GE311 := GW311; replace HB := bs HB hb; clear hb hbox hg; have hcz17_0 := bc BK311 0 (.string (⟨#[]⟩ : ByteArray)); have hcz17_1 := bc BK311 1 (.string (⟨#[]⟩ : ByteArray)); have hfz17_0 := blk_frozen BK311.out 0; have hfz17_1 := blk_frozen BK311.out 1) | ((with_reducible refine gc (f := 14) rfl ?_); refine goesM (some 19) Tryz.func14 #[.agg #[.string ((rd_T30 l1 x14_1).f0), .string ((rd_T30 l1 x14_1).f1)]] ?_; (with_reducible refine (fraction_Check.calls k1 ((rd_T30 l1 x14_1).f0) ((rd_T30 l1 x14_1).f1) t312 _ ?s1 A7.out).mono ?_); (case s1 => exact gb HG0 HB); rintro e w18 ⟨rfl, hb⟩; refine ⟨_, rfl, ?_⟩; replace BK311 := am (blk_below (g := gb311) (o := .cells #[.string ((rd_T30 l1 x14_1).f0), .string ((rd_T30 l1 x14_1).f1)] 30 (0, 0)) (by (with_reducible repeat (first | refine blk_drewN ?_ _ | refine blk_drew ?_ | refine blk_alloc ?_ _)); refine blk_put (cs := #[.string ((rd_T30 l1 x14_1).f0), .string (⟨#[]⟩ : ByteArray)]) ?_ 1 _ rfl; (with_reducible repeat (first | refine blk_drewN ?_ _ | refine blk_drew ?_ | refine blk_alloc ?_ _)); refine blk_put (cs := #[.string (⟨#[]⟩ : ByteArray), .string (⟨#[]⟩ : ByteArray)]) ?_ 0 _ rfl; (with_reducible repeat (first | refine blk_drewN ?_ _ | refine blk_drew ?_ | refine blk_alloc ?_ _)); exact BK311.out) hb); replace HB := bs HB hb; (try clear hb); have hcz19_0 := bc BK311 0 (.string ((rd_T30 l1 x14_1).f0)); have hcz19_1 := bc BK311 1 (.string ((rd_T30 l1 x14_1).f1)); have hfz19_0 := blk_frozen BK311.out 0; have hfz19_1 := blk_frozen BK311.out 1) | ((with_reducible refine gc (f := 103) rfl ?_); refine goesM (some 22) Tryz.func103 #[.agg #[.string ((rd_T30 l1 x14_1).f0), .string ((rd_T30 l1 x14_1).f1)]] ?_; (with_reducible refine (size_short.calls ((rd_T30 l1 x14_1).f0) ((rd_T30 l1 x14_1).f1) false _ A9.out).mono ?_); rintro e w20 ⟨rfl, hb⟩; refine ⟨_, rfl, ?_⟩; replace BK311 := kb BK311 hb; replace HB := bs HB hb; (try clear hb)))
       go_ret
       exact ⟨rl, bl HB⟩
     ·rw [if_neg c8] at H
      have c8b0 := beq_eq_false_iff_ne.mpr c8
      have c8b1 := bne_iff_ne.mpr c8
      obtain rfl := Option.some.inj H
      have p310 : 0 ≤ (x14_1 : Int) := of_decide_eq_true (by first | (with_reducible assumption) | assumption)
      have q310 : x14_1 < (l1.length : Int) := of_decide_eq_true (by first | (with_reducible assumption) | assumption)
      obtain ⟨ad310, e310, hx310_0, hx310_1⟩ := at_T30 HR1.out x14_1 p310 q310
      cases e310
      replace hx310_0 := (HB.out.cell (World.block_lt_of_cell? w _ hx310_0)).trans hx310_0
      replace hx310_1 := (HB.out.cell (World.block_lt_of_cell? w _ hx310_1)).trans hx310_1
      replace p310 := eq_true p310
      replace q310 := eq_true q310
      go_wp2_with (first | ((with_reducible refine gd (N := 6) rfl ?_); refine boxM (N := 6) #[.string (⟨#[]⟩ : ByteArray), .string (⟨#[]⟩ : ByteArray)] 30 ?_; intro gb311 hg w21 hbox hb; have BK311 := am (hbox); have GW311 := gw hg HB; have GE311 := GW311; replace HB := bs HB hb; clear hb hbox hg; have hcz22_0 := bc BK311 0 (.string (⟨#[]⟩ : ByteArray)); have hcz22_1 := bc BK311 1 (.string (⟨#[]⟩ : ByteArray)); have hfz22_0 := blk_frozen BK311.out 0; have hfz22_1 := blk_frozen BK311.out 1) | ((with_reducible refine gc (f := 14) rfl ?_); refine goesM (some 19) Tryz.func14 #[.agg #[.string ((rd_T30 l1 x14_1).f0), .string ((rd_T30 l1 x14_1).f1)]] ?_; (with_reducible refine (fraction_Check.calls k1 ((rd_T30 l1 x14_1).f0) ((rd_T30 l1 x14_1).f1) t312 _ ?s1 A7.out).mono ?_); (case s1 => exact gb HG0 HB); rintro e w23 ⟨rfl, hb⟩; refine ⟨_, rfl, ?_⟩; replace BK311 := am (blk_below (g := gb311) (o := .cells #[.string ((rd_T30 l1 x14_1).f0), .string ((rd_T30 l1 x14_1).f1)] 30 (0, 0)) (by (with_reducible repeat (first | refine blk_drewN ?_ _ | refine blk_drew ?_ | refine blk_alloc ?_ _)); refine blk_put (cs := #[.string ((rd_T30 l1 x14_1).f0), .string (⟨#[]⟩ : ByteArray)]) ?_ 1 _ rfl; (with_reducible repeat (first | refine blk_drewN ?_ _ | refine blk_drew ?_ | refine blk_alloc ?_ _)); refine blk_put (cs := #[.string (⟨#[]⟩ : ByteArray), .string (⟨#[]⟩ : ByteArray)]) ?_ 0 _ rfl; (with_reducible repeat (first | refine blk_drewN ?_ _ | refine blk_drew ?_ | refine blk_alloc ?_ _)); exact BK311.out) hb); replace HB := bs HB hb; (try clear hb)))
      go_ret
      exact ⟨rl, bl HB⟩
    ·rw [if_neg c4] at H
     have c4b0 := decide_eq_false c4
     clear c4
     obtain rfl := Option.some.inj H
     go_wp2
     go_ret
     exact ⟨rl, bl HB⟩
 ·rw [if_neg c3] at H
  have c3b0 := beq_eq_false_iff_ne.mpr c3
  have c3b1 := bne_iff_ne.mpr c3
  have c3b2 : (l1.length == l0.length) = false := by first | simpa using c3 | (simp at c3 ⊢; omega)
  obtain rfl := Option.some.inj H
  go_enter Tryz.func94, Tryz.ntmps94
  go_wp2
  go_ret
  exact ⟨rl, bl HB⟩
def size_CheckAll.l0 : Nat → List Int → List (List (S30)) → Int → Int → Option (Int)
 | 0, _, _, _, _ => none
 | k + 1, x0, x14, x15, x16 => if x16 < x15 then (if 0 ≤ x16 then (if x16 < (x14.length : Int) then ((size_check.f k x0 (rd_L6 x14 x16)).bind fun t316 => (if t316 = 0 then (size_CheckAll.l0 k x0 x14 x15 (wrap64 (x16 + 1))) else (some t316))) else (none)) else (none)) else (some 0)
def size_CheckAll.f (k : Nat) (l0 : List Int) (l1 : List (List (S30))) : Option (Int) := (prime_Check.f k l0).bind fun t314 => (if t314 = 0 then (size_CheckAll.l0 k l0 l1 (l1.length : Int) 0) else (some t314))
theorem size_CheckAll.calls (k : Nat) (A0 : Option Addr) (c0 : Nat) (l0 : List Int) (A1 : Option Addr) (c1 : Nat) (l1 : List (List (S30))) (r : Int) (w : World) (hG : Glob w) (hr0 : Kd.C (Kd.int .i64) w A0 l0.length l0) (hc0 : l0.length ≤ c0) (hr1 : Kd.C (Kd.slice 30 k30) w A1 l1.length l1) (hc1 : l1.length ≤ c1) (h : size_CheckAll.f k l0 l1 = some r) :
  Calls Tryz.prog 52 #[.slice A0 l0.length c0, .slice A1 l1.length c1] w fun e w' => e = .returned (.int .i64 r) ∧ Below w.heap.size w w' := by
 have HR0 := am hr0
 have HC0 := am hc0
 clear hr0 hc0
 have HR1 := am hr1
 have HC1 := am hc1
 clear hr1 hc1
 have HG0 := am hG
 clear hG
 have HB := am (Below.refl w.heap.size w)
 have H := h
 unfold size_CheckAll.f at H
 clear h
 obtain ⟨t314, A3, H⟩ := bo H
 try dsimp only at H
 by_cases c4 : t314 = 0
 ·rw [if_pos c4] at H
  have c4b0 := beq_iff_eq.mpr c4
  have c4b1 := bne_eq_false_iff_eq.mpr c4
  clear c4
  have H' := am H
  clear H
  go_enter Tryz.func52, Tryz.ntmps52
  go_wp2_with (first | ((with_reducible refine gc (f := 40) rfl ?_); refine goesM (some 10) Tryz.func40 #[.slice A0 l0.length c0] ?_; (with_reducible refine (prime_Check.calls k _ _ l0 t314 _ ?s1 ?s2 A3.out).mono ?_); (case s1 => exact cr HR0); (case s2 => exact HC0.out); rintro e w' ⟨rfl, ⟨nd, rfl⟩⟩; refine ⟨_, rfl, ?_⟩))
  go_loopg [16] k (fun kq v16 w' => ∃ (x16_1 : Int), v16 = .int .i64 x16_1 ∧ Aside0 (size_CheckAll.l0 kq l0 l1 (l1.length : Int) x16_1 = some r) ∧ Aside0 (kq ≤ k) ∧ Aside0 (Below w.heap.size w w'))
  case atStart => exact ⟨(0), rs, H', ⟨Nat.le_refl _⟩, ⟨bl HB⟩⟩
  case round =>
   clear H'
   try clear c1
   try clear p2
   try clear c4
   try clear c4b0
   try clear c4b1
   obtain ⟨x16_1, rfl, HA, HK1, HB⟩ := hrel
   cases gk with
   | zero => exact absurd HA.out (by simp [size_CheckAll.l0])
   | succ k1 =>
    have H := HA.out
    clear HA
    simp only [size_CheckAll.l0] at H
    by_cases c5 : x16_1 < (l1.length : Int)
    ·rw [if_pos c5] at H
     have c5b0 := decide_eq_true c5
     clear c5
     by_cases c6 : 0 ≤ x16_1
     case neg => rw [if_neg c6] at H; cases H
     rw [if_pos c6] at H
     have c6b0 := decide_eq_true c6
     clear c6
     by_cases c7 : x16_1 < (l1.length : Int)
     case neg => rw [if_neg c7] at H; cases H
     rw [if_pos c7] at H
     have c7b0 := decide_eq_true c7
     clear c7
     obtain ⟨t316, A8, H⟩ := bo H
     try dsimp only at H
     by_cases c9 : t316 = 0
     ·rw [if_pos c9] at H
      have c9b0 := beq_iff_eq.mpr c9
      have c9b1 := bne_eq_false_iff_eq.mpr c9
      clear c9
      have H' := am H
      clear H
      have p315 : 0 ≤ (x16_1 : Int) := of_decide_eq_true (by first | (with_reducible assumption) | assumption)
      have q315 : x16_1 < (l1.length : Int) := of_decide_eq_true (by first | (with_reducible assumption) | assumption)
      obtain ⟨ad315, A315_0, c315_0, e315, hx315_0, hl315_0, hi315_0⟩ := at_L6 HR1.out x16_1 p315 q315
      cases e315
      replace hx315_0 := (HB.out.cell (World.block_lt_of_cell? w _ hx315_0)).trans hx315_0
      have HR315_0 := am hi315_0
      have HC315_0 := am hl315_0
      clear hi315_0 hl315_0
      replace p315 := eq_true p315
      replace q315 := eq_true q315
      go_wp2_with (first | ((with_reducible refine gc (f := 94) rfl ?_); refine goesM (some 22) Tryz.func94 #[.slice A0 l0.length c0, .slice A315_0 (rd_L6 l1 x16_1).length c315_0] ?_; (with_reducible refine (size_check.calls k1 _ _ l0 _ _ (rd_L6 l1 x16_1) t316 _ ?s1 ?s2 ?s3 ?s4 ?s5 A8.out).mono ?_); (case s1 => exact gb HG0 HB); (case s2 => exact cb HR0 HB); (case s3 => exact HC0.out); (case s4 => exact cb HR315_0 HB); (case s5 => exact HC315_0.out); rintro e w10 ⟨rfl, hb⟩; refine ⟨_, rfl, ?_⟩; replace HB := bs HB hb; (try clear hb)))
      go_roundg k1
      case measure => have := HK1.out; omega
      case rel => exact ⟨(wrap64 (x16_1 + 1)), rs, H', ⟨by have := HK1.out; omega⟩, ⟨bl HB⟩⟩
     ·rw [if_neg c9] at H
      have c9b0 := beq_eq_false_iff_ne.mpr c9
      have c9b1 := bne_iff_ne.mpr c9
      obtain rfl := Option.some.inj H
      have p315 : 0 ≤ (x16_1 : Int) := of_decide_eq_true (by first | (with_reducible assumption) | assumption)
      have q315 : x16_1 < (l1.length : Int) := of_decide_eq_true (by first | (with_reducible assumption) | assumption)
      obtain ⟨ad315, A315_0, c315_0, e315, hx315_0, hl315_0, hi315_0⟩ := at_L6 HR1.out x16_1 p315 q315
      cases e315
      replace hx315_0 := (HB.out.cell (World.block_lt_of_cell? w _ hx315_0)).trans hx315_0
      have HR315_0 := am hi315_0
      have HC315_0 := am hl315_0
      clear hi315_0 hl315_0
      replace p315 := eq_true p315
      replace q315 := eq_true q315
      go_wp2_with (first | ((with_reducible refine gc (f := 94) rfl ?_); refine goesM (some 22) Tryz.func94 #[.slice A0 l0.length c0, .slice A315_0 (rd_L6 l1 x16_1).length c315_0] ?_; (with_reducible refine (size_check.calls k1 _ _ l0 _ _ (rd_L6 l1 x16_1) t316 _ ?s1 ?s2 ?s3 ?s4 ?s5 A8.out).mono ?_); (case s1 => exact gb HG0 HB); (case s2 => exact cb HR0 HB); (case s3 => exact HC0.out); (case s4 => exact cb HR315_0 HB); (case s5 => exact HC315_0.out); rintro e w11 ⟨rfl, hb⟩; refine ⟨_, rfl, ?_⟩; replace HB := bs HB hb; (try clear hb)))
      go_ret
      exact ⟨rl, bl HB⟩
    ·rw [if_neg c5] at H
     have c5b0 := decide_eq_false c5
     clear c5
     obtain rfl := Option.some.inj H
     go_wp2
     go_ret
     exact ⟨rl, bl HB⟩
 ·rw [if_neg c4] at H
  have c4b0 := beq_eq_false_iff_ne.mpr c4
  have c4b1 := bne_iff_ne.mpr c4
  obtain rfl := Option.some.inj H
  go_enter Tryz.func52, Tryz.ntmps52
  go_wp2_with (first | ((with_reducible refine gc (f := 40) rfl ?_); refine goesM (some 10) Tryz.func40 #[.slice A0 l0.length c0] ?_; (with_reducible refine (prime_Check.calls k _ _ l0 t314 _ ?s1 ?s2 A3.out).mono ?_); (case s1 => exact cr HR0); (case s2 => exact HC0.out); rintro e w' ⟨rfl, ⟨nd, rfl⟩⟩; refine ⟨_, rfl, ?_⟩))
  go_ret
  exact ⟨rl, bl HB⟩
end Go.Proofs.YtailoobjgbldgaaGreatDoor.P
end
section
namespace Go.Proofs.YtailoobjgbldgaaGreatDoor.Pure
open Go Go.Lib Go.RowKit Go.Proofs.YtailoobjgbldgaaGreatDoor.P Go.Proofs.YtailoobjgbldgaaGreatDoorW.PrintWords Go.Proofs.YtailoobjgbldgaaGreatDoorW.PrintLast Go.Proofs.YtailoobjgbldgaaGreatDoorW.PrintMore
theorem toList_txt (z : Int) : (txt z).toList = itoa z := by rw [Lib.toList_data]; rfl
theorem split_txt (z : Int) : whole_split.f (txt z) = some (decide (z < 0), txtN z.natAbs) := by
  have hpos : 0 < (txt z).size := by
    rcases Int.lt_or_le z 0 with h | h
    · rw [txt_size_neg h]; omega
    · rw [txt_size_pos h]; exact nDigits_pos _
  unfold whole_split.f
  rw [if_pos (by omega), if_pos (by omega)]
  rcases Int.lt_or_le z 0 with h | h
  · have hb : bt (txt z) 0 = 45 := by
      unfold bt
      rw [dif_pos (by simpa using hpos)]
      have : (txt z).data.toList = 45 :: decDigits z.natAbs := by rw [txt_data, itoa_of_neg h]
      have h2 : (txt z).data.toList[0]'(by rw [this]; simp) = 45 := by simp [this]
      have h3 : (txt z)[0]'hpos = 45 := by show (txt z).data[0]'hpos = 45; simpa using h2
      simp [h3]
    rw [if_pos hb, if_pos (by omega), decide_eq_true h]
    congr 2
    apply bytes_ext
    rw [ByteArray.data_extract, txtN_data]
    have : (txt z).data.toList = 45 :: decDigits z.natAbs := by rw [txt_data, itoa_of_neg h]
    have hs : (txt z).size = (decDigits z.natAbs).length + 1 := by
      have e := Lib.size_eq (txt z)
      rw [this] at e
      simp at e
      omega
    simp [this, hs]
  · have hb : bt (txt z) 0 ≠ 45 := by
      unfold bt
      rw [dif_pos (by simpa using hpos)]
      obtain ⟨c, l, e, h1, h2⟩ := dec_head_digit z.toNat
      have : (txt z).data.toList = c :: l := by rw [txt_data, itoa_of_nonneg h, e]
      have h2 : (txt z).data.toList[0]'(by rw [this]; simp) = c := by simp [this]
      have h3 : (txt z)[0]'hpos = c := by show (txt z).data[0]'hpos = c; simpa using h2
      simp only [Int.toNat_zero, h3]
      omega
    rw [if_neg hb, decide_eq_false (by omega)]
    congr 2
    rw [← txt_nonneg]
    congr 1
    omega
theorem abs_txt (z : Int) : whole_Abs.f (txt z) = some (txtN z.natAbs) := by
  unfold whole_Abs.f
  rw [split_txt]
  rfl
def Ev {α : Type} (n : Nat) (g : Nat → Option α) (v : α) : Prop := ∀ k, n ≤ k → g k = some v
theorem Ev.of_mono {α : Type} {g : Nat → Option α} {v : α} (hm : ∀ k, LeO (g k) (g (k + 1))) {k0 : Nat} (h : g k0 = some v) : Ev k0 g v :=
  fun k hk => by
    obtain ⟨d, rfl⟩ : ∃ d, k = k0 + d := ⟨k - k0, by omega⟩
    clear hk
    induction d with
    | zero => exact h
    | succ d ih => exact hm _ _ ih
theorem Ev.le {α : Type} {n m : Nat} {g : Nat → Option α} {v : α} (h : Ev n g v) (hn : n ≤ m) : Ev m g v := fun k hk => h k (by omega)
theorem Ev.step {α : Type} {n : Nat} {g h : Nat → Option α} {v : α} (hg : Ev n g v) (he : ∀ k, n ≤ k → h (k + 1) = g k) : Ev (n + 1) h v := fun k hk => by
  obtain ⟨j, rfl⟩ : ∃ j, k = j + 1 := ⟨k - 1, by omega⟩
  rw [he j (by omega), hg j (by omega)]
theorem Ev.bind {α β : Type} {n : Nat} {g : Nat → Option α} {h : Nat → α → Option β} {v : α} {u : β} (hg : Ev n g v) (hh : Ev n (fun k => h k v) u) : Ev n (fun k => (g k).bind (h k)) u := fun k hk => by
  show (g k).bind (h k) = some u
  rw [hg k hk]
  exact hh k hk
theorem Ev.const {α : Type} (n : Nat) (v : α) : Ev n (fun _ => some v) v := fun _ _ => rfl
theorem Ev.congr {α : Type} {n : Nat} {g h : Nat → Option α} {v : α} (hg : Ev n g v) (e : ∀ k, h k = g k) : Ev n h v := fun k hk => by rw [e, hg k hk]
theorem wrap_small {j : Nat} (h : j ≤ 1000000) : wrap64 ((j : Int) + 1) = ((j + 1 : Nat) : Int) := by simp [wrap64] <;> omega
theorem wrap_pred {j : Nat} (h : j ≤ 1000000) (hp : 0 < j) : wrap64 ((j : Int) - 1) = ((j - 1 : Nat) : Int) := by simp [wrap64] <;> omega
theorem isPrime_total (n : Int) : ∃ b, Ev 40 (fun k => prime_IsPrime.f k n) b := by
  by_cases h1 : n < 2
  · exact ⟨false, fun k hk => by obtain ⟨j, rfl⟩ : ∃ j, k = j + 1 := ⟨k - 1, by omega⟩; simp [prime_IsPrime.f, prime_IsPrime.j0, h1]⟩
  by_cases h2 : n > 97
  · exact ⟨false, fun k hk => by obtain ⟨j, rfl⟩ : ∃ j, k = j + 1 := ⟨k - 1, by omega⟩; simp [prime_IsPrime.f, prime_IsPrime.j0, h1, h2]⟩
  have hall : ∀ m ∈ List.range 98, (prime_IsPrime.f 40 (m : Int)).isSome = true := by decide +kernel
  have := hall n.toNat (List.mem_range.2 (by omega))
  rw [show ((n.toNat : Nat) : Int) = n by omega] at this
  obtain ⟨b, hb⟩ := Option.isSome_iff_exists.1 this
  exact ⟨b, Ev.of_mono (fun k => prime_IsPrime.mono n k) hb⟩
theorem checkLoop_total (l : List Int) (hl : l.length ≤ 1000) : ∀ (d j : Nat), j + d = l.length → ∃ e, Ev (41 + d) (fun k => prime_Check.l0 k l l (l.length : Int) (j : Int)) e := by
  intro d
  induction d with
  | zero =>
    intro j hj
    refine ⟨0, fun k hk => ?_⟩
    obtain ⟨i, rfl⟩ : ∃ i, k = i + 1 := ⟨k - 1, by omega⟩
    dsimp only
    rw [prime_Check.l0, if_neg (by omega)]
  | succ d ih =>
    intro j hj
    obtain ⟨b, hb⟩ := isPrime_total (rd l (j : Int))
    obtain ⟨e, he⟩ := ih (j + 1) (by omega)
    rw [← wrap_small (by omega)] at he
    cases b with
    | false =>
      dsimp only [Ev] at hb
      refine ⟨25, fun k hk => ?_⟩
      obtain ⟨i, rfl⟩ : ∃ i, k = i + 1 := ⟨k - 1, by omega⟩
      dsimp only
      rw [prime_Check.l0, if_pos (by omega), if_pos (by omega), if_pos (by omega), hb i (by omega)]
      rfl
    | true =>
      dsimp only [Ev] at hb
      by_cases h0 : (j : Int) > 0
      · by_cases hle : rd l (j : Int) ≤ rd l (wrap64 ((j : Int) - 1))
        · refine ⟨6, fun k hk => ?_⟩
          obtain ⟨i, rfl⟩ : ∃ i, k = i + 1 := ⟨k - 1, by omega⟩
          dsimp only
          rw [prime_Check.l0, if_pos (by omega), if_pos (by omega), if_pos (by omega), hb i (by omega)]
          simp only [Option.bind_some, if_true]
          have hw := wrap_pred (j := j) (by omega) (by omega)
          rw [if_pos h0, if_pos (by rw [hw]; omega), if_pos (by rw [hw]; omega), if_pos hle]
        · refine ⟨e, he.step (fun i hi => ?_)⟩
          rw [prime_Check.l0, if_pos (by omega), if_pos (by omega), if_pos (by omega), hb i (by omega)]
          simp only [Option.bind_some, if_true]
          have hw := wrap_pred (j := j) (by omega) (by omega)
          rw [if_pos h0, if_pos (by rw [hw]; omega), if_pos (by rw [hw]; omega), if_neg hle]
      · refine ⟨e, he.step (fun i hi => ?_)⟩
        rw [prime_Check.l0, if_pos (by omega), if_pos (by omega), if_pos (by omega), hb i (by omega)]
        simp only [Option.bind_some, if_true]
        rw [if_neg h0]
theorem check_total (l : List Int) : ∃ e, Ev 50 (fun k => prime_Check.f k l) e ∧ (e = 0 → 0 < l.length ∧ l.length ≤ 6) := by
  by_cases h0 : (l.length : Int) = 0
  · exact ⟨13, (Ev.const 50 13).congr (fun k => by unfold prime_Check.f; rw [if_pos h0]), fun h => by cases h⟩
  by_cases h6 : (l.length : Int) > 6
  · exact ⟨4, (Ev.const 50 4).congr (fun k => by unfold prime_Check.f; rw [if_neg h0, if_pos h6]), fun h => by cases h⟩
  obtain ⟨e, he⟩ := checkLoop_total l (by omega) l.length 0 (by omega)
  exact ⟨e, (he.le (by omega)).congr (fun k => by unfold prime_Check.f; rw [if_neg h0, if_neg h6]; rfl), fun _ => by omega⟩
end Go.Proofs.YtailoobjgbldgaaGreatDoor.Pure
end
section
namespace Go.Proofs.YtailoobjgbldgaaGreatDoor.P
open Go.RowKit Go.Proofs.YtailoobjgbldgaaGreatDoorW.PrintWords Go.Proofs.YtailoobjgbldgaaGreatDoorW.PrintLast Go.Proofs.YtailoobjgbldgaaGreatDoorW.PrintMore
attribute [local go_sem] max2_int min2_int max_two min_two max_three min_three max_four min_four   
set_option linter.unusedVariables false
set_option linter.unusedSimpArgs false
theorem eqA30 (d : Nat) (w : World) (x0 y0 : ByteArray) (x1 y1 : ByteArray) :
  (Op.equalIn (d + 2) 30 (.agg #[.string x0, .string x1]) (.agg #[.string y0, .string y1])).run Tryz.prog w = .ok (x0.toList == y0.toList && (x1.toList == y1.toList)) w := by
 refine eqA_of Tryz.underlying30 (by kernel_rfl) ?_
 refine eqf_cons (by rfl) (by go_simp; rfl) (by go_simp; rfl) (by go_simp) ?_
 exact eqf_last (by rfl) (by go_simp; rfl) (by go_simp; rfl) (by go_simp)
end Go.Proofs.YtailoobjgbldgaaGreatDoor.P
end
section
namespace Go.Proofs.YtailoobjgbldgaaGreatDoor.P
open Go.RowKit Go.Proofs.YtailoobjgbldgaaGreatDoorW.PrintWords Go.Proofs.YtailoobjgbldgaaGreatDoorW.PrintLast Go.Proofs.YtailoobjgbldgaaGreatDoorW.PrintMore
attribute [local go_sem] max2_int min2_int max_two min_two max_three min_three max_four min_four   
set_option linter.unusedVariables false
set_option linter.unusedSimpArgs false
attribute [local go_sem high] eqA30
set_option maxHeartbeats 8000000
set_option maxRecDepth 100000
mutual
def schismalaw13_few.j0 : Nat → List (S30) → Bool → Option (Bool)
 | 0, _, _ => none
 | k + 1, x1, x13 => if x13 = true then (some false) else (schismalaw13_few.l0 k x1 0)
def schismalaw13_few.l0 : Nat → List (S30) → Int → Option (Bool)
 | 0, _, _ => none
 | k + 1, x1, x5 => if x5 < (x1.length : Int) then (if 0 ≤ x5 then (if (((rd_T30 x1 x5).f0).size : Int) > 45 then (some false) else (if (((rd_T30 x1 x5).f1).size : Int) > 45 then (some false) else (schismalaw13_few.l0 k x1 (wrap64 (x5 + 1))))) else (none)) else (some true)
end
def schismalaw13_few.f (k : Nat) (l0 : List Int) (l1 : List (S30)) : Option (Bool) := if (l0.length : Int) > 8 then (schismalaw13_few.j0 k l1 true) else (schismalaw13_few.j0 k l1 (decide ((l1.length : Int) > 8)))
theorem schismalaw13_few.calls (k : Nat) (A0 : Option Addr) (c0 : Nat) (l0 : List Int) (A1 : Option Addr) (c1 : Nat) (l1 : List (S30)) (r : Bool) (w : World) (hr0 : Kd.C (Kd.int .i64) w A0 l0.length l0) (hc0 : l0.length ≤ c0) (hr1 : Kd.C k30 w A1 l1.length l1) (hc1 : l1.length ≤ c1) (h : schismalaw13_few.f k l0 l1 = some r) :
  Calls Tryz.prog 49 #[.slice A0 l0.length c0, .slice A1 l1.length c1] w fun e w' => e = .returned (.bool r) ∧ Drawn0 w w' := by
 have HR0 := am hr0
 have HC0 := am hc0
 clear hr0 hc0
 have HR1 := am hr1
 have HC1 := am hc1
 clear hr1 hc1
 have H := h
 unfold schismalaw13_few.f at H
 clear h
 have HC3 := am H
 clear H
 go_enter Tryz.func49, Tryz.ntmps49
 go_upto_region 1 with (fail)
 go_cut [13] (fun v13 wc => ∃ (kq : Nat) (x13_2 : Bool), v13 = .bool x13_2 ∧ Aside0 (schismalaw13_few.j0 kq l1 x13_2 = some r) ∧ Aside0 (kq ≤ k) ∧ Drawn0 w wc)
 case first =>
  have H := HC3.out
  clear HC3
  by_cases c4 : (l0.length : Int) > 8
  ·rw [if_pos c4] at H
   have c4b0 : decide (8 < (l0.length : Int)) = true := decide_eq_true c4
   have c4b1 : decide (8 < l0.length) = true := decide_eq_true (by omega)
   clear c4
   (first | rw [c4b0] | (simp only [i64_w, i32_w]; rw [c4b0]) | skip)
   have H' := am H
   clear H
   go_wp2
   go_meet
   case rel => exact ⟨_, (true), rs, H', ⟨by first | omega | exact Nat.le_refl _⟩, by repeat (first | exact Drawn0.refl _ | apply Drawn0.step)⟩
  ·rw [if_neg c4] at H
   have c4b0 : decide (8 < (l0.length : Int)) = false := decide_eq_false c4
   have c4b1 : decide (8 < l0.length) = false := decide_eq_false (by omega)
   clear c4
   (first | rw [c4b0] | (simp only [i64_w, i32_w]; rw [c4b0]) | skip)
   have H' := am H
   clear H
   go_wp2
   go_meet
   case rel => exact ⟨_, (decide ((l1.length : Int) > 8)), rs, H', ⟨by first | omega | exact Nat.le_refl _⟩, by repeat (first | exact Drawn0.refl _ | apply Drawn0.step)⟩
 case rest =>
  clear HC3
  try clear c1
  try clear p2
  try clear c4
  try clear c4b0
  try clear c4b1
  obtain ⟨kq, x13_2, rfl, HA, HJ2, ⟨mc2, rfl⟩⟩ := hcut
  cases kq with
  | zero => exact absurd HA.out (by simp [schismalaw13_few.j0])
  | succ kj2 =>
   have H := HA.out
   clear HA
   simp only [schismalaw13_few.j0] at H
   by_cases c5 : x13_2 = true
   ·subst c5
    rw [if_pos rfl] at H
    obtain rfl := Option.some.inj H
    go_wp2
    go_ret
    exact ⟨by first | rfl | (simp; done) | (simp [*]; done), by repeat (first | exact Drawn0.refl _ | apply Drawn0.step)⟩
   ·replace c5 := Bool.eq_false_iff.mpr c5
    subst c5
    rw [if_neg (show ¬ (false = true) by decide)] at H
    have H' := am H
    clear H
    go_wp2
    go_loopg [5] kj2 (fun kq v5 w' => ∃ (x5_2 : Int), v5 = .int .i64 x5_2 ∧ Aside0 (schismalaw13_few.l0 kq l1 x5_2 = some r) ∧ Aside0 (kq ≤ kj2) ∧ Drawn0 w w')
    case atStart => exact ⟨(0), rs, H', ⟨Nat.le_refl _⟩, by repeat (first | exact Drawn0.refl _ | apply Drawn0.step)⟩
    case round =>
     clear H'
     try clear c1
     try clear c2
     try clear p2
     try clear c4
     try clear c4b0
     try clear c4b1
     try clear c5
     try clear p2
     obtain ⟨x5_2, rfl, HA, HK2, ⟨m2, rfl⟩⟩ := hrel
     cases gk with
     | zero => exact absurd HA.out (by simp [schismalaw13_few.l0])
     | succ k2 =>
      have H := HA.out
      clear HA
      simp only [schismalaw13_few.l0] at H
      by_cases c6 : x5_2 < (l1.length : Int)
      ·rw [if_pos c6] at H
       have c6b0 := decide_eq_true c6
       clear c6
       by_cases c7 : 0 ≤ x5_2
       case neg => rw [if_neg c7] at H; cases H
       rw [if_pos c7] at H
       have c7b0 := decide_eq_true c7
       clear c7
       by_cases c8 : (((rd_T30 l1 x5_2).f0).size : Int) > 45
       ·rw [if_pos c8] at H
        have c8b0 : decide (45 < (((rd_T30 l1 x5_2).f0).size : Int)) = true := decide_eq_true c8
        have c8b1 : decide (45 < ((rd_T30 l1 x5_2).f0).size) = true := decide_eq_true (by omega)
        clear c8
        obtain rfl := Option.some.inj H
        have p704 : 0 ≤ (x5_2 : Int) := of_decide_eq_true (by first | (with_reducible assumption) | assumption)
        have q704 : x5_2 < (l1.length : Int) := of_decide_eq_true (by first | (with_reducible assumption) | assumption)
        obtain ⟨ad704, e704, hx704_0, hx704_1⟩ := at_T30 HR1.out x5_2 p704 q704
        cases e704
        replace p704 := eq_true p704
        replace q704 := eq_true q704
        go_wp2
        go_ret
        exact ⟨by first | rfl | (simp; done) | (simp [*]; done), by repeat (first | exact Drawn0.refl _ | apply Drawn0.step)⟩
       ·rw [if_neg c8] at H
        have c8b0 : decide (45 < (((rd_T30 l1 x5_2).f0).size : Int)) = false := decide_eq_false c8
        have c8b1 : decide (45 < ((rd_T30 l1 x5_2).f0).size) = false := decide_eq_false (by omega)
        clear c8
        by_cases c9 : (((rd_T30 l1 x5_2).f1).size : Int) > 45
        ·rw [if_pos c9] at H
         have c9b0 : decide (45 < (((rd_T30 l1 x5_2).f1).size : Int)) = true := decide_eq_true c9
         have c9b1 : decide (45 < ((rd_T30 l1 x5_2).f1).size) = true := decide_eq_true (by omega)
         clear c9
         obtain rfl := Option.some.inj H
         have p704 : 0 ≤ (x5_2 : Int) := of_decide_eq_true (by first | (with_reducible assumption) | assumption)
         have q704 : x5_2 < (l1.length : Int) := of_decide_eq_true (by first | (with_reducible assumption) | assumption)
         obtain ⟨ad704, e704, hx704_0, hx704_1⟩ := at_T30 HR1.out x5_2 p704 q704
         cases e704
         replace p704 := eq_true p704
         replace q704 := eq_true q704
         have p705 : 0 ≤ (x5_2 : Int) := of_decide_eq_true (by first | (with_reducible assumption) | assumption)
         have q705 : x5_2 < (l1.length : Int) := of_decide_eq_true (by first | (with_reducible assumption) | assumption)
         obtain ⟨ad705, e705, hx705_0, hx705_1⟩ := at_T30 HR1.out x5_2 p705 q705
         obtain rfl : ad704 = ad705 := (by injection e705)
         replace p705 := eq_true p705
         replace q705 := eq_true q705
         go_wp2
         go_ret
         exact ⟨by first | rfl | (simp; done) | (simp [*]; done), by repeat (first | exact Drawn0.refl _ | apply Drawn0.step)⟩
        ·rw [if_neg c9] at H
         have c9b0 : decide (45 < (((rd_T30 l1 x5_2).f1).size : Int)) = false := decide_eq_false c9
         have c9b1 : decide (45 < ((rd_T30 l1 x5_2).f1).size) = false := decide_eq_false (by omega)
         clear c9
         have H' := am H
         clear H
         have p704 : 0 ≤ (x5_2 : Int) := of_decide_eq_true (by first | (with_reducible assumption) | assumption)
         have q704 : x5_2 < (l1.length : Int) := of_decide_eq_true (by first | (with_reducible assumption) | assumption)
         obtain ⟨ad704, e704, hx704_0, hx704_1⟩ := at_T30 HR1.out x5_2 p704 q704
         cases e704
         replace p704 := eq_true p704
         replace q704 := eq_true q704
         have p705 : 0 ≤ (x5_2 : Int) := of_decide_eq_true (by first | (with_reducible assumption) | assumption)
         have q705 : x5_2 < (l1.length : Int) := of_decide_eq_true (by first | (with_reducible assumption) | assumption)
         obtain ⟨ad705, e705, hx705_0, hx705_1⟩ := at_T30 HR1.out x5_2 p705 q705
         obtain rfl : ad704 = ad705 := (by injection e705)
         replace p705 := eq_true p705
         replace q705 := eq_true q705
         go_wp2
         go_roundg k2
         case measure => have := HJ2.out; have := HK2.out; omega
         case rel => exact ⟨(wrap64 (x5_2 + 1)), rs, H', ⟨by have := HJ2.out; have := HK2.out; omega⟩, by repeat (first | exact Drawn0.refl _ | apply Drawn0.step)⟩
      ·rw [if_neg c6] at H
       have c6b0 := decide_eq_false c6
       clear c6
       obtain rfl := Option.some.inj H
       go_wp2
       go_ret
       exact ⟨by first | rfl | (simp; done) | (simp [*]; done), by repeat (first | exact Drawn0.refl _ | apply Drawn0.step)⟩
def decimal_Digits.f (a0 : ByteArray) : Option (Int) := some (a0.size : Int)
theorem decimal_Digits.calls (a0 : ByteArray) (r : Int) (w : World) (h : decimal_Digits.f a0 = some r) :
  Calls Tryz.prog 62 #[.string a0] w fun e w' => e = .returned (.int .i64 r) ∧ Drawn0 w w' := by
 have H := h
 unfold decimal_Digits.f at H
 clear h
 obtain rfl := Option.some.inj H
 go_enter Tryz.func62, Tryz.ntmps62
 go_wp2
 go_ret
 exact ⟨by first | rfl | (simp; done) | (simp [*]; done), by repeat (first | exact Drawn0.refl _ | apply Drawn0.step)⟩
def schismalaw13_short.f (a0_0 : ByteArray) (a0_1 : ByteArray) : Option (Bool) := (whole_Abs.f a0_0).bind fun t707 => ((decimal_Digits.f t707).bind fun t708 => (if t708 ≤ 30 then ((decimal_Digits.f a0_1).bind fun t709 => (some (decide (t709 ≤ 30)))) else (some false)))
theorem schismalaw13_short.calls (a0_0 : ByteArray) (a0_1 : ByteArray) (r : Bool) (w : World) (h : schismalaw13_short.f a0_0 a0_1 = some r) :
  Calls Tryz.prog 19 #[.agg #[.string a0_0, .string a0_1]] w fun e w' => e = .returned (.bool r) ∧ Below w.heap.size w w' := by
 have hu30 := Tryz.underlying30
 have HB := am (Below.refl w.heap.size w)
 have H := h
 unfold schismalaw13_short.f at H
 clear h
 obtain ⟨t707, A2, H⟩ := bo H
 try dsimp only at H
 obtain ⟨t708, A3, H⟩ := bo H
 try dsimp only at H
 by_cases c4 : t708 ≤ 30
 ·rw [if_pos c4] at H
  have c4b0 := decide_eq_true c4
  clear c4
  obtain ⟨t709, A5, H⟩ := bo H
  try dsimp only at H
  obtain rfl := Option.some.inj H
  go_enter Tryz.func19, Tryz.ntmps19
  go_wp2_with (first | ((with_reducible refine gd (N := 1) rfl ?_); refine boxM (N := 1) #[.string a0_0, .string a0_1] 30 ?_; intro gb706 hg w6 hbox hb; have BK706 := am (hbox); have GW706 := gw hg HB; have GE706 := GW706; replace HB := bs HB hb; clear hb hbox hg; have hcz7_0 := bc BK706 0 (.string a0_0); have hcz7_1 := bc BK706 1 (.string a0_1); have hfz7_0 := blk_frozen BK706.out 0; have hfz7_1 := blk_frozen BK706.out 1) | ((with_reducible refine gc (f := 63) rfl ?_); refine goesM (some 5) Tryz.func63 #[.string a0_0] ?_; (with_reducible refine (whole_Abs.calls a0_0 t707 _ A2.out).mono ?_); rintro e w' ⟨rfl, ⟨nd, rfl⟩⟩; refine ⟨_, rfl, ?_⟩) | ((with_reducible refine gc (f := 62) rfl ?_); refine goesM (some 6) Tryz.func62 #[.string t707] ?_; (with_reducible refine (decimal_Digits.calls t707 t708 _ A3.out).mono ?_); rintro e w' ⟨rfl, ⟨nd, rfl⟩⟩; refine ⟨_, rfl, ?_⟩) | (go_at_call 62; (with_reducible refine (decimal_Digits.calls a0_1 t709 _ A5.out).mono ?_); rintro e w' ⟨rfl, ⟨nd, rfl⟩⟩))
  go_ret
  exact ⟨rl, bl HB⟩
 ·rw [if_neg c4] at H
  have c4b0 := decide_eq_false c4
  clear c4
  obtain rfl := Option.some.inj H
  go_enter Tryz.func19, Tryz.ntmps19
  go_wp2_with (first | ((with_reducible refine gd (N := 1) rfl ?_); refine boxM (N := 1) #[.string a0_0, .string a0_1] 30 ?_; intro gb706 hg w8 hbox hb; have BK706 := am (hbox); have GW706 := gw hg HB; have GE706 := GW706; replace HB := bs HB hb; clear hb hbox hg; have hcz9_0 := bc BK706 0 (.string a0_0); have hcz9_1 := bc BK706 1 (.string a0_1); have hfz9_0 := blk_frozen BK706.out 0; have hfz9_1 := blk_frozen BK706.out 1) | ((with_reducible refine gc (f := 63) rfl ?_); refine goesM (some 5) Tryz.func63 #[.string a0_0] ?_; (with_reducible refine (whole_Abs.calls a0_0 t707 _ A2.out).mono ?_); rintro e w' ⟨rfl, ⟨nd, rfl⟩⟩; refine ⟨_, rfl, ?_⟩) | ((with_reducible refine gc (f := 62) rfl ?_); refine goesM (some 6) Tryz.func62 #[.string t707] ?_; (with_reducible refine (decimal_Digits.calls t707 t708 _ A3.out).mono ?_); rintro e w' ⟨rfl, ⟨nd, rfl⟩⟩; refine ⟨_, rfl, ?_⟩))
  go_ret
  exact ⟨rl, bl HB⟩
def schismalaw13_check.l0 : Nat → List (S30) → Int → Option (Int)
 | 0, _, _ => none
 | k + 1, x1, x6 => if x6 < (x1.length : Int) then (if 0 ≤ x6 then ((fraction_Check.f k ((rd_T30 x1 x6).f0) ((rd_T30 x1 x6).f1)).bind fun t712 => (if t712 = 0 then ((schismalaw13_short.f ((rd_T30 x1 x6).f0) ((rd_T30 x1 x6).f1)).bind fun t714 => (if t714 = true then (schismalaw13_check.l0 k x1 (wrap64 (x6 + 1))) else (some 4))) else (some 2))) else (none)) else (some 0)
def schismalaw13_check.f (k : Nat) (l0 : List Int) (l1 : List (S30)) : Option (Int) := (prime_Check.f k l0).bind fun t710 => (if t710 = 0 then (if (l1.length : Int) = (l0.length : Int) then (schismalaw13_check.l0 k l1 0) else (some 5)) else (some t710))
theorem schismalaw13_check.calls (k : Nat) (A0 : Option Addr) (c0 : Nat) (l0 : List Int) (A1 : Option Addr) (c1 : Nat) (l1 : List (S30)) (r : Int) (w : World) (hG : Glob w) (hr0 : Kd.C (Kd.int .i64) w A0 l0.length l0) (hc0 : l0.length ≤ c0) (hr1 : Kd.C k30 w A1 l1.length l1) (hc1 : l1.length ≤ c1) (h : schismalaw13_check.f k l0 l1 = some r) :
  Calls Tryz.prog 50 #[.slice A0 l0.length c0, .slice A1 l1.length c1] w fun e w' => e = .returned (.int .i64 r) ∧ Below w.heap.size w w' := by
 have hu30 := Tryz.underlying30
 have HR0 := am hr0
 have HC0 := am hc0
 clear hr0 hc0
 have HR1 := am hr1
 have HC1 := am hc1
 clear hr1 hc1
 have HG0 := am hG
 clear hG
 have HB := am (Below.refl w.heap.size w)
 have H := h
 unfold schismalaw13_check.f at H
 clear h
 obtain ⟨t710, A3, H⟩ := bo H
 try dsimp only at H
 by_cases c4 : t710 = 0
 ·rw [if_pos c4] at H
  have c4b0 := beq_iff_eq.mpr c4
  have c4b1 := bne_eq_false_iff_eq.mpr c4
  clear c4
  by_cases c5 : (l1.length : Int) = (l0.length : Int)
  ·rw [if_pos c5] at H
   have c5b0 := beq_iff_eq.mpr c5
   have c5b1 := bne_eq_false_iff_eq.mpr c5
   have c5b2 : (l1.length == l0.length) = true := by first | simpa using c5 | (simp at c5 ⊢; omega)
   clear c5
   have H' := am H
   clear H
   go_enter Tryz.func50, Tryz.ntmps50
   go_wp2_with (first | ((with_reducible refine gc (f := 40) rfl ?_); refine goesM (some 9) Tryz.func40 #[.slice A0 l0.length c0] ?_; (with_reducible refine (prime_Check.calls k _ _ l0 t710 _ ?s1 ?s2 A3.out).mono ?_); (case s1 => exact cr HR0); (case s2 => exact HC0.out); rintro e w' ⟨rfl, ⟨nd, rfl⟩⟩; refine ⟨_, rfl, ?_⟩))
   go_loopg [6] k (fun kq v6 w' => ∃ (x6_1 : Int), v6 = .int .i64 x6_1 ∧ Aside0 (schismalaw13_check.l0 kq l1 x6_1 = some r) ∧ Aside0 (kq ≤ k) ∧ Aside0 (Below w.heap.size w w'))
   case atStart => exact ⟨(0), rs, H', ⟨Nat.le_refl _⟩, ⟨bl HB⟩⟩
   case round =>
    clear H'
    try clear c1
    try clear p2
    try clear c4
    try clear c4b0
    try clear c4b1
    try clear c5
    try clear c5b0
    try clear c5b1
    try clear c5b2
    obtain ⟨x6_1, rfl, HA, HK1, HB⟩ := hrel
    cases gk with
    | zero => exact absurd HA.out (by simp [schismalaw13_check.l0])
    | succ k1 =>
     have H := HA.out
     clear HA
     simp only [schismalaw13_check.l0] at H
     by_cases c6 : x6_1 < (l1.length : Int)
     ·rw [if_pos c6] at H
      have c6b0 := decide_eq_true c6
      clear c6
      by_cases c7 : 0 ≤ x6_1
      case neg => rw [if_neg c7] at H; cases H
      rw [if_pos c7] at H
      have c7b0 := decide_eq_true c7
      clear c7
      obtain ⟨t712, A8, H⟩ := bo H
      try dsimp only at H
      by_cases c9 : t712 = 0
      ·rw [if_pos c9] at H
       have c9b0 := beq_iff_eq.mpr c9
       have c9b1 := bne_eq_false_iff_eq.mpr c9
       clear c9
       obtain ⟨t714, A10, H⟩ := bo H
       try dsimp only at H
       by_cases c11 : t714 = true
       ·subst c11
        rw [if_pos rfl] at H
        have H' := am H
        clear H
        have p711 : 0 ≤ (x6_1 : Int) := of_decide_eq_true (by first | (with_reducible assumption) | assumption)
        have q711 : x6_1 < (l1.length : Int) := of_decide_eq_true (by first | (with_reducible assumption) | assumption)
        obtain ⟨ad711, e711, hx711_0, hx711_1⟩ := at_T30 HR1.out x6_1 p711 q711
        cases e711
        replace hx711_0 := (HB.out.cell (World.block_lt_of_cell? w _ hx711_0)).trans hx711_0
        replace hx711_1 := (HB.out.cell (World.block_lt_of_cell? w _ hx711_1)).trans hx711_1
        replace p711 := eq_true p711
        replace q711 := eq_true q711
        go_wp2_with (first | ((with_reducible refine gc (f := 14) rfl ?_); refine goesM (some 28) Tryz.func14 #[.agg #[.string ((rd_T30 l1 x6_1).f0), .string ((rd_T30 l1 x6_1).f1)]] ?_; (with_reducible refine (fraction_Check.calls k1 ((rd_T30 l1 x6_1).f0) ((rd_T30 l1 x6_1).f1) t712 _ ?s1 A8.out).mono ?_); (case s1 => exact gb HG0 HB); rintro e w12 ⟨rfl, hb⟩; refine ⟨_, rfl, ?_⟩; replace HB := bs HB hb; (try clear hb); have p713 : 0 ≤ (x6_1 : Int) := of_decide_eq_true (by first | (with_reducible assumption) | assumption); have q713 : x6_1 < (l1.length : Int) := of_decide_eq_true (by first | (with_reducible assumption) | assumption); obtain ⟨ad713, e713, hx713_0, hx713_1⟩ := at_T30 HR1.out x6_1 p713 q713; obtain rfl : ad711 = ad713 := (by injection e713); replace hx713_0 := (HB.out.cell (World.block_lt_of_cell? w _ hx713_0)).trans hx713_0; replace hx713_1 := (HB.out.cell (World.block_lt_of_cell? w _ hx713_1)).trans hx713_1; replace p713 := eq_true p713; replace q713 := eq_true q713) | ((with_reducible refine gc (f := 19) rfl ?_); refine goesM (some 35) Tryz.func19 #[.agg #[.string ((rd_T30 l1 x6_1).f0), .string ((rd_T30 l1 x6_1).f1)]] ?_; (with_reducible refine (schismalaw13_short.calls ((rd_T30 l1 x6_1).f0) ((rd_T30 l1 x6_1).f1) true _ A10.out).mono ?_); rintro e w13 ⟨rfl, hb⟩; refine ⟨_, rfl, ?_⟩; replace HB := bs HB hb; (try clear hb)))
        go_roundg k1
        case measure => have := HK1.out; omega
        case rel => exact ⟨(wrap64 (x6_1 + 1)), rs, H', ⟨by have := HK1.out; omega⟩, ⟨bl HB⟩⟩
       ·replace c11 := Bool.eq_false_iff.mpr c11
        subst c11
        rw [if_neg (show ¬ (false = true) by decide)] at H
        obtain rfl := Option.some.inj H
        have p711 : 0 ≤ (x6_1 : Int) := of_decide_eq_true (by first | (with_reducible assumption) | assumption)
        have q711 : x6_1 < (l1.length : Int) := of_decide_eq_true (by first | (with_reducible assumption) | assumption)
        obtain ⟨ad711, e711, hx711_0, hx711_1⟩ := at_T30 HR1.out x6_1 p711 q711
        cases e711
        replace hx711_0 := (HB.out.cell (World.block_lt_of_cell? w _ hx711_0)).trans hx711_0
        replace hx711_1 := (HB.out.cell (World.block_lt_of_cell? w _ hx711_1)).trans hx711_1
        replace p711 := eq_true p711
        replace q711 := eq_true q711
        go_wp2_with (first | ((with_reducible refine gc (f := 14) rfl ?_); refine goesM (some 28) Tryz.func14 #[.agg #[.string ((rd_T30 l1 x6_1).f0), .string ((rd_T30 l1 x6_1).f1)]] ?_; (with_reducible refine (fraction_Check.calls k1 ((rd_T30 l1 x6_1).f0) ((rd_T30 l1 x6_1).f1) t712 _ ?s1 A8.out).mono ?_); (case s1 => exact gb HG0 HB); rintro e w14 ⟨rfl, hb⟩; refine ⟨_, rfl, ?_⟩; replace HB := bs HB hb; (try clear hb); have p713 : 0 ≤ (x6_1 : Int) := of_decide_eq_true (by first | (with_reducible assumption) | assumption); have q713 : x6_1 < (l1.length : Int) := of_decide_eq_true (by first | (with_reducible assumption) | assumption); obtain ⟨ad713, e713, hx713_0, hx713_1⟩ := at_T30 HR1.out x6_1 p713 q713; obtain rfl : ad711 = ad713 := (by injection e713); replace hx713_0 := (HB.out.cell (World.block_lt_of_cell? w _ hx713_0)).trans hx713_0; replace hx713_1 := (HB.out.cell (World.block_lt_of_cell? w _ hx713_1)).trans hx713_1; replace p713 := eq_true p713; replace q713 := eq_true q713) | ((with_reducible refine gc (f := 19) rfl ?_); refine goesM (some 35) Tryz.func19 #[.agg #[.string ((rd_T30 l1 x6_1).f0), .string ((rd_T30 l1 x6_1).f1)]] ?_; (with_reducible refine (schismalaw13_short.calls ((rd_T30 l1 x6_1).f0) ((rd_T30 l1 x6_1).f1) false _ A10.out).mono ?_); rintro e w15 ⟨rfl, hb⟩; refine ⟨_, rfl, ?_⟩; replace HB := bs HB hb; (try clear hb)))
        go_ret
        exact ⟨rl, bl HB⟩
      ·rw [if_neg c9] at H
       have c9b0 := beq_eq_false_iff_ne.mpr c9
       have c9b1 := bne_iff_ne.mpr c9
       obtain rfl := Option.some.inj H
       have p711 : 0 ≤ (x6_1 : Int) := of_decide_eq_true (by first | (with_reducible assumption) | assumption)
       have q711 : x6_1 < (l1.length : Int) := of_decide_eq_true (by first | (with_reducible assumption) | assumption)
       obtain ⟨ad711, e711, hx711_0, hx711_1⟩ := at_T30 HR1.out x6_1 p711 q711
       cases e711
       replace hx711_0 := (HB.out.cell (World.block_lt_of_cell? w _ hx711_0)).trans hx711_0
       replace hx711_1 := (HB.out.cell (World.block_lt_of_cell? w _ hx711_1)).trans hx711_1
       replace p711 := eq_true p711
       replace q711 := eq_true q711
       go_wp2_with (first | ((with_reducible refine gc (f := 14) rfl ?_); refine goesM (some 28) Tryz.func14 #[.agg #[.string ((rd_T30 l1 x6_1).f0), .string ((rd_T30 l1 x6_1).f1)]] ?_; (with_reducible refine (fraction_Check.calls k1 ((rd_T30 l1 x6_1).f0) ((rd_T30 l1 x6_1).f1) t712 _ ?s1 A8.out).mono ?_); (case s1 => exact gb HG0 HB); rintro e w16 ⟨rfl, hb⟩; refine ⟨_, rfl, ?_⟩; replace HB := bs HB hb; (try clear hb)))
       go_ret
       exact ⟨rl, bl HB⟩
     ·rw [if_neg c6] at H
      have c6b0 := decide_eq_false c6
      clear c6
      obtain rfl := Option.some.inj H
      go_wp2
      go_ret
      exact ⟨rl, bl HB⟩
  ·rw [if_neg c5] at H
   have c5b0 := beq_eq_false_iff_ne.mpr c5
   have c5b1 := bne_iff_ne.mpr c5
   have c5b2 : (l1.length == l0.length) = false := by first | simpa using c5 | (simp at c5 ⊢; omega)
   obtain rfl := Option.some.inj H
   go_enter Tryz.func50, Tryz.ntmps50
   go_wp2_with (first | ((with_reducible refine gc (f := 40) rfl ?_); refine goesM (some 9) Tryz.func40 #[.slice A0 l0.length c0] ?_; (with_reducible refine (prime_Check.calls k _ _ l0 t710 _ ?s1 ?s2 A3.out).mono ?_); (case s1 => exact cr HR0); (case s2 => exact HC0.out); rintro e w' ⟨rfl, ⟨nd, rfl⟩⟩; refine ⟨_, rfl, ?_⟩))
   go_ret
   exact ⟨rl, bl HB⟩
 ·rw [if_neg c4] at H
  have c4b0 := beq_eq_false_iff_ne.mpr c4
  have c4b1 := bne_iff_ne.mpr c4
  obtain rfl := Option.some.inj H
  go_enter Tryz.func50, Tryz.ntmps50
  go_wp2_with (first | ((with_reducible refine gc (f := 40) rfl ?_); refine goesM (some 9) Tryz.func40 #[.slice A0 l0.length c0] ?_; (with_reducible refine (prime_Check.calls k _ _ l0 t710 _ ?s1 ?s2 A3.out).mono ?_); (case s1 => exact cr HR0); (case s2 => exact HC0.out); rintro e w' ⟨rfl, ⟨nd, rfl⟩⟩; refine ⟨_, rfl, ?_⟩))
  go_ret
  exact ⟨rl, bl HB⟩
def api_Rational_95.l0 : Nat → List (S30) → List (S30) → Int → Int → Option (Bool)
 | 0, _, _, _, _ => none
 | k + 1, x0, x1, x12, x13 => if x13 < x12 then (if 0 ≤ x13 then (if x13 < (x0.length : Int) then (if x13 < (x1.length : Int) then (if (!((((rd_T30 x0 x13).f0).toList) == (((rd_T30 x1 x13).f0).toList)) || (!((((rd_T30 x0 x13).f1).toList) == (((rd_T30 x1 x13).f1).toList)))) = true then (some false) else (api_Rational_95.l0 k x0 x1 x12 (wrap64 (x13 + 1)))) else (none)) else (none)) else (none)) else (some true)
def api_Rational_95.f (k : Nat) (l0 : List (S30)) (l1 : List (S30)) : Option (Bool) := if (l0.length : Int) = (l1.length : Int) then (api_Rational_95.l0 k l0 l1 (l0.length : Int) 0) else (some false)
theorem api_Rational_95.calls (k : Nat) (A0 : Option Addr) (c0 : Nat) (l0 : List (S30)) (A1 : Option Addr) (c1 : Nat) (l1 : List (S30)) (r : Bool) (w : World) (hr0 : Kd.C k30 w A0 l0.length l0) (hc0 : l0.length ≤ c0) (hr1 : Kd.C k30 w A1 l1.length l1) (hc1 : l1.length ≤ c1) (h : api_Rational_95.f k l0 l1 = some r) :
  Calls Tryz.prog 95 #[.slice A0 l0.length c0, .slice A1 l1.length c1] w fun e w' => e = .returned (.bool r) ∧ Drawn0 w w' := by
 have hu30 := Tryz.underlying30
 have HR0 := am hr0
 have HC0 := am hc0
 clear hr0 hc0
 have HR1 := am hr1
 have HC1 := am hc1
 clear hr1 hc1
 have H := h
 unfold api_Rational_95.f at H
 clear h
 by_cases c3 : (l0.length : Int) = (l1.length : Int)
 ·rw [if_pos c3] at H
  have c3b0 := beq_iff_eq.mpr c3
  have c3b1 := bne_eq_false_iff_eq.mpr c3
  have c3b2 : (l0.length == l1.length) = true := by first | simpa using c3 | (simp at c3 ⊢; omega)
  clear c3
  have H' := am H
  clear H
  go_enter Tryz.func95, Tryz.ntmps95
  go_wp2
  repeat (go_quiet (fail); try go_wp2)
  go_loopg [13] k (fun kq v13 w' => ∃ (x13_1 : Int), v13 = .int .i64 x13_1 ∧ Aside0 (api_Rational_95.l0 kq l0 l1 (l0.length : Int) x13_1 = some r) ∧ Aside0 (kq ≤ k) ∧ Drawn0 w w')
  case atStart => exact ⟨(0), rs, H', ⟨Nat.le_refl _⟩, by repeat (first | exact Drawn0.refl _ | apply Drawn0.step)⟩
  case round =>
   clear H'
   try clear c1
   try clear p2
   try clear c3
   try clear c3b0
   try clear c3b1
   try clear c3b2
   obtain ⟨x13_1, rfl, HA, HK1, ⟨m1, rfl⟩⟩ := hrel
   cases gk with
   | zero => exact absurd HA.out (by simp [api_Rational_95.l0])
   | succ k1 =>
    have H := HA.out
    clear HA
    simp only [api_Rational_95.l0] at H
    by_cases c4 : x13_1 < (l0.length : Int)
    ·rw [if_pos c4] at H
     have c4b0 := decide_eq_true c4
     clear c4
     by_cases c5 : 0 ≤ x13_1
     case neg => rw [if_neg c5] at H; cases H
     rw [if_pos c5] at H
     have c5b0 := decide_eq_true c5
     clear c5
     by_cases c6 : x13_1 < (l0.length : Int)
     case neg => rw [if_neg c6] at H; cases H
     rw [if_pos c6] at H
     have c6b0 := decide_eq_true c6
     clear c6
     by_cases c7 : x13_1 < (l1.length : Int)
     case neg => rw [if_neg c7] at H; cases H
     rw [if_pos c7] at H
     have c7b0 := decide_eq_true c7
     clear c7
     by_cases c8 : (!((((rd_T30 l0 x13_1).f0).toList) == (((rd_T30 l1 x13_1).f0).toList)) || (!((((rd_T30 l0 x13_1).f1).toList) == (((rd_T30 l1 x13_1).f1).toList)))) = true
     ·rw [if_pos c8] at H
      have c8b0 : (!((((rd_T30 l0 x13_1).f0).toList) == (((rd_T30 l1 x13_1).f0).toList)) || (!((((rd_T30 l0 x13_1).f1).toList) == (((rd_T30 l1 x13_1).f1).toList)))) = true := c8
      clear c8
      obtain rfl := Option.some.inj H
      have p715 : 0 ≤ (x13_1 : Int) := of_decide_eq_true (by first | (with_reducible assumption) | assumption)
      have q715 : x13_1 < (l0.length : Int) := of_decide_eq_true (by first | (with_reducible assumption) | assumption)
      obtain ⟨ad715, e715, hx715_0, hx715_1⟩ := at_T30 HR0.out x13_1 p715 q715
      cases e715
      replace p715 := eq_true p715
      replace q715 := eq_true q715
      have p716 : 0 ≤ (x13_1 : Int) := of_decide_eq_true (by first | (with_reducible assumption) | assumption)
      have q716 : x13_1 < (l1.length : Int) := of_decide_eq_true (by first | (with_reducible assumption) | assumption)
      obtain ⟨ad716, e716, hx716_0, hx716_1⟩ := at_T30 HR1.out x13_1 p716 q716
      cases e716
      replace p716 := eq_true p716
      replace q716 := eq_true q716
      go_wp2
      repeat (go_quiet (fail); try go_wp2)
      go_ret
      exact ⟨by first | rfl | (simp; done) | (simp [*]; done), by repeat (first | exact Drawn0.refl _ | apply Drawn0.step)⟩
     ·rw [if_neg c8] at H
      have c8b0 : (!((((rd_T30 l0 x13_1).f0).toList) == (((rd_T30 l1 x13_1).f0).toList)) || (!((((rd_T30 l0 x13_1).f1).toList) == (((rd_T30 l1 x13_1).f1).toList)))) = false := by simpa using c8
      clear c8
      have H' := am H
      clear H
      have p715 : 0 ≤ (x13_1 : Int) := of_decide_eq_true (by first | (with_reducible assumption) | assumption)
      have q715 : x13_1 < (l0.length : Int) := of_decide_eq_true (by first | (with_reducible assumption) | assumption)
      obtain ⟨ad715, e715, hx715_0, hx715_1⟩ := at_T30 HR0.out x13_1 p715 q715
      cases e715
      replace p715 := eq_true p715
      replace q715 := eq_true q715
      have p716 : 0 ≤ (x13_1 : Int) := of_decide_eq_true (by first | (with_reducible assumption) | assumption)
      have q716 : x13_1 < (l1.length : Int) := of_decide_eq_true (by first | (with_reducible assumption) | assumption)
      obtain ⟨ad716, e716, hx716_0, hx716_1⟩ := at_T30 HR1.out x13_1 p716 q716
      cases e716
      replace p716 := eq_true p716
      replace q716 := eq_true q716
      go_wp2
      repeat (go_quiet (fail); try go_wp2)
      go_roundg k1
      case measure => have := HK1.out; omega
      case rel => exact ⟨(wrap64 (x13_1 + 1)), rs, H', ⟨by have := HK1.out; omega⟩, by repeat (first | exact Drawn0.refl _ | apply Drawn0.step)⟩
    ·rw [if_neg c4] at H
     have c4b0 := decide_eq_false c4
     clear c4
     obtain rfl := Option.some.inj H
     go_wp2
     repeat (go_quiet (fail); try go_wp2)
     go_ret
     exact ⟨by first | rfl | (simp; done) | (simp [*]; done), by repeat (first | exact Drawn0.refl _ | apply Drawn0.step)⟩
 ·rw [if_neg c3] at H
  have c3b0 := beq_eq_false_iff_ne.mpr c3
  have c3b1 := bne_iff_ne.mpr c3
  have c3b2 : (l0.length == l1.length) = false := by first | simpa using c3 | (simp at c3 ⊢; omega)
  obtain rfl := Option.some.inj H
  go_enter Tryz.func95, Tryz.ntmps95
  go_wp2
  repeat (go_quiet (fail); try go_wp2)
  go_ret
  exact ⟨by first | rfl | (simp; done) | (simp [*]; done), by repeat (first | exact Drawn0.refl _ | apply Drawn0.step)⟩
def size_Equal.f (k : Nat) (l0 : List (S30)) (l1 : List (S30)) : Option (Bool) := (api_Rational_95.f k l0 l1).bind fun t717 => (some t717)
theorem size_Equal.calls (k : Nat) (A0 : Option Addr) (c0 : Nat) (l0 : List (S30)) (A1 : Option Addr) (c1 : Nat) (l1 : List (S30)) (r : Bool) (w : World) (hr0 : Kd.C k30 w A0 l0.length l0) (hc0 : l0.length ≤ c0) (hr1 : Kd.C k30 w A1 l1.length l1) (hc1 : l1.length ≤ c1) (h : size_Equal.f k l0 l1 = some r) :
  Calls Tryz.prog 53 #[.slice A0 l0.length c0, .slice A1 l1.length c1] w fun e w' => e = .returned (.bool r) ∧ Drawn0 w w' := by
 have HR0 := am hr0
 have HC0 := am hc0
 clear hr0 hc0
 have HR1 := am hr1
 have HC1 := am hc1
 clear hr1 hc1
 have H := h
 unfold size_Equal.f at H
 clear h
 obtain ⟨t717, A3, H⟩ := bo H
 try dsimp only at H
 obtain rfl := Option.some.inj H
 go_enter Tryz.func53, Tryz.ntmps53
 go_wp2_with (first | ((with_reducible refine gc (f := 95) rfl ?_); refine goesM (some 7) Tryz.func95 #[.slice A0 l0.length c0, .slice A1 l1.length c1] ?_; (with_reducible refine (api_Rational_95.calls k _ _ l0 _ _ l1 t717 _ ?s1 ?s2 ?s3 ?s4 A3.out).mono ?_); (case s1 => exact cr HR0); (case s2 => exact HC0.out); (case s3 => exact cr HR1); (case s4 => exact HC1.out); rintro e w' ⟨rfl, ⟨nd, rfl⟩⟩; refine ⟨_, rfl, ?_⟩))
 go_ret
 exact ⟨by first | rfl | (simp; done) | (simp [*]; done), by repeat (first | exact Drawn0.refl _ | apply Drawn0.step)⟩
end Go.Proofs.YtailoobjgbldgaaGreatDoor.P
end
section
namespace Go.Proofs.YtailoobjgbldgaaGreatDoor.P
open Go.RowKit Go.Proofs.YtailoobjgbldgaaGreatDoorW.PrintWords Go.Proofs.YtailoobjgbldgaaGreatDoorW.PrintLast Go.Proofs.YtailoobjgbldgaaGreatDoorW.PrintMore
attribute [local go_sem] max2_int min2_int max_two min_two max_three min_three max_four min_four   
set_option linter.unusedVariables false
set_option linter.unusedSimpArgs false
set_option maxHeartbeats 8000000
set_option maxRecDepth 100000
def size_Check.f (k : Nat) (l0 : List Int) (l1 : List (S30)) : Option (Int) := (prime_Check.f k l0).bind fun t582 => (if t582 = 0 then ((size_check.f k l0 l1).bind fun t583 => (some t583)) else (some t582))
theorem size_Check.calls (k : Nat) (A0 : Option Addr) (c0 : Nat) (l0 : List Int) (A1 : Option Addr) (c1 : Nat) (l1 : List (S30)) (r : Int) (w : World) (hG : Glob w) (hr0 : Kd.C (Kd.int .i64) w A0 l0.length l0) (hc0 : l0.length ≤ c0) (hr1 : Kd.C k30 w A1 l1.length l1) (hc1 : l1.length ≤ c1) (h : size_Check.f k l0 l1 = some r) :
  Calls Tryz.prog 51 #[.slice A0 l0.length c0, .slice A1 l1.length c1] w fun e w' => e = .returned (.int .i64 r) ∧ Below w.heap.size w w' := by
 have HR0 := am hr0
 have HC0 := am hc0
 clear hr0 hc0
 have HR1 := am hr1
 have HC1 := am hc1
 clear hr1 hc1
 have HG0 := am hG
 clear hG
 have HB := am (Below.refl w.heap.size w)
 have H := h
 unfold size_Check.f at H
 clear h
 obtain ⟨t582, A3, H⟩ := bo H
 try dsimp only at H
 by_cases c4 : t582 = 0
 ·rw [if_pos c4] at H
  have c4b0 := beq_iff_eq.mpr c4
  have c4b1 := bne_eq_false_iff_eq.mpr c4
  clear c4
  obtain ⟨t583, A5, H⟩ := bo H
  try dsimp only at H
  obtain rfl := Option.some.inj H
  go_enter Tryz.func51, Tryz.ntmps51
  go_wp2_with (first | ((with_reducible refine gc (f := 40) rfl ?_); refine goesM (some 7) Tryz.func40 #[.slice A0 l0.length c0] ?_; (with_reducible refine (prime_Check.calls k _ _ l0 t582 _ ?s1 ?s2 A3.out).mono ?_); (case s1 => exact cr HR0); (case s2 => exact HC0.out); rintro e w' ⟨rfl, ⟨nd, rfl⟩⟩; refine ⟨_, rfl, ?_⟩) | ((with_reducible refine gc (f := 94) rfl ?_); refine goesM (some 13) Tryz.func94 #[.slice A0 l0.length c0, .slice A1 l1.length c1] ?_; (with_reducible refine (size_check.calls k _ _ l0 _ _ l1 t583 _ ?s1 ?s2 ?s3 ?s4 ?s5 A5.out).mono ?_); (case s1 => exact gb HG0 HB); (case s2 => exact cr HR0); (case s3 => exact HC0.out); (case s4 => exact cr HR1); (case s5 => exact HC1.out); rintro e w6 ⟨rfl, hb⟩; refine ⟨_, rfl, ?_⟩; replace HB := bs HB hb; (try clear hb)))
  go_ret
  exact ⟨rl, bl HB⟩
 ·rw [if_neg c4] at H
  have c4b0 := beq_eq_false_iff_ne.mpr c4
  have c4b1 := bne_iff_ne.mpr c4
  obtain rfl := Option.some.inj H
  go_enter Tryz.func51, Tryz.ntmps51
  go_wp2_with (first | ((with_reducible refine gc (f := 40) rfl ?_); refine goesM (some 7) Tryz.func40 #[.slice A0 l0.length c0] ?_; (with_reducible refine (prime_Check.calls k _ _ l0 t582 _ ?s1 ?s2 A3.out).mono ?_); (case s1 => exact cr HR0); (case s2 => exact HC0.out); rintro e w' ⟨rfl, ⟨nd, rfl⟩⟩; refine ⟨_, rfl, ?_⟩))
  go_ret
  exact ⟨rl, bl HB⟩
def fraction_Text.f (a0_0 : ByteArray) (a0_1 : ByteArray) : Option (ByteArray) := if a0_1.toList = ([49] : List UInt8) then (some a0_0) else (if a0_0.size + 1 ≤ 9223372036854775807 then (if (a0_0 ++ (⟨#[47]⟩ : ByteArray)).size + a0_1.size ≤ 9223372036854775807 then (some ((a0_0 ++ (⟨#[47]⟩ : ByteArray)) ++ a0_1)) else (none)) else (none))
theorem fraction_Text.calls (a0_0 : ByteArray) (a0_1 : ByteArray) (r : ByteArray) (w : World) (h : fraction_Text.f a0_0 a0_1 = some r) :
  Calls Tryz.prog 90 #[.agg #[.string a0_0, .string a0_1]] w fun e w' => e = .returned (.string r) ∧ Below w.heap.size w w' := by
 have hu30 := Tryz.underlying30
 have HB := am (Below.refl w.heap.size w)
 have H := h
 unfold fraction_Text.f at H
 clear h
 by_cases c2 : a0_1.toList = ([49] : List UInt8)
 ·rw [if_pos c2] at H
  have c2b0 := beq_iff_eq.mpr c2
  have c2b1 := bne_eq_false_iff_eq.mpr c2
  clear c2
  obtain rfl := Option.some.inj H
  go_enter Tryz.func90, Tryz.ntmps90
  go_wp2_with (first | ((with_reducible refine gd (N := 1) rfl ?_); refine boxM (N := 1) #[.string a0_0, .string a0_1] 30 ?_; intro gb584 hg w3 hbox hb; have BK584 := am (hbox); have GW584 := gw hg HB; have GE584 := GW584; replace HB := bs HB hb; clear hb hbox hg; have hcz4_0 := bc BK584 0 (.string a0_0); have hcz4_1 := bc BK584 1 (.string a0_1); have hfz4_0 := blk_frozen BK584.out 0; have hfz4_1 := blk_frozen BK584.out 1))
  go_ret
  exact ⟨rl, bl HB⟩
 ·rw [if_neg c2] at H
  have c2b0 := beq_eq_false_iff_ne.mpr c2
  have c2b1 := bne_iff_ne.mpr c2
  by_cases c5 : a0_0.size + 1 ≤ 9223372036854775807
  case neg => rw [if_neg c5] at H; cases H
  rw [if_pos c5] at H
  have c5b0 := eq_true c5
  have c5b1 := decide_eq_true c5
  try have c5b2 : (9223372036854775807 < a0_0.size + 1) = False := eq_false (Nat.not_lt.2 c5)
  by_cases c6 : (a0_0 ++ (⟨#[47]⟩ : ByteArray)).size + a0_1.size ≤ 9223372036854775807
  case neg => rw [if_neg c6] at H; cases H
  rw [if_pos c6] at H
  have c6b0 := eq_true c6
  have c6b1 := decide_eq_true c6
  try have c6b2 : (9223372036854775807 < (a0_0 ++ (⟨#[47]⟩ : ByteArray)).size + a0_1.size) = False := eq_false (Nat.not_lt.2 c6)
  (try have c6b3 : (9223372036854775807 < a0_0.size + 1 + a0_1.size) = False := by have h_ := of_eq_true c6b0; simp only [ByteArray.size_append] at h_; exact eq_false (Nat.not_lt.2 h_))
  obtain rfl := Option.some.inj H
  go_enter Tryz.func90, Tryz.ntmps90
  go_wp2_with (first | ((with_reducible refine gd (N := 1) rfl ?_); refine boxM (N := 1) #[.string a0_0, .string a0_1] 30 ?_; intro gb584 hg w7 hbox hb; have BK584 := am (hbox); have GW584 := gw hg HB; have GE584 := GW584; replace HB := bs HB hb; clear hb hbox hg; have hcz8_0 := bc BK584 0 (.string a0_0); have hcz8_1 := bc BK584 1 (.string a0_1); have hfz8_0 := blk_frozen BK584.out 0; have hfz8_1 := blk_frozen BK584.out 1))
  go_ret
  exact ⟨rl, bl HB⟩
end Go.Proofs.YtailoobjgbldgaaGreatDoor.P
end
section
namespace Go.Proofs.YtailoobjgbldgaaGreatDoor.Pure
open Go Go.Lib Go.RowKit Go.Proofs.YtailoobjgbldgaaGreatDoor.P Go.Proofs.YtailoobjgbldgaaGreatDoorW.PrintWords Go.Proofs.YtailoobjgbldgaaGreatDoorW.PrintLast Go.Proofs.YtailoobjgbldgaaGreatDoorW.PrintMore
open Go.Proofs.YtailoobjgbldgaaGreatDoor.Val (Evt txtN_zero_iff size_le_iff gcd_loop gcdInt_loop)
set_option linter.unusedSimpArgs false
set_option linter.unusedVariables false
theorem Ev.evt {α : Type} {n : Nat} {g : Nat → Option α} {v : α} (h : Ev n g v) : Evt g v := ⟨n, h⟩
theorem split_total (a : ByteArray) : ∃ b m, whole_split.f a = some (b, m) ∧ m.size ≤ a.size ∧ (b = true → a.data.toList = 45 :: m.data.toList) ∧ (b = false → m = a) := by
  unfold whole_split.f
  by_cases h0 : (a.size : Int) > 0
  · rw [if_pos h0, if_pos (by omega)]
    by_cases hb : bt a 0 = 45
    · rw [if_pos hb, if_pos (by omega)]
      refine ⟨true, _, rfl, by rw [ByteArray.size_extract]; omega, fun _ => ?_, fun h => by cases h⟩
      have hs : 0 < a.size := by omega
      unfold bt at hb
      rw [dif_pos (by simpa using hs)] at hb
      simp only [Int.toNat_zero] at hb
      have hl : a.data.toList.length = a.size := rfl
      cases e : a.data.toList with
      | nil => rw [e] at hl; simp at hl; omega
      | cons c l =>
        have h1 : a[0]'hs = c := by
          show a.data[0]'hs = c
          have : a.data.toList[0]'(by rw [e]; simp) = c := by simp [e]
          simpa using this
        rw [h1] at hb
        have hc : c = 45 := UInt8.toNat_inj.1 (by simpa using (by omega : c.toNat = 45))
        rw [hc, ByteArray.data_extract]
        simp [e]
        rw [e] at hl
        simp at hl
        rw [List.take_of_length_le (by omega)]
    · rw [if_neg hb]
      exact ⟨false, a, rfl, Nat.le_refl _, (fun h => by cases h), fun _ => rfl⟩
  · rw [if_neg h0]
    exact ⟨false, a, rfl, Nat.le_refl _, (fun h => by cases h), fun _ => rfl⟩
theorem dCheck_total (a : ByteArray) (h : a.size ≤ 1000) : ∃ e, decimal_Check.f a = some e ∧ (e = 0 → ∃ n, a = txtN n) := by
  unfold decimal_Check.f dCanonical.f
  rw [if_pos (by omega), Option.bind_some]
  by_cases hc : canonN a.data.toList = true
  · rw [if_pos hc]
    refine ⟨if (a.size : Int) > 400 then 2 else 0, by split <;> rfl, fun _ => ⟨natVal a.data.toList, bytes_ext ?_⟩⟩
    rw [txtN_data, dec_of_canon hc]
  · rw [if_neg hc]
    exact ⟨2, rfl, fun h => by cases h⟩
theorem wCheck_total (a : ByteArray) (h : a.size ≤ 45) : ∃ e, whole_Check.f a = some e ∧ (e = 0 → ∃ z, a = txt z) := by
  obtain ⟨b, m, hs, hm, h1, h2⟩ := split_total a
  obtain ⟨e, hd, hn⟩ := dCheck_total m (by omega)
  unfold whole_Check.f
  rw [hs, Option.bind_some]
  cases b with
  | true =>
    simp only [if_true]
    by_cases hz : m.toList = ([48] : List UInt8)
    · rw [if_pos hz]; exact ⟨2, rfl, fun h => by cases h⟩
    · rw [if_neg hz, hd, Option.bind_some]
      by_cases he : e = 0
      · rw [if_pos he]
        refine ⟨0, rfl, fun _ => ?_⟩
        obtain ⟨n, rfl⟩ := hn he
        have hn0 : n ≠ 0 := fun h0 => hz (txtN_zero_iff.2 h0)
        refine ⟨-(n : Int), bytes_ext ?_⟩
        rw [h1 rfl, txt_data, itoa_of_neg (by omega), txtN_data]
        congr 2
        omega
      · rw [if_neg he]; exact ⟨2, rfl, fun h => by cases h⟩
  | false =>
    obtain rfl := h2 rfl
    simp only [if_neg (show ¬ (false = true) by decide)]
    rw [hd, Option.bind_some]
    by_cases he : e = 0
    · rw [if_pos he]
      refine ⟨0, rfl, fun _ => ?_⟩
      obtain ⟨n, hn⟩ := hn he
      exact ⟨n, by rw [txt_nonneg]; exact hn⟩
    · rw [if_neg he]; exact ⟨2, rfl, fun h => by cases h⟩
theorem wLittle_N (m : Nat) : wLittle.f (txtN m) 18 = some (if m < 10 ^ 18 then ((m : Int), true) else (0, false)) := by
  unfold wLittle.f
  rw [← txt_nonneg, unI_txt, Option.bind_some, txt_nonneg]
  have h := size_le_iff (n := m) (k := 18) (by decide)
  by_cases hm : m < 10 ^ 18
  · rw [if_pos hm, if_neg (by have := h.2 hm; omega), if_pos (by decide)]
  · rw [if_neg hm, if_pos (by rcases Int.lt_or_le 18 ((txtN m).size : Int) with h' | h'; exact h'; exact absurd (h.1 h') hm)]
theorem gcd_total {x y : Int} (hx : (txt x).size ≤ 45) (hy : (txt y).size ≤ 45) (hy0 : y ≠ 0) : ∃ g, Evt (fun k => whole_Gcd.f k (txt x) (txt y)) g := by
  have hsz : ∀ z : Int, (txt z).size ≤ 45 → (txtN z.natAbs).size ≤ 100000000 := fun z hz => by
    rw [txtN_size]
    rcases Int.lt_or_le z 0 with h | h
    · rw [txt_size_neg h] at hz; omega
    · rw [txt_size_pos h] at hz
      rw [show z.natAbs = z.toNat by omega]; omega
  have hbig := gcd_loop y.natAbs x.natAbs (hsz x hx) (hsz y hy)
  by_cases h1 : x.natAbs < 10 ^ 18
  · by_cases h2 : y.natAbs < 10 ^ 18
    · have hg := gcdInt_loop y.natAbs x.natAbs
      have hle : Nat.gcd x.natAbs y.natAbs ≤ y.natAbs := Nat.gcd_le_right _ (by omega)
      have e18 : (10 : Nat) ^ 18 = 1000000000000000000 := by decide
      refine ⟨txt ((Nat.gcd x.natAbs y.natAbs : Nat) : Int), (hg.bind1 (h := fun t => (whole_Of.f t).bind some) ?_).congr fun k => ?_⟩
      · rw [show whole_Of.f ((Nat.gcd x.natAbs y.natAbs : Nat) : Int) = some (txt ((Nat.gcd x.natAbs y.natAbs : Nat) : Int)) by
          unfold whole_Of.f goItoa.f
          rw [if_pos ⟨by omega, by omega⟩]
          rfl]
        rfl
      · unfold whole_Gcd.f
        rw [abs_txt, abs_txt]
        simp only [Option.bind_some]
        rw [wLittle_N, if_pos h1, Option.bind_some, if_pos rfl, wLittle_N, if_pos h2, Option.bind_some, if_pos rfl]
        rfl
    · refine ⟨_, (hbig.bind1 (h := some) rfl).congr fun k => ?_⟩
      unfold whole_Gcd.f
      rw [abs_txt, abs_txt]
      simp only [Option.bind_some]
      rw [wLittle_N, if_pos h1, Option.bind_some, if_pos rfl, wLittle_N, if_neg h2, Option.bind_some, if_neg (by decide)]
      rfl
  · refine ⟨_, (hbig.bind1 (h := some) rfl).congr fun k => ?_⟩
    unfold whole_Gcd.f
    rw [abs_txt, abs_txt]
    simp only [Option.bind_some]
    rw [wLittle_N, if_neg h1, Option.bind_some, if_neg (by decide)]
    rfl
theorem sign_total (z : Int) : ∃ s, whole_Sign.f (txt z) = some s ∧ (0 < s → z ≠ 0) := by
  unfold whole_Sign.f
  by_cases h : (txt z).toList = ([48] : List UInt8)
  · rw [if_pos h]; exact ⟨0, rfl, fun h => by cases h⟩
  · have hz : z ≠ 0 := by
      rintro rfl
      exact h (by rw [toList_txt, itoa_of_nonneg (by decide)]; exact dec_small (by decide))
    rw [if_neg h]
    have hs : 0 < (txt z).size := by
      rcases Int.lt_or_le z 0 with h | h
      · rw [txt_size_neg h]; omega
      · rw [txt_size_pos h]; exact nDigits_pos _
    rw [if_pos (by omega)]
    by_cases hb : bt (txt z) 0 = 45
    · rw [if_pos hb]; exact ⟨-1, rfl, fun _ => hz⟩
    · rw [if_neg hb]; exact ⟨1, rfl, fun _ => hz⟩
theorem fCheck_total (a b : ByteArray) (ha : a.size ≤ 45) (hb : b.size ≤ 45) : ∃ e, Evt (fun k => fraction_Check.f k a b) e := by
  obtain ⟨e1, h1, z1⟩ := wCheck_total a ha
  have hbad : Evt (fun k => fraction_Check.j0 k true a b) 2 := (Evt.const 2).step fun k => by rw [fraction_Check.j0, if_pos rfl]
  by_cases he1 : e1 = 0
  · obtain ⟨e2, h2, z2⟩ := wCheck_total b hb
    by_cases he2 : e2 = 0
    · obtain ⟨x, rfl⟩ := z1 he1
      obtain ⟨y, rfl⟩ := z2 he2
      obtain ⟨s, hs, hs0⟩ := sign_total y
      have hfin : ∀ e, Evt (fun k => fraction_Check.j0 k false (txt x) (txt y)) e → ∃ e, Evt (fun k => fraction_Check.f k (txt x) (txt y)) e := fun e h => ⟨e, h.congr fun k => by
        unfold fraction_Check.f
        rw [h1, Option.bind_some, if_pos he1, h2, Option.bind_some, he2]
        rfl⟩
      by_cases hsle : s ≤ 0
      · exact hfin 2 ((Evt.const 2).step fun k => by rw [fraction_Check.j0, if_neg (by decide), hs, Option.bind_some, if_pos hsle])
      · obtain ⟨g, hg⟩ := gcd_total ha hb (hs0 (by omega))
        refine hfin (if g.toList = ([49] : List UInt8) then 0 else 2) ((hg.bind1 (h := fun t259 => if t259.toList = ([49] : List UInt8) then (some 0) else (some 2)) (by split <;> rfl)).step fun k => ?_)
        rw [fraction_Check.j0, if_neg (by decide), hs, Option.bind_some, if_neg hsle]
    · exact ⟨2, hbad.congr fun k => by
        unfold fraction_Check.f
        rw [h1, Option.bind_some, if_pos he1, h2, Option.bind_some]
        rw [show (e2 != 0) = true from bne_iff_ne.mpr he2]⟩
  · exact ⟨2, hbad.congr fun k => by
      unfold fraction_Check.f
      rw [h1, Option.bind_some, if_neg he1]
      rw [show (e1 != 0) = true from bne_iff_ne.mpr he1]⟩
theorem abs_total (a : ByteArray) : ∃ m, whole_Abs.f a = some m := by
  obtain ⟨b, m, hs, _⟩ := split_total a
  exact ⟨m, by unfold whole_Abs.f; rw [hs]; rfl⟩
theorem short_total (a b : ByteArray) : ∃ r, size_short.f a b = some r ∧ schismalaw13_short.f a b = some r := by
  obtain ⟨m, hm⟩ := abs_total a
  unfold size_short.f schismalaw13_short.f decimal_Digits.f
  rw [hm]
  simp only [Option.bind_some]
  by_cases h : (m.size : Int) ≤ 30
  · rw [if_pos h]; exact ⟨_, rfl, rfl⟩
  · rw [if_neg h]; exact ⟨_, rfl, rfl⟩
abbrev R30 := S30
theorem rd_at (xs : List R30) (j : Nat) (h : j < xs.length) : rd_T30 xs (j : Int) = xs[j] := by simp [rd_T30, h]
def Short (s : List R30) : Prop := s.length ≤ 8 ∧ ∀ i (hi : i < s.length), s[i].f0.size ≤ 45 ∧ s[i].f1.size ≤ 45
theorem check_loop {s : List R30} (hs : Short s) : ∀ (d j : Nat), j + d = s.length → ∃ e, Evt (fun k => size_check.l0 k s (s.length : Int) (j : Int)) e ∧ Evt (fun k => schismalaw13_check.l0 k s (j : Int)) e := by
  intro d
  induction d with
  | zero =>
    intro j hj
    refine ⟨0, (Evt.const 0).step fun k => ?_, (Evt.const 0).step fun k => ?_⟩
    · rw [size_check.l0, if_neg (by omega)]
    · rw [schismalaw13_check.l0, if_neg (by omega)]
  | succ d ih =>
    intro j hj
    have hjl : j < s.length := by omega
    obtain ⟨q1, q2⟩ := hs.2 j hjl
    have hl := hs.1
    obtain ⟨e, he⟩ := fCheck_total _ _ q1 q2
    by_cases h0 : e = 0
    · obtain ⟨r, hr1, hr2⟩ := short_total s[j].f0 s[j].f1
      cases r with
      | true =>
        obtain ⟨e2, h1, h2⟩ := ih (j + 1) (by omega)
        rw [← wrap_small (by omega)] at h1 h2
        refine ⟨e2, Evt.step (g := fun k => (fraction_Check.f k s[j].f0 s[j].f1).bind fun t317 => (if t317 = 0 then ((size_short.f s[j].f0 s[j].f1).bind fun t318 => (if t318 = true then (size_check.l0 k s (s.length : Int) (wrap64 ((j : Int) + 1))) else (some 4))) else (some 2))) (he.bind (h1.congr fun k => by rw [if_pos h0, hr1]; rfl)) fun k => ?_, Evt.step (g := fun k => (fraction_Check.f k s[j].f0 s[j].f1).bind fun t317 => (if t317 = 0 then ((schismalaw13_short.f s[j].f0 s[j].f1).bind fun t318 => (if t318 = true then (schismalaw13_check.l0 k s (wrap64 ((j : Int) + 1))) else (some 4))) else (some 2))) (he.bind (h2.congr fun k => by rw [if_pos h0, hr2]; rfl)) fun k => ?_⟩
        · rw [size_check.l0, if_pos (by omega), if_pos (by omega), if_pos (by omega), rd_at s j hjl]
        · rw [schismalaw13_check.l0, if_pos (by omega), if_pos (by omega), rd_at s j hjl]
      | false =>
        refine ⟨4, Evt.step (g := fun k => (fraction_Check.f k s[j].f0 s[j].f1).bind fun t317 => (if t317 = 0 then ((size_short.f s[j].f0 s[j].f1).bind fun t318 => (if t318 = true then (size_check.l0 k s (s.length : Int) (wrap64 ((j : Int) + 1))) else (some 4))) else (some 2))) (he.bind ((Evt.const 4).congr fun k => by rw [if_pos h0, hr1]; rfl)) fun k => ?_, Evt.step (g := fun k => (fraction_Check.f k s[j].f0 s[j].f1).bind fun t317 => (if t317 = 0 then ((schismalaw13_short.f s[j].f0 s[j].f1).bind fun t318 => (if t318 = true then (schismalaw13_check.l0 k s (wrap64 ((j : Int) + 1))) else (some 4))) else (some 2))) (he.bind ((Evt.const 4).congr fun k => by rw [if_pos h0, hr2]; rfl)) fun k => ?_⟩
        · rw [size_check.l0, if_pos (by omega), if_pos (by omega), if_pos (by omega), rd_at s j hjl]
        · rw [schismalaw13_check.l0, if_pos (by omega), if_pos (by omega), rd_at s j hjl]
    · refine ⟨2, Evt.step (g := fun k => (fraction_Check.f k s[j].f0 s[j].f1).bind fun t317 => (if t317 = 0 then ((size_short.f s[j].f0 s[j].f1).bind fun t318 => (if t318 = true then (size_check.l0 k s (s.length : Int) (wrap64 ((j : Int) + 1))) else (some 4))) else (some 2))) (he.bind ((Evt.const 2).congr fun k => by rw [if_neg h0])) fun k => ?_, Evt.step (g := fun k => (fraction_Check.f k s[j].f0 s[j].f1).bind fun t317 => (if t317 = 0 then ((schismalaw13_short.f s[j].f0 s[j].f1).bind fun t318 => (if t318 = true then (schismalaw13_check.l0 k s (wrap64 ((j : Int) + 1))) else (some 4))) else (some 2))) (he.bind ((Evt.const 2).congr fun k => by rw [if_neg h0])) fun k => ?_⟩
      · rw [size_check.l0, if_pos (by omega), if_pos (by omega), if_pos (by omega), rd_at s j hjl]
      · rw [schismalaw13_check.l0, if_pos (by omega), if_pos (by omega), rd_at s j hjl]
theorem inner_total (p : List Int) {s : List R30} (hs : Short s) : ∃ e, Evt (fun k => size_check.f k p s) e ∧ ∀ c, Evt (fun k => prime_Check.f k p) c → Evt (fun k => schismalaw13_check.f k p s) (if c = 0 then e else c) ∧ Evt (fun k => size_Check.f k p s) (if c = 0 then e else c) := by
  have main : ∀ e, Evt (fun k => size_check.f k p s) e → Evt (fun k => if (s.length : Int) = (p.length : Int) then schismalaw13_check.l0 k s 0 else some 5) e → ∃ e, Evt (fun k => size_check.f k p s) e ∧ ∀ c, Evt (fun k => prime_Check.f k p) c → Evt (fun k => schismalaw13_check.f k p s) (if c = 0 then e else c) ∧ Evt (fun k => size_Check.f k p s) (if c = 0 then e else c) := fun e h1 h2 => by
    refine ⟨e, h1, fun c hc => ?_⟩
    by_cases h0 : c = 0
    · rw [if_pos h0]
      exact ⟨(hc.bind (h := fun k t => if t = 0 then (if (s.length : Int) = (p.length : Int) then schismalaw13_check.l0 k s 0 else some 5) else some t) (h2.congr fun k => by rw [if_pos h0])).congr fun k => rfl,
        (hc.bind (h := fun k t => if t = 0 then (size_check.f k p s).bind fun t612 => some t612 else some t) ((h1.bind1 (h := some) rfl).congr fun k => by rw [if_pos h0])).congr fun k => rfl⟩
    · rw [if_neg h0]
      exact ⟨(hc.bind (h := fun k t => if t = 0 then (if (s.length : Int) = (p.length : Int) then schismalaw13_check.l0 k s 0 else some 5) else some t) ((Evt.const c).congr fun k => by rw [if_neg h0])).congr fun k => rfl,
        (hc.bind (h := fun k t => if t = 0 then (size_check.f k p s).bind fun t612 => some t612 else some t) ((Evt.const c).congr fun k => by rw [if_neg h0])).congr fun k => rfl⟩
  by_cases hl : (s.length : Int) = (p.length : Int)
  · obtain ⟨e, h1, h2⟩ := check_loop hs s.length 0 (by omega)
    exact main e (h1.congr fun k => by unfold size_check.f; rw [if_pos hl]; rfl) (h2.congr fun k => by rw [if_pos hl]; rfl)
  · exact main 5 ((Evt.const 5).congr fun k => by unfold size_check.f; rw [if_neg hl]) ((Evt.const 5).congr fun k => by rw [if_neg hl])
end Go.Proofs.YtailoobjgbldgaaGreatDoor.Pure
end
section
namespace Go.Proofs.YtailoobjgbldgaaGreatDoor.P
open Go.RowKit Go.Proofs.YtailoobjgbldgaaGreatDoorW.PrintWords Go.Proofs.YtailoobjgbldgaaGreatDoorW.PrintLast Go.Proofs.YtailoobjgbldgaaGreatDoorW.PrintMore
attribute [local go_sem] max2_int min2_int max_two min_two max_three min_three max_four min_four   
set_option linter.unusedVariables false
set_option linter.unusedSimpArgs false
set_option maxHeartbeats 8000000
set_option maxRecDepth 100000
def fraction_both.f (a0_0 : ByteArray) (a0_1 : ByteArray) : Option (Int × Int × Bool) := (fLittle.f a0_0).bind fun bt318 => ((fLittle.f a0_1).bind fun bt320 => (if bt318.2 = true then (some (bt318.1, bt320.1, bt320.2)) else (some (bt318.1, bt320.1, false))))
theorem fraction_both.calls (a0_0 : ByteArray) (a0_1 : ByteArray) (r1 : Int) (r2 : Int) (r3 : Bool) (w : World) (hG : Glob w) (h : fraction_both.f a0_0 a0_1 = some (r1, r2, r3)) :
  Calls Tryz.prog 79 #[.agg #[.string a0_0, .string a0_1]] w fun e w' => e = .returned (.tuple #[.int .i64 r1, .int .i64 r2, .bool r3]) ∧ Below w.heap.size w w' := by
 have hu30 := Tryz.underlying30
 have HG0 := am hG
 clear hG
 have HB := am (Below.refl w.heap.size w)
 have H := h
 unfold fraction_both.f at H
 clear h
 obtain ⟨⟨t318, t319⟩, A2, H⟩ := bo H
 try dsimp only at H
 obtain ⟨⟨t320, t321⟩, A3, H⟩ := bo H
 try dsimp only at H
 by_cases c4 : t319 = true
 ·subst c4
  rw [if_pos rfl] at H
  simp only [Option.some.injEq, Prod.mk.injEq] at H
  obtain ⟨rfl, rfl, rfl⟩ := H
  go_enter Tryz.func79, Tryz.ntmps79
  go_wp2_with (first | ((with_reducible refine gd (N := 1) rfl ?_); refine boxM (N := 1) #[.string a0_0, .string a0_1] 30 ?_; intro gb317 hg w5 hbox hb; have BK317 := am (hbox); have GW317 := gw hg HB; have GE317 := GW317; replace HB := bs HB hb; clear hb hbox hg; have hcz6_0 := bc BK317 0 (.string a0_0); have hcz6_1 := bc BK317 1 (.string a0_1); have hfz6_0 := blk_frozen BK317.out 0; have hfz6_1 := blk_frozen BK317.out 1) | ((with_reducible refine gc (f := 118) rfl ?_); refine goesM (some 10) Tryz.func118 #[.string a0_0] ?_; (with_reducible refine (fLittle.calls a0_0 t318 true _ ?s1 A2.out).mono ?_); (case s1 => exact gb HG0 HB); rintro e w7 ⟨rfl, hb⟩; refine ⟨_, rfl, ?_⟩; replace BK317 := kb BK317 hb; replace HB := bs HB hb; (try clear hb); have hcz8_0 := bc BK317 0 (.string a0_0); have hcz8_1 := bc BK317 1 (.string a0_1); have hfz8_0 := blk_frozen BK317.out 0; have hfz8_1 := blk_frozen BK317.out 1) | ((with_reducible refine gc (f := 118) rfl ?_); refine goesM (some 16) Tryz.func118 #[.string a0_1] ?_; (with_reducible refine (fLittle.calls a0_1 t320 t321 _ ?s1 A3.out).mono ?_); (case s1 => exact gb HG0 HB); rintro e w9 ⟨rfl, hb⟩; refine ⟨_, rfl, ?_⟩; replace BK317 := kb BK317 hb; replace HB := bs HB hb; (try clear hb)))
  go_ret3
  exact ⟨rl, bl HB⟩
 ·replace c4 := Bool.eq_false_iff.mpr c4
  subst c4
  rw [if_neg (show ¬ (false = true) by decide)] at H
  simp only [Option.some.injEq, Prod.mk.injEq] at H
  obtain ⟨rfl, rfl, rfl⟩ := H
  go_enter Tryz.func79, Tryz.ntmps79
  go_wp2_with (first | ((with_reducible refine gd (N := 1) rfl ?_); refine boxM (N := 1) #[.string a0_0, .string a0_1] 30 ?_; intro gb317 hg w10 hbox hb; have BK317 := am (hbox); have GW317 := gw hg HB; have GE317 := GW317; replace HB := bs HB hb; clear hb hbox hg; have hcz11_0 := bc BK317 0 (.string a0_0); have hcz11_1 := bc BK317 1 (.string a0_1); have hfz11_0 := blk_frozen BK317.out 0; have hfz11_1 := blk_frozen BK317.out 1) | ((with_reducible refine gc (f := 118) rfl ?_); refine goesM (some 10) Tryz.func118 #[.string a0_0] ?_; (with_reducible refine (fLittle.calls a0_0 t318 false _ ?s1 A2.out).mono ?_); (case s1 => exact gb HG0 HB); rintro e w12 ⟨rfl, hb⟩; refine ⟨_, rfl, ?_⟩; replace BK317 := kb BK317 hb; replace HB := bs HB hb; (try clear hb); have hcz13_0 := bc BK317 0 (.string a0_0); have hcz13_1 := bc BK317 1 (.string a0_1); have hfz13_0 := blk_frozen BK317.out 0; have hfz13_1 := blk_frozen BK317.out 1) | ((with_reducible refine gc (f := 118) rfl ?_); refine goesM (some 16) Tryz.func118 #[.string a0_1] ?_; (with_reducible refine (fLittle.calls a0_1 t320 t321 _ ?s1 A3.out).mono ?_); (case s1 => exact gb HG0 HB); rintro e w14 ⟨rfl, hb⟩; refine ⟨_, rfl, ?_⟩; replace BK317 := kb BK317 hb; replace HB := bs HB hb; (try clear hb)))
  go_ret3
  exact ⟨rl, bl HB⟩
def fraction_of.l0 : Nat → Int → Int → Int → Int → Option (ByteArray × ByteArray)
 | 0, _, _, _, _ => none
 | k + 1, x0, x1, x5, x6 => if x6 = 0 then (if x5 < 0 then (if (wrap64 (-x5)) = 0 then (none) else ((goItoa.f (wrap64 (Int.tdiv x0 (wrap64 (-x5))))).bind fun t323 => ((goItoa.f (wrap64 (Int.tdiv x1 (wrap64 (-x5))))).bind fun t324 => (some (t323, t324))))) else (if x5 = 0 then (none) else ((goItoa.f (wrap64 (Int.tdiv x0 x5))).bind fun t325 => ((goItoa.f (wrap64 (Int.tdiv x1 x5))).bind fun t326 => (some (t325, t326)))))) else (fraction_of.l0 k x0 x1 x6 (Int.tmod x5 x6))
def fraction_of.f (k : Nat) (a0 : Int) (a1 : Int) : Option (ByteArray × ByteArray) := fraction_of.l0 k a0 a1 a0 a1
def fraction_of.T6 : Bool × List (List Nat × List Nat) := (true, [([], []), ([], []), ([0, 1], [0, 1]), ([2], [2]), ([], []), ([], []), ([4, 5], [4, 5]), ([6, 3], [6]), ([3, 7], [3, 7]), ([8, 7, 0, 1, 2, 3, 4, 5, 6, 7, 8], [8])])
def fraction_of.B6 : List Nat := [0, 0, 3, 7, 0, 0, 48, 127, 255, 511]
theorem fraction_of.tab6 : rtab .any (opsOf Tryz.f80 6) = fraction_of.T6 := by kernel_rfl
theorem fraction_of.bits6 : waitsOk fraction_of.T6.2 fraction_of.B6 = true := by kernel_rfl
theorem fraction_of.calls (k : Nat) (a0 : Int) (a1 : Int) (r1 : ByteArray) (r2 : ByteArray) (w : World) (hG : Glob w) (h : fraction_of.f k a0 a1 = some (r1, r2)) :
  Calls Tryz.prog 80 #[.int .i64 a0, .int .i64 a1] w fun e w' => e = .returned (.agg #[.string r1, .string r2]) ∧ Below w.heap.size w w' := by
 have hu30 := Tryz.underlying30
 have HG0 := am hG
 clear hG
 have HB := am (Below.refl w.heap.size w)
 have H := h
 unfold fraction_of.f at H
 clear h
 have H' := am H
 clear H
 go_enter Tryz.func80, Tryz.ntmps80
 go_wp2_with (first | ((with_reducible refine gd (N := 4) rfl ?_); refine boxM (N := 4) #[.string (⟨#[]⟩ : ByteArray), .string (⟨#[]⟩ : ByteArray)] 30 ?_; intro gb322 hg w3 hbox hb; have BK322 := am (hbox); have GW322 := gw hg HB; have GE322 := GW322; replace HB := bs HB hb; clear hb hbox hg))
 go_loopg [5, 6] k (fun kq v5 v6 w' => ∃ (x5_1 : Int) (x6_1 : Int), v5 = .int .i64 x5_1 ∧ v6 = .int .i64 x6_1 ∧ Aside0 (fraction_of.l0 kq a0 a1 x5_1 x6_1 = some (r1, r2)) ∧ Aside0 (kq ≤ k) ∧ Aside0 (w'.heap[gb322]? = some (.cells #[.string (⟨#[]⟩ : ByteArray), .string (⟨#[]⟩ : ByteArray)] 30 (0, 0))) ∧ Aside0 (Below w.heap.size w w'))
 case atStart => exact ⟨(a0), (a1), rs, rs, H', ⟨Nat.le_refl _⟩, ⟨bk BK322⟩, ⟨bl HB⟩⟩
 case round =>
  clear H'
  try clear p2
  obtain ⟨x5_1, x6_1, rfl, rfl, HA, HK1, BK322, HB⟩ := hrel
  cases gk with
  | zero => exact absurd HA.out (by simp [fraction_of.l0])
  | succ k1 =>
   have H := HA.out
   clear HA
   simp only [fraction_of.l0] at H
   by_cases c4 : x6_1 = 0
   ·rw [if_pos c4] at H
    have c4b0 := beq_iff_eq.mpr c4
    have c4b1 := bne_eq_false_iff_eq.mpr c4
    clear c4
    by_cases c5 : x5_1 < 0
    ·rw [if_pos c5] at H
     have c5b0 := decide_eq_true c5
     clear c5
     by_cases c6 : (wrap64 (-x5_1)) = 0
     case pos => rw [if_pos c6] at H; cases H
     rw [if_neg c6] at H
     have c6b0 := beq_eq_false_iff_ne.mpr c6
     have c6b1 := bne_iff_ne.mpr c6
     obtain ⟨t323, A7, H⟩ := bo H
     try dsimp only at H
     obtain ⟨t324, A8, H⟩ := bo H
     try dsimp only at H
     simp only [Option.some.injEq, Prod.mk.injEq] at H
     obtain ⟨rfl, rfl⟩ := H
     try go_wp2
     replace BK322 := am (blk_drew BK322.out)
     replace HB := am (below_drew1 HB.out)
     refine start_ (n := 10) (S := fun w' => True) (ds := []) #[false, false, false, false, false, false, false, false, false, false] (by kernel_rfl) rfl rfl trivial (fun hHeld => ?_); refine with_tabW fraction_of.tab6 fraction_of.bits6 (fun HT_ HW_ => ?_)
     generalize wr.drew = w9 at BK322 HB hHeld ⊢
     refine purM (i := 0) (N := some 19) #[true, false, false, false, false, false, false, false, false, false] ?_
     refine purM (i := 1) (N := some 20) #[true, true, false, false, false, false, false, false, false, false] ?_
     refine purM (i := 2) (N := some 21) #[true, true, true, false, false, false, false, false, false, false] ?_
     refine purM (i := 4) (N := some 23) #[true, true, true, false, true, false, false, false, false, false] ?_
     refine purM (i := 5) (N := some 24) #[true, true, true, false, true, true, false, false, false, false] ?_
     refine purM (i := 6) (N := some 25) #[true, true, true, false, true, true, true, false, false, false] ?_
     refine one_ (i := 3) (N := some 22) #[true, true, true, true, true, true, true, false, false, false] rfl rfl (one_of HT_.out (by kernel_rfl)) (by decide) (fun K hK => ?_)
     refine goesR Tryz.func89 #[.int .i64 (wrap64 (Int.tdiv a0 (wrap64 (-x5_1))))] ?_
     with_reducible refine (goItoa.calls (wrap64 (Int.tdiv a0 (wrap64 (-x5_1)))) t323 _ ?s1 A7.out).mono ?_
     (case s1 => exact gb HG0 HB)
     rintro e w10 ⟨rfl, hb⟩
     refine ⟨_, rfl, ?_⟩
     replace BK322 := kb BK322 hb
     replace HB := bs HB hb
     (try clear hb)
     (try clear hb2)
     (try clear hk)
     (try clear hi)
     refine hK.out _ _ trivial (fun hHeld => ?_)
     clear hK K
     refine norm_ (a' := ?_) ?_ ?_
     rotate_left
     ·show Act.put _ (some 22) _ = _
      simp only [Act.put, List.setIfInBounds_toArray, List.set_cons_zero, List.set_cons_succ, i64_w, i32_w]
      rfl
     refine one_ (i := 7) (N := some 26) #[true, true, true, true, true, true, true, true, false, false] rfl rfl (one_of HT_.out (by kernel_rfl)) (by decide) (fun K hK => ?_)
     refine goesR Tryz.func89 #[.int .i64 (wrap64 (Int.tdiv a1 (wrap64 (-x5_1))))] ?_
     with_reducible refine (goItoa.calls (wrap64 (Int.tdiv a1 (wrap64 (-x5_1)))) t324 _ ?s1 A8.out).mono ?_
     (case s1 => exact gb HG0 HB)
     rintro e w11 ⟨rfl, hb⟩
     refine ⟨_, rfl, ?_⟩
     replace BK322 := kb BK322 hb
     replace HB := bs HB hb
     (try clear hb)
     (try clear hb2)
     (try clear hk)
     (try clear hi)
     refine hK.out _ _ trivial (fun hHeld => ?_)
     clear hK K
     refine norm_ (a' := ?_) ?_ ?_
     rotate_left
     ·show Act.put _ (some 26) _ = _
      simp only [Act.put, List.setIfInBounds_toArray, List.set_cons_zero, List.set_cons_succ, i64_w, i32_w]
      rfl
     refine purM (i := 8) (N := some 27) #[true, true, true, true, true, true, true, true, true, false] ?_
     refine one_ (i := 9) (N := none) #[true, true, true, true, true, true, true, true, true, true] rfl rfl (one_of HT_.out (by kernel_rfl)) (by decide) (fun K hK => ?_)
     have hs12 := bc BK322 0 (.string (⟨#[]⟩ : ByteArray))
     have hfs12 := blk_frozen BK322.out 0
     have hs13 := bc BK322 1 (.string (⟨#[]⟩ : ByteArray))
     have hfs13 := blk_frozen BK322.out 1
     refine skip_ (w1 := ?_) (by rfl) rfl ?_ ?_
     rotate_left
     ·go_simp
      rfl
     refine hK.out _ _ trivial (fun hHeld => ?_)
     clear hK K
     refine done_ (done_of HT_.out (by kernel_rfl)) ?_
     try go_wp2
     refine bodyPost_ret (results_cell_row rfl _ _ gb322 30 #[.string t323, .string t324] (0, 0) _ rfl (by (with_reducible repeat (first | refine blk_drewN ?_ _ | refine blk_drew ?_ | refine blk_alloc ?_ _)); refine blk_put (cs := #[.string t323, .string (⟨#[]⟩ : ByteArray)]) ?_ 1 _ rfl; (with_reducible repeat (first | refine blk_drewN ?_ _ | refine blk_drew ?_ | refine blk_alloc ?_ _)); refine blk_put (cs := #[.string (⟨#[]⟩ : ByteArray), .string (⟨#[]⟩ : ByteArray)]) ?_ 0 _ rfl; (with_reducible repeat (first | refine blk_drewN ?_ _ | refine blk_drew ?_ | refine blk_alloc ?_ _)); exact BK322.out) Tryz.underlying30 rfl (by kernel_rfl)) rfl ?_
     exact ⟨rl, bl HB⟩
    ·rw [if_neg c5] at H
     have c5b0 := decide_eq_false c5
     clear c5
     by_cases c14 : x5_1 = 0
     case pos => rw [if_pos c14] at H; cases H
     rw [if_neg c14] at H
     have c14b0 := beq_eq_false_iff_ne.mpr c14
     have c14b1 := bne_iff_ne.mpr c14
     obtain ⟨t325, A15, H⟩ := bo H
     try dsimp only at H
     obtain ⟨t326, A16, H⟩ := bo H
     try dsimp only at H
     simp only [Option.some.injEq, Prod.mk.injEq] at H
     obtain ⟨rfl, rfl⟩ := H
     try go_wp2
     replace BK322 := am (blk_drew BK322.out)
     replace HB := am (below_drew1 HB.out)
     refine start_ (n := 10) (S := fun w' => True) (ds := []) #[false, false, false, false, false, false, false, false, false, false] (by kernel_rfl) rfl rfl trivial (fun hHeld => ?_); refine with_tabW fraction_of.tab6 fraction_of.bits6 (fun HT_ HW_ => ?_)
     generalize wr.drew = w17 at BK322 HB hHeld ⊢
     refine purM (i := 0) (N := some 19) #[true, false, false, false, false, false, false, false, false, false] ?_
     refine purM (i := 1) (N := some 20) #[true, true, false, false, false, false, false, false, false, false] ?_
     refine purM (i := 2) (N := some 21) #[true, true, true, false, false, false, false, false, false, false] ?_
     refine purM (i := 4) (N := some 23) #[true, true, true, false, true, false, false, false, false, false] ?_
     refine purM (i := 5) (N := some 24) #[true, true, true, false, true, true, false, false, false, false] ?_
     refine purM (i := 6) (N := some 25) #[true, true, true, false, true, true, true, false, false, false] ?_
     refine one_ (i := 3) (N := some 22) #[true, true, true, true, true, true, true, false, false, false] rfl rfl (one_of HT_.out (by kernel_rfl)) (by decide) (fun K hK => ?_)
     refine goesR Tryz.func89 #[.int .i64 (wrap64 (Int.tdiv a0 x5_1))] ?_
     with_reducible refine (goItoa.calls (wrap64 (Int.tdiv a0 x5_1)) t325 _ ?s1 A15.out).mono ?_
     (case s1 => exact gb HG0 HB)
     rintro e w18 ⟨rfl, hb⟩
     refine ⟨_, rfl, ?_⟩
     replace BK322 := kb BK322 hb
     replace HB := bs HB hb
     (try clear hb)
     (try clear hb2)
     (try clear hk)
     (try clear hi)
     refine hK.out _ _ trivial (fun hHeld => ?_)
     clear hK K
     refine norm_ (a' := ?_) ?_ ?_
     rotate_left
     ·show Act.put _ (some 22) _ = _
      simp only [Act.put, List.setIfInBounds_toArray, List.set_cons_zero, List.set_cons_succ, i64_w, i32_w]
      rfl
     refine one_ (i := 7) (N := some 26) #[true, true, true, true, true, true, true, true, false, false] rfl rfl (one_of HT_.out (by kernel_rfl)) (by decide) (fun K hK => ?_)
     refine goesR Tryz.func89 #[.int .i64 (wrap64 (Int.tdiv a1 x5_1))] ?_
     with_reducible refine (goItoa.calls (wrap64 (Int.tdiv a1 x5_1)) t326 _ ?s1 A16.out).mono ?_
     (case s1 => exact gb HG0 HB)
     rintro e w19 ⟨rfl, hb⟩
     refine ⟨_, rfl, ?_⟩
     replace BK322 := kb BK322 hb
     replace HB := bs HB hb
     (try clear hb)
     (try clear hb2)
     (try clear hk)
     (try clear hi)
     refine hK.out _ _ trivial (fun hHeld => ?_)
     clear hK K
     refine norm_ (a' := ?_) ?_ ?_
     rotate_left
     ·show Act.put _ (some 26) _ = _
      simp only [Act.put, List.setIfInBounds_toArray, List.set_cons_zero, List.set_cons_succ, i64_w, i32_w]
      rfl
     refine purM (i := 8) (N := some 27) #[true, true, true, true, true, true, true, true, true, false] ?_
     refine one_ (i := 9) (N := none) #[true, true, true, true, true, true, true, true, true, true] rfl rfl (one_of HT_.out (by kernel_rfl)) (by decide) (fun K hK => ?_)
     have hs20 := bc BK322 0 (.string (⟨#[]⟩ : ByteArray))
     have hfs20 := blk_frozen BK322.out 0
     have hs21 := bc BK322 1 (.string (⟨#[]⟩ : ByteArray))
     have hfs21 := blk_frozen BK322.out 1
     refine skip_ (w1 := ?_) (by rfl) rfl ?_ ?_
     rotate_left
     ·go_simp
      rfl
     refine hK.out _ _ trivial (fun hHeld => ?_)
     clear hK K
     refine done_ (done_of HT_.out (by kernel_rfl)) ?_
     try go_wp2
     refine bodyPost_ret (results_cell_row rfl _ _ gb322 30 #[.string t325, .string t326] (0, 0) _ rfl (by (with_reducible repeat (first | refine blk_drewN ?_ _ | refine blk_drew ?_ | refine blk_alloc ?_ _)); refine blk_put (cs := #[.string t325, .string (⟨#[]⟩ : ByteArray)]) ?_ 1 _ rfl; (with_reducible repeat (first | refine blk_drewN ?_ _ | refine blk_drew ?_ | refine blk_alloc ?_ _)); refine blk_put (cs := #[.string (⟨#[]⟩ : ByteArray), .string (⟨#[]⟩ : ByteArray)]) ?_ 0 _ rfl; (with_reducible repeat (first | refine blk_drewN ?_ _ | refine blk_drew ?_ | refine blk_alloc ?_ _)); exact BK322.out) Tryz.underlying30 rfl (by kernel_rfl)) rfl ?_
     exact ⟨rl, bl HB⟩
   ·rw [if_neg c4] at H
    have c4b0 := beq_eq_false_iff_ne.mpr c4
    have c4b1 := bne_iff_ne.mpr c4
    have H' := am H
    clear H
    try go_wp2
    replace BK322 := am (blk_drew BK322.out)
    replace HB := am (below_drew1 HB.out)
    refine start_ (n := 6) (S := fun w' => True) (ds := []) #[false, false, false, false, false, false] (by kernel_rfl) rfl rfl trivial (fun hHeld => ?_)
    generalize wr.drew = w22 at BK322 HB hHeld ⊢
    refine pure_ (i := 0) (N := some 11) (v := ?_) (a' := ?_) #[true, false, false, false, false, false] rfl rfl (by kernel_rfl) (fun _ _ _ h => h) (Or.inl ⟨by rfl, ?_⟩) ?_ ?_
    rotate_left
    ·intro w'
     go_simp
     with_reducible rfl
    rotate_left
    ·simp only [Act.put, List.setIfInBounds_toArray, List.set_cons_zero, List.set_cons_succ, i64_w, i32_w]
     rfl
    refine pure_ (i := 1) (N := some 12) (v := ?_) (a' := ?_) #[true, true, false, false, false, false] rfl rfl (by kernel_rfl) (fun _ _ _ h => h) (Or.inl ⟨by rfl, ?_⟩) ?_ ?_
    rotate_left
    ·intro w'
     go_simp
     with_reducible rfl
    rotate_left
    ·simp only [Act.put, List.setIfInBounds_toArray, List.set_cons_zero, List.set_cons_succ, i64_w, i32_w]
     rfl
    refine pure_ (i := 2) (N := some 13) (v := ?_) (a' := ?_) #[true, true, true, false, false, false] rfl rfl (by kernel_rfl) (fun _ _ _ h => h) (Or.inl ⟨by rfl, ?_⟩) ?_ ?_
    rotate_left
    ·intro w'
     go_simp
     with_reducible rfl
    rotate_left
    ·simp only [Act.put, List.setIfInBounds_toArray, List.set_cons_zero, List.set_cons_succ, i64_w, i32_w]
     rfl
    refine pure_ (i := 3) (N := some 14) (v := ?_) (a' := ?_) #[true, true, true, true, false, false] rfl rfl (by kernel_rfl) (fun _ _ _ h => h) (Or.inl ⟨by rfl, ?_⟩) ?_ ?_
    rotate_left
    ·intro w'
     go_simp
     with_reducible rfl
    rotate_left
    ·simp only [Act.put, List.setIfInBounds_toArray, List.set_cons_zero, List.set_cons_succ, i64_w, i32_w]
     rfl
    refine pure_ (i := 4) (N := some 5) (v := ?_) (a' := ?_) #[true, true, true, true, true, false] rfl rfl (by kernel_rfl) (fun _ _ _ h => h) (Or.inl ⟨by rfl, ?_⟩) ?_ ?_
    rotate_left
    ·intro w'
     go_simp
     with_reducible rfl
    rotate_left
    ·simp only [Act.put, List.setIfInBounds_toArray, List.set_cons_zero, List.set_cons_succ, i64_w, i32_w]
     rfl
    refine pure_ (i := 5) (N := some 6) (v := ?_) (a' := ?_) #[true, true, true, true, true, true] rfl rfl (by kernel_rfl) (fun _ _ _ h => h) (Or.inl ⟨by rfl, ?_⟩) ?_ ?_
    rotate_left
    ·intro w'
     go_simp
     with_reducible rfl
    rotate_left
    ·simp only [Act.put, List.setIfInBounds_toArray, List.set_cons_zero, List.set_cons_succ, i64_w, i32_w]
     rfl
    refine done_ (by kernel_rfl) ?_
    try go_wp2
    go_roundg k1
    case measure => have := HK1.out; omega
    case rel => exact ⟨(x6_1), (Int.tmod x5_1 x6_1), rs, rs, H', ⟨by have := HK1.out; omega⟩, ⟨bk BK322⟩, ⟨bl HB⟩⟩
def fraction_Mul.f (k : Nat) (a0_0 : ByteArray) (a0_1 : ByteArray) (a1_0 : ByteArray) (a1_1 : ByteArray) : Option (ByteArray × ByteArray) := (fraction_both.f a0_0 a0_1).bind fun bt330 => (if bt330.2.2 = true then ((fraction_both.f a1_0 a1_1).bind fun bt333 => (if bt333.2.2 = true then ((fraction_of.f k (wrap64 (bt330.1 * bt333.1)) (wrap64 (bt330.2.1 * bt333.2.1))).bind fun bt336 => (some (bt336.1, bt336.2))) else (none))) else (none))
theorem fraction_Mul.calls (k : Nat) (a0_0 : ByteArray) (a0_1 : ByteArray) (a1_0 : ByteArray) (a1_1 : ByteArray) (r1 : ByteArray) (r2 : ByteArray) (w : World) (hG : Glob w) (h : fraction_Mul.f k a0_0 a0_1 a1_0 a1_1 = some (r1, r2)) :
  Calls Tryz.prog 35 #[.agg #[.string a0_0, .string a0_1], .agg #[.string a1_0, .string a1_1]] w fun e w' => e = .returned (.agg #[.string r1, .string r2]) ∧ Below w.heap.size w w' := by
 have hu30 := Tryz.underlying30
 have HG0 := am hG
 clear hG
 have HB := am (Below.refl w.heap.size w)
 have H := h
 unfold fraction_Mul.f at H
 clear h
 obtain ⟨⟨t330, t331, t332⟩, A3, H⟩ := bo H
 try dsimp only at H
 by_cases c4 : t332 = true
 ·subst c4
  rw [if_pos rfl] at H
  obtain ⟨⟨t333, t334, t335⟩, A5, H⟩ := bo H
  try dsimp only at H
  by_cases c6 : t335 = true
  ·subst c6
   rw [if_pos rfl] at H
   obtain ⟨⟨t336, t337⟩, A7, H⟩ := bo H
   try dsimp only at H
   simp only [Option.some.injEq, Prod.mk.injEq] at H
   obtain ⟨rfl, rfl⟩ := H
   go_enter Tryz.func35, Tryz.ntmps35
   go_wp2_with (first | ((with_reducible refine gd (N := 2) rfl ?_); refine boxM (N := 2) #[.string a0_0, .string a0_1] 30 ?_; intro gb327 hg w8 hbox hb; have BK327 := am (hbox); have GW327 := gw hg HB; have GE327 := GW327; replace HB := bs HB hb; clear hb hbox hg) | ((with_reducible refine gd (N := 3) rfl ?_); refine boxM (N := 3) #[.string a1_0, .string a1_1] 30 ?_; intro gb328 hg w9 hbox hb; have BK328 := am (hbox); have GW328 := gw hg HB; have GE328 := GW328; replace HB := bs HB hb; have NB327_328 := nl hg BK327; have NB328_327 := ng hg BK327; replace BK327 := kb BK327 hb; clear hb hbox hg) | ((with_reducible refine gd (N := 4) rfl ?_); refine boxM (N := 4) #[.string (⟨#[]⟩ : ByteArray), .string (⟨#[]⟩ : ByteArray)] 30 ?_; intro gb329 hg w10 hbox hb; have BK329 := am (hbox); have GW329 := gw hg HB; have GE329 := GW329; replace HB := bs HB hb; have NB327_329 := nl hg BK327; have NB329_327 := ng hg BK327; replace BK327 := kb BK327 hb; have NB328_329 := nl hg BK328; have NB329_328 := ng hg BK328; replace BK328 := kb BK328 hb; clear hb hbox hg; have hnb11 := NB327_328.out; have hnc11 := NB328_327.out; have hnb12 := NB327_329.out; have hnc12 := NB329_327.out; have hcz13_0 := bc BK327 0 (.string a0_0); have hcz13_1 := bc BK327 1 (.string a0_1); have hfz13_0 := blk_frozen BK327.out 0; have hfz13_1 := blk_frozen BK327.out 1) | ((with_reducible refine gc (f := 79) rfl ?_); refine goesM (some 13) Tryz.func79 #[.agg #[.string a0_0, .string a0_1]] ?_; (with_reducible refine (fraction_both.calls a0_0 a0_1 t330 t331 true _ ?s1 A3.out).mono ?_); (case s1 => exact gb HG0 HB); rintro e w14 ⟨rfl, hb⟩; refine ⟨_, rfl, ?_⟩; replace BK327 := kb BK327 hb; replace BK328 := kb BK328 hb; replace BK329 := kb BK329 hb; replace HB := bs HB hb; (try clear hb); have hnb15 := NB328_329.out; have hnc15 := NB329_328.out; have hcz16_0 := bc BK328 0 (.string a1_0); have hcz16_1 := bc BK328 1 (.string a1_1); have hfz16_0 := blk_frozen BK328.out 0; have hfz16_1 := blk_frozen BK328.out 1) | ((with_reducible refine gc (f := 79) rfl ?_); refine goesM (some 20) Tryz.func79 #[.agg #[.string a1_0, .string a1_1]] ?_; (with_reducible refine (fraction_both.calls a1_0 a1_1 t333 t334 true _ ?s1 A5.out).mono ?_); (case s1 => exact gb HG0 HB); rintro e w17 ⟨rfl, hb⟩; refine ⟨_, rfl, ?_⟩; replace BK327 := kb BK327 hb; replace BK328 := kb BK328 hb; replace BK329 := kb BK329 hb; replace HB := bs HB hb; (try clear hb)) | ((with_reducible refine gc (f := 80) rfl ?_); refine goesM (some 31) Tryz.func80 #[.int .i64 (wrap64 (t330 * t333)), .int .i64 (wrap64 (t331 * t334))] ?_; (with_reducible refine (fraction_of.calls k (wrap64 (t330 * t333)) (wrap64 (t331 * t334)) t336 t337 _ ?s1 A7.out).mono ?_); (case s1 => exact gb HG0 HB); rintro e w18 ⟨rfl, hb⟩; refine ⟨_, rfl, ?_⟩; replace BK327 := kb BK327 hb; replace BK328 := kb BK328 hb; replace BK329 := kb BK329 hb; replace HB := bs HB hb; (try clear hb); have hcz19_0 := bc BK329 0 (.string (⟨#[]⟩ : ByteArray)); have hcz19_1 := bc BK329 1 (.string (⟨#[]⟩ : ByteArray)); have hfz19_0 := blk_frozen BK329.out 0; have hfz19_1 := blk_frozen BK329.out 1))
   refine bodyPost_ret (results_cell_row rfl _ _ gb329 30 #[.string t336, .string t337] (0, 0) _ rfl (by (with_reducible repeat (first | refine blk_drewN ?_ _ | refine blk_drew ?_ | refine blk_alloc ?_ _)); refine blk_put (cs := #[.string t336, .string (⟨#[]⟩ : ByteArray)]) ?_ 1 _ rfl; (with_reducible repeat (first | refine blk_drewN ?_ _ | refine blk_drew ?_ | refine blk_alloc ?_ _)); refine blk_put (cs := #[.string (⟨#[]⟩ : ByteArray), .string (⟨#[]⟩ : ByteArray)]) ?_ 0 _ rfl; (with_reducible repeat (first | refine blk_drewN ?_ _ | refine blk_drew ?_ | refine blk_alloc ?_ _)); exact BK329.out) Tryz.underlying30 rfl (by kernel_rfl)) rfl ?_
   exact ⟨rl, bl HB⟩
  ·replace c6 := Bool.eq_false_iff.mpr c6
   subst c6
   rw [if_neg (show ¬ (false = true) by decide)] at H
   cases H
 ·replace c4 := Bool.eq_false_iff.mpr c4
  subst c4
  rw [if_neg (show ¬ (false = true) by decide)] at H
  cases H
def whole_Add.j0 : Nat → ByteArray → ByteArray → Option (ByteArray)
 | 0, _, _ => none
 | k + 1, x0, x1 => (whole_split.f x0).bind fun bt343 => ((whole_split.f x1).bind fun bt345 => (if (bt343.1 == bt345.1) = true then (none) else (none)))
def whole_Add.f (k : Nat) (a0 : ByteArray) (a1 : ByteArray) : Option (ByteArray) := (wLittle.f a0 18).bind fun bt338 => (if bt338.2 = true then ((wLittle.f a1 18).bind fun bt340 => (if bt340.2 = true then ((whole_Of.f (wrap64 (bt338.1 + bt340.1))).bind fun t342 => (some t342)) else (whole_Add.j0 k a0 a1))) else (whole_Add.j0 k a0 a1))
theorem whole_Add.calls (k : Nat) (a0 : ByteArray) (a1 : ByteArray) (r : ByteArray) (w : World) (hG : Glob w) (h : whole_Add.f k a0 a1 = some r) :
  Calls Tryz.prog 104 #[.string a0, .string a1] w fun e w' => e = .returned (.string r) ∧ Below w.heap.size w w' := by
 have HG0 := am hG
 clear hG
 have HB := am (Below.refl w.heap.size w)
 have H := h
 unfold whole_Add.f at H
 clear h
 obtain ⟨⟨t338, t339⟩, A3, H⟩ := bo H
 try dsimp only at H
 have HC4 := am H
 clear H
 go_enter Tryz.func104, Tryz.ntmps104
 go_upto_if 20 with (first | ((with_reducible refine gc (f := 96) rfl ?_); refine goesM (some 17) Tryz.func96 #[.string a0, .int .i64 18] ?_; (with_reducible refine (wLittle.calls a0 18 t338 t339 _ ?s1 A3.out).mono ?_); (case s1 => exact gb HG0 HB); rintro e w5 ⟨rfl, hb⟩; refine ⟨_, rfl, ?_⟩; replace HB := bs HB hb; (try clear hb)))
 (try simp only [Act.put, List.setIfInBounds_toArray, List.set_cons_zero, List.set_cons_succ])
 go_cut [] (fun wc => ∃ (kq : Nat), Aside0 (whole_Add.j0 kq a0 a1 = some r) ∧ Aside0 (kq ≤ k) ∧ Aside0 (Below w.heap.size w wc))
 case first =>
  have H := HC4.out
  clear HC4
  by_cases c6 : t339 = true
  ·subst c6
   rw [if_pos rfl] at H
   obtain ⟨⟨t340, t341⟩, A7, H⟩ := bo H
   try dsimp only at H
   by_cases c8 : t341 = true
   ·subst c8
    rw [if_pos rfl] at H
    obtain ⟨t342, A9, H⟩ := bo H
    try dsimp only at H
    obtain rfl := Option.some.inj H
    go_wp2_with (first | ((with_reducible refine gc (f := 96) rfl ?_); refine goesM (some 23) Tryz.func96 #[.string a1, .int .i64 18] ?_; (with_reducible refine (wLittle.calls a1 18 t340 true _ ?s1 A7.out).mono ?_); (case s1 => exact gb HG0 HB); rintro e w10 ⟨rfl, hb⟩; refine ⟨_, rfl, ?_⟩; replace HB := bs HB hb; (try clear hb)) | ((with_reducible refine gc (f := 97) rfl ?_); refine goesM (some 30) Tryz.func97 #[.int .i64 (wrap64 (t338 + t340))] ?_; (with_reducible refine (whole_Of.calls (wrap64 (t338 + t340)) t342 _ ?s1 A9.out).mono ?_); (case s1 => exact gb HG0 HB); rintro e w11 ⟨rfl, hb⟩; refine ⟨_, rfl, ?_⟩; replace HB := bs HB hb; (try clear hb)))
    go_ret
    exact ⟨rl, bl HB⟩
   ·replace c8 := Bool.eq_false_iff.mpr c8
    subst c8
    rw [if_neg (show ¬ (false = true) by decide)] at H
    have H' := am H
    clear H
    go_wp2_with (first | ((with_reducible refine gc (f := 96) rfl ?_); refine goesM (some 23) Tryz.func96 #[.string a1, .int .i64 18] ?_; (with_reducible refine (wLittle.calls a1 18 t340 false _ ?s1 A7.out).mono ?_); (case s1 => exact gb HG0 HB); rintro e w12 ⟨rfl, hb⟩; refine ⟨_, rfl, ?_⟩; replace HB := bs HB hb; (try clear hb)))
    go_meet
    case rel => exact ⟨_, H', ⟨by first | omega | exact Nat.le_refl _⟩, ⟨bl HB⟩⟩
  ·replace c6 := Bool.eq_false_iff.mpr c6
   subst c6
   rw [if_neg (show ¬ (false = true) by decide)] at H
   have H' := am H
   clear H
   go_wp2
   go_meet
   case rel => exact ⟨_, H', ⟨by first | omega | exact Nat.le_refl _⟩, ⟨bl HB⟩⟩
 case rest =>
  clear HC4
  try clear c1
  try clear p2
  try clear c6
  try clear p6
  try clear c8
  try clear c9
  try clear c10
  obtain ⟨kq, HA, HJ3, HB⟩ := hcut
  cases kq with
  | zero => exact absurd HA.out (by simp [whole_Add.j0])
  | succ kj3 =>
   have H := HA.out
   clear HA
   simp only [whole_Add.j0] at H
   obtain ⟨⟨t343, t344⟩, A13, H⟩ := bo H
   try dsimp only at H
   obtain ⟨⟨t345, t346⟩, A14, H⟩ := bo H
   try dsimp only at H
   by_cases c15 : (t343 == t345) = true
   case neg => rw [if_neg c15] at H; cases H
   rw [if_pos c15] at H
   cases H
end Go.Proofs.YtailoobjgbldgaaGreatDoor.P
end
