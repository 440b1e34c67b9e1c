/- Part 6 of the proof: functions' contracts and what they lean on. -/
import Derived.Test.YtailoobjgbldgaaGreatDoorM5
import Derived.Lib.AtoiErrMem
section
namespace Go.Proofs.YtailoobjgbldgaaGreatDoor.P
set_option linter.unusedVariables false
set_option linter.unusedSimpArgs false
open Go Go.RowKit Go.Proofs.YtailoobjgbldgaaGreatDoorW.PrintWords Go.Proofs.YtailoobjgbldgaaGreatDoorW.PrintLast Go.Proofs.YtailoobjgbldgaaGreatDoorW.PrintMore
def dCanonical.f (a : ByteArray) : Option Bool := if a.size ≤ 1000000000 then some (canonN a.data.toList) else none
set_option maxRecDepth 100000 in
set_option maxHeartbeats 2000000 in
theorem dCanonical.calls (a0 : ByteArray) (r : Bool) (w : World) (h : dCanonical.f a0 = some r) :
    Calls Tryz.prog 117 #[.string a0] w fun e w' => e = .returned (.bool r) ∧ Below w.heap.size w w' := by
  unfold dCanonical.f at h
  by_cases hsz : a0.size ≤ 1000000000
  case neg => rw [if_neg hsz] at h; cases h
  rw [if_pos hsz] at h
  injection h with h
  have hcv := Lib.run_convert_string_bytes (P := Tryz.prog) w 28 142 5 a0 (u := .string) Tryz.underlying28 Tryz.underlying142 Tryz.underlying5
  have hB : ∀ j, j < a0.size → (Lib.bytesWorld w 5 a0).cell? ⟨w.heap.size, j, none⟩ = some (.int .u8 (a0.data.toList.getD j 0).toNat) := fun j hj => Lib.bytesWorld_cell w 5 a0 j hj
  have hb0 := Lib.bytesWorld_below w 5 a0
  obtain ⟨l, hL⟩ : ∃ l, l = a0.data.toList := ⟨_, rfl⟩
  have hLn : l.length = a0.size := by rw [hL, Lib.size_eq]
  obtain ⟨T, hT⟩ : ∃ T, T = (l.length == 1 || (decide (1 < l.length) && l.head? != some 48)) := ⟨_, rfl⟩
  have hr : (l.all isDig && T) = r := by rw [hT, ← h, hL]; rfl
  rw [← hL] at hB
  obtain ⟨W1, hW1⟩ : ∃ W1, W1 = Lib.bytesWorld w 5 a0 := ⟨_, rfl⟩
  rw [← hW1] at hcv hB hb0
  clear hW1
  go_enter Tryz.func117, Tryz.ntmps117
  go_wp2
  go_loopw [8] (fun i wr => ∃ j : Nat, j ≤ l.length ∧ i = .int .i64 j ∧ ((l.drop j).all isDig && T) = r ∧ wr = W1)
    (fun i _ => l.length - (intOf i).toNat)
  case atStart => exact ⟨0, Nat.zero_le _, rfl, hr, rfl⟩
  case round =>
    obtain ⟨j, hj, rfl, ha, rfl⟩ := hrel
    by_cases hlt : j < a0.size
    · have hc := hB j hlt
      have hjl : j < a0.data.toList.length := by rw [← hL, hLn]; exact hlt
      rw [hL, List.drop_eq_getElem_cons hjl, List.all_cons] at ha
      have hg : a0.data.toList[j] = a0.data[j] := by simp
      rw [hg] at ha
      go_wp2
      · have hd : isDig a0.data[j] = false := by rw [Bool.eq_false_iff]; intro h; rw [isDig_iff] at h; omega
        rw [hd] at ha
        obtain rfl : false = r := by simpa using ha
        go_ret
        exact ⟨rfl, hb0⟩
      · have hd : isDig a0.data[j] = true := by rw [isDig_iff]; omega
        rw [hd, Bool.true_and, ← hL] at ha
        go_roundw
        case rel => exact ⟨j + 1, by omega, by simp [wrap64] <;> omega, ha, by trivial⟩
        case measure => simp [intOf, wrap64] <;> omega
      · have hd : isDig a0.data[j] = false := by rw [Bool.eq_false_iff]; intro h; rw [isDig_iff] at h; omega
        rw [hd] at ha
        obtain rfl : false = r := by simpa using ha
        go_ret
        exact ⟨rfl, hb0⟩
    · obtain rfl : j = l.length := by omega
      simp only [List.drop_length, List.all_nil, Bool.true_and] at ha
      go_wp2
      · have h1 : l.length = 1 := by omega
        rw [hT, h1] at ha
        obtain rfl : true = r := by simpa using ha
        go_ret
        exact ⟨rfl, hb0⟩
      · have h1 : 1 < l.length := by omega
        have hq : T = ((a0[0].toNat : Int) != 48) := by
          rw [hT]
          cases l with
          | nil => simp at h1
          | cons c cs =>
            have hc : a0[0] = c := by
              have : a0.data.toList[0]'(by rw [← hL]; simp) = c := by simp [← hL]
              show a0.data[0] = c
              simpa using this
            rw [hc]
            have e1 : ((c :: cs).length == 1) = false := by rw [beq_eq_false_iff_ne]; omega
            have e2 : decide (1 < (c :: cs).length) = true := decide_eq_true h1
            have h4 : ((c.toNat : Int) != 48) = (some c != some (48 : UInt8)) := by
              rw [Bool.eq_iff_iff]
              simp only [bne_iff_ne, ne_eq, Option.some.injEq]
              refine not_congr ⟨fun h => UInt8.toNat_inj.1 (by simpa using (by omega : c.toNat = 48)), fun h => by rw [h]; rfl⟩
            rw [h4, e1, e2]
            rfl
        rw [hq] at ha
        have he : ((a0.size : Int) == 1) = false := by rw [beq_eq_false_iff_ne]; omega
        go_ret
        exact ⟨by rw [he, Bool.false_or, ha]; rfl, hb0⟩
      · have h1 : l.length = 0 := by omega
        rw [hT, h1] at ha
        obtain rfl : false = r := by simpa using ha
        have he : ((a0.size : Int) == 1) = false := by rw [beq_eq_false_iff_ne]; omega
        go_ret
        exact ⟨by rw [he]; rfl, hb0⟩
end Go.Proofs.YtailoobjgbldgaaGreatDoor.P
end
section
namespace Go.Proofs.YtailoobjgbldgaaGreatDoor.P
open Go.RowKit Go.Proofs.YtailoobjgbldgaaGreatDoorW.PrintWords Go.Proofs.YtailoobjgbldgaaGreatDoorW.PrintLast Go.Proofs.YtailoobjgbldgaaGreatDoorW.PrintMore
attribute [local go_sem] max2_int min2_int max_two min_two max_three min_three max_four min_four   
set_option linter.unusedVariables false
set_option linter.unusedSimpArgs false
def decimal_Check.f (a0 : ByteArray) : Option (Int) := (dCanonical.f a0).bind fun t101 => (if t101 = true then (if (a0.size : Int) > 400 then (some 2) else (some 0)) else (some 2))
set_option maxHeartbeats 8000000 in
set_option maxRecDepth 100000 in
theorem decimal_Check.calls (a0 : ByteArray) (r : Int) (w : World) (h : decimal_Check.f a0 = some r) :
  Calls Tryz.prog 77 #[.string a0] w fun e w' => e = .returned (.int .i64 r) ∧ Below w.heap.size w w' := by
 have HB := Aside0.mk (Below.refl w.heap.size w)
 have H : ((dCanonical.f a0).bind fun t101 => (if t101 = true then (if (a0.size : Int) > 400 then (some 2) else (some 0)) else (some 2))) = some r := h
 clear h
 replace H := Option.bind_eq_some_iff.mp H
 obtain ⟨t101, A20, H⟩ := H
 replace H : (if t101 = true then (if (a0.size : Int) > 400 then (some 2) else (some 0)) else (some 2)) = some r := H
 have A2 := Aside0.mk A20
 clear A20
 by_cases c3 : t101 = true
 ·subst c3
  have H1 : (if (a0.size : Int) > 400 then (some 2) else (some 0)) = some r := by rw [if_pos rfl] at H; exact H
  clear H
  have H := H1
  clear H1
  by_cases c4 : (a0.size : Int) > 400
  ·rw [if_pos c4] at H
   have c4b0 : decide (400 < (a0.size : Int)) = true := decide_eq_true c4
   have c4b1 : decide (400 < a0.size) = true := decide_eq_true (by omega)
   clear c4
   obtain rfl := Option.some.inj H
   go_enter Tryz.func77, Tryz.ntmps77
   go_wp2_with (first | ((with_reducible refine gate_callee (f := 117) rfl ?_); refine goesM (some 4) Tryz.func117 #[.string a0] ?_; (with_reducible refine (dCanonical.calls a0 true _ A2.out).mono ?_); rintro e w5 ⟨rfl, hb⟩; refine ⟨_, rfl, ?_⟩; replace HB := Aside0.mk (below_step (bl HB) hb); (try clear hb); (try clear hb2); (try clear hk); (try clear hi)))
   go_ret
   exact ⟨rl, bl HB⟩
  ·rw [if_neg c4] at H
   have c4b0 : decide (400 < (a0.size : Int)) = false := decide_eq_false c4
   have c4b1 : decide (400 < a0.size) = false := decide_eq_false (by omega)
   clear c4
   obtain rfl := Option.some.inj H
   go_enter Tryz.func77, Tryz.ntmps77
   go_wp2_with (first | ((with_reducible refine gate_callee (f := 117) rfl ?_); refine goesM (some 4) Tryz.func117 #[.string a0] ?_; (with_reducible refine (dCanonical.calls a0 true _ A2.out).mono ?_); rintro e w6 ⟨rfl, hb⟩; refine ⟨_, rfl, ?_⟩; replace HB := Aside0.mk (below_step (bl HB) hb); (try clear hb); (try clear hb2); (try clear hk); (try clear hi)))
   go_ret
   exact ⟨rl, bl HB⟩
 ·replace c3 := Bool.eq_false_iff.mpr c3
  subst c3
  have H1 : (some 2) = some r := by rw [if_neg (show ¬ (false = true) by decide)] at H; exact H
  clear H
  have H := H1
  clear H1
  obtain rfl := Option.some.inj H
  go_enter Tryz.func77, Tryz.ntmps77
  go_wp2_with (first | ((with_reducible refine gate_callee (f := 117) rfl ?_); refine goesM (some 4) Tryz.func117 #[.string a0] ?_; (with_reducible refine (dCanonical.calls a0 false _ A2.out).mono ?_); rintro e w7 ⟨rfl, hb⟩; refine ⟨_, rfl, ?_⟩; replace HB := Aside0.mk (below_step (bl HB) hb); (try clear hb); (try clear hb2); (try clear hk); (try clear hi)))
  go_ret
  exact ⟨rl, bl HB⟩
def whole_Check.f (a0 : ByteArray) : Option (Int) := (whole_split.f a0).bind fun bt102 => (if bt102.1 = true then (if bt102.2.toList = ([48] : List UInt8) then (some 2) else ((decimal_Check.f bt102.2).bind fun t104 => (if t104 = 0 then (some 0) else (some 2)))) else ((decimal_Check.f bt102.2).bind fun t105 => (if t105 = 0 then (some 0) else (some 2))))
set_option maxHeartbeats 8000000 in
set_option maxRecDepth 100000 in
theorem whole_Check.calls (a0 : ByteArray) (r : Int) (w : World) (h : whole_Check.f a0 = some r) :
  Calls Tryz.prog 33 #[.string a0] w fun e w' => e = .returned (.int .i64 r) ∧ Below w.heap.size w w' := by
 have HB := Aside0.mk (Below.refl w.heap.size w)
 have H : ((whole_split.f a0).bind fun bt102 => (if bt102.1 = true then (if bt102.2.toList = ([48] : List UInt8) then (some 2) else ((decimal_Check.f bt102.2).bind fun t104 => (if t104 = 0 then (some 0) else (some 2)))) else ((decimal_Check.f bt102.2).bind fun t105 => (if t105 = 0 then (some 0) else (some 2))))) = some r := h
 clear h
 replace H := Option.bind_eq_some_iff.mp H
 obtain ⟨⟨t102, t103⟩, A20, H⟩ := H
 replace H : (if t102 = true then (if t103.toList = ([48] : List UInt8) then (some 2) else ((decimal_Check.f t103).bind fun t104 => (if t104 = 0 then (some 0) else (some 2)))) else ((decimal_Check.f t103).bind fun t105 => (if t105 = 0 then (some 0) else (some 2)))) = some r := H
 have A2 := Aside0.mk A20
 clear A20
 by_cases c3 : t102 = true
 ·subst c3
  have H1 : (if t103.toList = ([48] : List UInt8) then (some 2) else ((decimal_Check.f t103).bind fun t104 => (if t104 = 0 then (some 0) else (some 2)))) = some r := by rw [if_pos rfl] at H; exact H
  clear H
  have H := H1
  clear H1
  by_cases c4 : t103.toList = ([48] : List UInt8)
  ·rw [if_pos c4] at H
   have c4b0 : (t103.toList == ([48] : List UInt8)) = true := beq_iff_eq.mpr c4
   have c4b1 : (t103.toList != ([48] : List UInt8)) = false := bne_eq_false_iff_eq.mpr c4
   clear c4
   obtain rfl := Option.some.inj H
   go_enter Tryz.func33, Tryz.ntmps33
   go_wp2_with (first | ((with_reducible refine gate_callee (f := 76) rfl ?_); refine goesM (some 7) Tryz.func76 #[.string a0] ?_; (with_reducible refine (whole_split.calls a0 true t103 _ A2.out).mono ?_); rintro e w' ⟨rfl, ⟨nd, rfl⟩⟩; refine ⟨_, rfl, ?_⟩))
   go_ret
   exact ⟨rl, bl HB⟩
  ·rw [if_neg c4] at H
   have c4b0 : (t103.toList == ([48] : List UInt8)) = false := beq_eq_false_iff_ne.mpr c4
   have c4b1 : (t103.toList != ([48] : List UInt8)) = true := bne_iff_ne.mpr c4
   replace H := Option.bind_eq_some_iff.mp H
   obtain ⟨t104, A50, H⟩ := H
   replace H : (if t104 = 0 then (some 0) else (some 2)) = some r := H
   have A5 := Aside0.mk A50
   clear A50
   by_cases c6 : t104 = 0
   ·rw [if_pos c6] at H
    have c6b0 : (t104 == 0) = true := beq_iff_eq.mpr c6
    have c6b1 : (t104 != 0) = false := bne_eq_false_iff_eq.mpr c6
    clear c6
    obtain rfl := Option.some.inj H
    go_enter Tryz.func33, Tryz.ntmps33
    go_wp2_with (first | ((with_reducible refine gate_callee (f := 76) rfl ?_); refine goesM (some 7) Tryz.func76 #[.string a0] ?_; (with_reducible refine (whole_split.calls a0 true t103 _ A2.out).mono ?_); rintro e w' ⟨rfl, ⟨nd, rfl⟩⟩; refine ⟨_, rfl, ?_⟩) | (go_at_call 77; (with_reducible refine (decimal_Check.calls t103 t104 _ A5.out).mono ?_); rintro e w7 ⟨rfl, hb⟩; replace HB := Aside0.mk (below_step (bl HB) hb); (try clear hb); (try clear hb2); (try clear hk); (try clear hi)))
    go_ret
    exact ⟨rl, bl HB⟩
   ·rw [if_neg c6] at H
    have c6b0 : (t104 == 0) = false := beq_eq_false_iff_ne.mpr c6
    have c6b1 : (t104 != 0) = true := bne_iff_ne.mpr c6
    obtain rfl := Option.some.inj H
    go_enter Tryz.func33, Tryz.ntmps33
    go_wp2_with (first | ((with_reducible refine gate_callee (f := 76) rfl ?_); refine goesM (some 7) Tryz.func76 #[.string a0] ?_; (with_reducible refine (whole_split.calls a0 true t103 _ A2.out).mono ?_); rintro e w' ⟨rfl, ⟨nd, rfl⟩⟩; refine ⟨_, rfl, ?_⟩) | (go_at_call 77; (with_reducible refine (decimal_Check.calls t103 t104 _ A5.out).mono ?_); rintro e w8 ⟨rfl, hb⟩; replace HB := Aside0.mk (below_step (bl HB) hb); (try clear hb); (try clear hb2); (try clear hk); (try clear hi)))
    go_ret
    exact ⟨rl, bl HB⟩
 ·replace c3 := Bool.eq_false_iff.mpr c3
  subst c3
  have H1 : ((decimal_Check.f t103).bind fun t105 => (if t105 = 0 then (some 0) else (some 2))) = some r := by rw [if_neg (show ¬ (false = true) by decide)] at H; exact H
  clear H
  have H := H1
  clear H1
  replace H := Option.bind_eq_some_iff.mp H
  obtain ⟨t105, A90, H⟩ := H
  replace H : (if t105 = 0 then (some 0) else (some 2)) = some r := H
  have A9 := Aside0.mk A90
  clear A90
  by_cases c10 : t105 = 0
  ·rw [if_pos c10] at H
   have c10b0 : (t105 == 0) = true := beq_iff_eq.mpr c10
   have c10b1 : (t105 != 0) = false := bne_eq_false_iff_eq.mpr c10
   clear c10
   obtain rfl := Option.some.inj H
   go_enter Tryz.func33, Tryz.ntmps33
   go_wp2_with (first | ((with_reducible refine gate_callee (f := 76) rfl ?_); refine goesM (some 7) Tryz.func76 #[.string a0] ?_; (with_reducible refine (whole_split.calls a0 false t103 _ A2.out).mono ?_); rintro e w' ⟨rfl, ⟨nd, rfl⟩⟩; refine ⟨_, rfl, ?_⟩) | (go_at_call 77; (with_reducible refine (decimal_Check.calls t103 t105 _ A9.out).mono ?_); rintro e w11 ⟨rfl, hb⟩; replace HB := Aside0.mk (below_step (bl HB) hb); (try clear hb); (try clear hb2); (try clear hk); (try clear hi)))
   go_ret
   exact ⟨rl, bl HB⟩
  ·rw [if_neg c10] at H
   have c10b0 : (t105 == 0) = false := beq_eq_false_iff_ne.mpr c10
   have c10b1 : (t105 != 0) = true := bne_iff_ne.mpr c10
   obtain rfl := Option.some.inj H
   go_enter Tryz.func33, Tryz.ntmps33
   go_wp2_with (first | ((with_reducible refine gate_callee (f := 76) rfl ?_); refine goesM (some 7) Tryz.func76 #[.string a0] ?_; (with_reducible refine (whole_split.calls a0 false t103 _ A2.out).mono ?_); rintro e w' ⟨rfl, ⟨nd, rfl⟩⟩; refine ⟨_, rfl, ?_⟩) | (go_at_call 77; (with_reducible refine (decimal_Check.calls t103 t105 _ A9.out).mono ?_); rintro e w12 ⟨rfl, hb⟩; replace HB := Aside0.mk (below_step (bl HB) hb); (try clear hb); (try clear hb2); (try clear hk); (try clear hi)))
   go_ret
   exact ⟨rl, bl HB⟩
def whole_Sign.f (a0 : ByteArray) : Option (Int) := if a0.toList = ([48] : List UInt8) then (some 0) else (if 0 < (a0.size : Int) then (if (bt a0 0) = 45 then (some (-1)) else (some 1)) else (none))
set_option maxHeartbeats 8000000 in
set_option maxRecDepth 100000 in
theorem whole_Sign.calls (a0 : ByteArray) (r : Int) (w : World) (h : whole_Sign.f a0 = some r) :
  Calls Tryz.prog 54 #[.string a0] w fun e w' => e = .returned (.int .i64 r) ∧ Drawn0 w w' := by
 have H : (if a0.toList = ([48] : List UInt8) then (some 0) else (if 0 < (a0.size : Int) then (if (bt a0 0) = 45 then (some (-1)) else (some 1)) else (none))) = some r := h
 clear h
 by_cases c2 : a0.toList = ([48] : List UInt8)
 ·rw [if_pos c2] at H
  have c2b0 : (a0.toList == ([48] : List UInt8)) = true := beq_iff_eq.mpr c2
  have c2b1 : (a0.toList != ([48] : List UInt8)) = false := bne_eq_false_iff_eq.mpr c2
  clear c2
  obtain rfl := Option.some.inj H
  go_enter Tryz.func54, Tryz.ntmps54
  go_wp2
  go_ret
  exact ⟨by first | rfl | (simp; done) | (simp [*]; done), by repeat (first | exact Drawn0.refl _ | apply Drawn0.step)⟩
 ·rw [if_neg c2] at H
  have c2b0 : (a0.toList == ([48] : List UInt8)) = false := beq_eq_false_iff_ne.mpr c2
  have c2b1 : (a0.toList != ([48] : List UInt8)) = true := bne_iff_ne.mpr c2
  by_cases c3 : 0 < (a0.size : Int)
  ·rw [if_pos c3] at H
   have c3b0 : decide (0 < (a0.size : Int)) = true := decide_eq_true c3
   have c3b1 : decide (0 < a0.size) = true := decide_eq_true (by omega)
   clear c3
   by_cases c5 : (bt a0 0) = 45
   ·rw [if_pos c5] at H
    have c5b0 : ((bt a0 0) == 45) = true := beq_iff_eq.mpr c5
    have c5b1 : ((bt a0 0) != 45) = false := bne_eq_false_iff_eq.mpr c5
    clear c5
    obtain rfl := Option.some.inj H
    have p4 : 0 ≤ (0 : Int) := (by omega)
    have q4 : 0 < a0.size := (by have : (0 : Int) < (a0.size : Int) := of_decide_eq_true (by first | (with_reducible assumption) | assumption); omega)
    have hx4 : ∀ h : 0 < a0.size, ((a0[0]'h).toNat : Int) = bt a0 0 := bt_at a0 0
    clear p4
    have qi4 : (0 < (a0.size : Int)) = True := eq_true (of_decide_eq_true (by first | (with_reducible assumption) | assumption))
    replace q4 := eq_true q4
    go_enter Tryz.func54, Tryz.ntmps54
    go_wp2
    go_ret
    exact ⟨by first | rfl | (simp; done) | (simp [*]; done), by repeat (first | exact Drawn0.refl _ | apply Drawn0.step)⟩
   ·rw [if_neg c5] at H
    have c5b0 : ((bt a0 0) == 45) = false := beq_eq_false_iff_ne.mpr c5
    have c5b1 : ((bt a0 0) != 45) = true := bne_iff_ne.mpr c5
    obtain rfl := Option.some.inj H
    have p4 : 0 ≤ (0 : Int) := (by omega)
    have q4 : 0 < a0.size := (by have : (0 : Int) < (a0.size : Int) := of_decide_eq_true (by first | (with_reducible assumption) | assumption); omega)
    have hx4 : ∀ h : 0 < a0.size, ((a0[0]'h).toNat : Int) = bt a0 0 := bt_at a0 0
    clear p4
    have qi4 : (0 < (a0.size : Int)) = True := eq_true (of_decide_eq_true (by first | (with_reducible assumption) | assumption))
    replace q4 := eq_true q4
    go_enter Tryz.func54, Tryz.ntmps54
    go_wp2
    go_ret
    exact ⟨by first | rfl | (simp; done) | (simp [*]; done), by repeat (first | exact Drawn0.refl _ | apply Drawn0.step)⟩
  ·rw [if_neg c3] at H
   exact absurd H (by simp)
def whole_Abs.f (a0 : ByteArray) : Option (ByteArray) := (whole_split.f a0).bind fun bt106 => (some bt106.2)
set_option maxHeartbeats 8000000 in
set_option maxRecDepth 100000 in
theorem whole_Abs.calls (a0 : ByteArray) (r : ByteArray) (w : World) (h : whole_Abs.f a0 = some r) :
  Calls Tryz.prog 63 #[.string a0] w fun e w' => e = .returned (.string r) ∧ Drawn0 w w' := by
 have H : ((whole_split.f a0).bind fun bt106 => (some bt106.2)) = some r := h
 clear h
 replace H := Option.bind_eq_some_iff.mp H
 obtain ⟨⟨t106, t107⟩, A20, H⟩ := H
 replace H : (some t107) = some r := H
 have A2 := Aside0.mk A20
 clear A20
 obtain rfl := Option.some.inj H
 go_enter Tryz.func63, Tryz.ntmps63
 go_wp2_with (first | ((with_reducible refine gate_callee (f := 76) rfl ?_); refine goesM (some 7) Tryz.func76 #[.string a0] ?_; (with_reducible refine (whole_split.calls a0 t106 t107 _ A2.out).mono ?_); rintro e w' ⟨rfl, ⟨nd, rfl⟩⟩; refine ⟨_, rfl, ?_⟩))
 go_ret
 exact ⟨by first | rfl | (simp; done) | (simp [*]; done), by repeat (first | exact Drawn0.refl _ | apply Drawn0.step)⟩
end Go.Proofs.YtailoobjgbldgaaGreatDoor.P
end
section
namespace Go.Proofs.YtailoobjgbldgaaGreatDoor.P
open Go.RowKit Go.Proofs.YtailoobjgbldgaaGreatDoorW.PrintWords Go.Proofs.YtailoobjgbldgaaGreatDoorW.PrintLast Go.Proofs.YtailoobjgbldgaaGreatDoorW.PrintMore
attribute [local go_sem] max2_int min2_int max_two min_two max_three min_three max_four min_four   
set_option linter.unusedVariables false
set_option linter.unusedSimpArgs false
def whole_Of.f (a0 : Int) : Option (ByteArray) := (goItoa.f a0).bind fun t108 => (some t108)
set_option maxHeartbeats 8000000 in
set_option maxRecDepth 100000 in
theorem whole_Of.calls (a0 : Int) (r : ByteArray) (w : World) (hG : Glob w) (h : whole_Of.f a0 = some r) :
  Calls Tryz.prog 97 #[.int .i64 a0] w fun e w' => e = .returned (.string r) ∧ Below w.heap.size w w' := by
 have HG0 := Aside0.mk hG
 clear hG
 have HB := Aside0.mk (Below.refl w.heap.size w)
 have H : ((goItoa.f a0).bind fun t108 => (some t108)) = some r := h
 clear h
 replace H := Option.bind_eq_some_iff.mp H
 obtain ⟨t108, A20, H⟩ := H
 replace H : (some t108) = some r := H
 have A2 := Aside0.mk A20
 clear A20
 obtain rfl := Option.some.inj H
 go_enter Tryz.func97, Tryz.ntmps97
 go_wp2_with (first | ((with_reducible refine gate_callee (f := 89) rfl ?_); refine goesM (some 4) Tryz.func89 #[.int .i64 a0] ?_; (with_reducible refine (goItoa.calls a0 t108 _ ?side1 A2.out).mono ?_); (case side1 => exact Glob.below HG0.out (bl HB)); rintro e w3 ⟨rfl, hb⟩; refine ⟨_, rfl, ?_⟩; replace HB := Aside0.mk (below_step (bl HB) hb); (try clear hb); (try clear hb2); (try clear hk); (try clear hi)))
 go_ret
 exact ⟨rl, bl HB⟩
def whole_gcd.l0 : Nat → Int → Int → Option (Int)
 | 0, _, _ => none
 | k + 1, x0, x1 => if x1 = 0 then (some x0) else (whole_gcd.l0 k x1 (Int.tmod x0 x1))
def whole_gcd.f (k : Nat) (a0 : Int) (a1 : Int) : Option (Int) := whole_gcd.l0 k a0 a1
set_option maxHeartbeats 8000000 in
set_option maxRecDepth 100000 in
theorem whole_gcd.calls (k : Nat) (a0 : Int) (a1 : Int) (r : Int) (w : World) (h : whole_gcd.f k a0 a1 = some r) :
  Calls Tryz.prog 98 #[.int .i64 a0, .int .i64 a1] w fun e w' => e = .returned (.int .i64 r) ∧ Drawn0 w w' := by
 have H : (whole_gcd.l0 k a0 a1) = some r := h
 clear h
 have H' := Aside0.mk H
 clear H
 go_enter Tryz.func98, Tryz.ntmps98
 go_wp2
 repeat (go_quiet (fail); try go_wp2)
 go_loopg [0, 1] k (fun kq v0 v1 w' => ∃ (x0_1 : Int) (x1_1 : Int), v0 = .int .i64 x0_1 ∧ v1 = .int .i64 x1_1 ∧ Aside0 (whole_gcd.l0 kq x0_1 x1_1 = some r) ∧ Aside0 (kq ≤ k) ∧ Drawn0 w w')
 case atStart => exact ⟨(a0), (a1), rs, rs, H', ⟨Nat.le_refl _⟩, by repeat (first | exact Drawn0.refl _ | apply Drawn0.step)⟩
 case round =>
  clear H'
  try clear p2
  obtain ⟨x0_1, x1_1, rfl, rfl, HA, HK1, ⟨m1, rfl⟩⟩ := hrel
  cases gk with
  | zero => exact absurd HA.out (by simp [whole_gcd.l0])
  | succ k1 =>
   have H := HA.out
   clear HA
   simp only [whole_gcd.l0] at H
   by_cases c3 : x1_1 = 0
   ·rw [if_pos c3] at H
    have c3b0 : (x1_1 == 0) = true := beq_iff_eq.mpr c3
    have c3b1 : (x1_1 != 0) = false := bne_eq_false_iff_eq.mpr c3
    clear c3
    obtain rfl := Option.some.inj H
    go_wp2
    repeat (go_quiet (fail); try go_wp2)
    go_ret
    exact ⟨by first | rfl | (simp; done) | (simp [*]; done), by repeat (first | exact Drawn0.refl _ | apply Drawn0.step)⟩
   ·rw [if_neg c3] at H
    have c3b0 : (x1_1 == 0) = false := beq_eq_false_iff_ne.mpr c3
    have c3b1 : (x1_1 != 0) = true := bne_iff_ne.mpr c3
    have H' := Aside0.mk H
    clear H
    go_wp2
    repeat (go_quiet (fail); try go_wp2)
    go_roundg k1
    case measure => have := HK1.out; omega
    case rel => exact ⟨(x1_1), (Int.tmod x0_1 x1_1), rs, rs, H', ⟨by have := HK1.out; omega⟩, by repeat (first | exact Drawn0.refl _ | apply Drawn0.step)⟩
end Go.Proofs.YtailoobjgbldgaaGreatDoor.P
end
section
namespace Go.Proofs.YtailoobjgbldgaaGreatDoor.P
open Go.RowKit Go.Proofs.YtailoobjgbldgaaGreatDoorW.PrintWords Go.Proofs.YtailoobjgbldgaaGreatDoorW.PrintLast Go.Proofs.YtailoobjgbldgaaGreatDoorW.PrintMore
attribute [local go_sem] max2_int min2_int max_two min_two max_three min_three max_four min_four   
set_option linter.unusedVariables false
set_option linter.unusedSimpArgs false
def decimal_Of.f (a0 : Int) : Option (ByteArray) := (goFormatUint.f a0 10).bind fun t109 => (some t109)
set_option maxHeartbeats 8000000 in
set_option maxRecDepth 100000 in
theorem decimal_Of.calls (a0 : Int) (r : ByteArray) (w : World) (hG : Glob w) (h : decimal_Of.f a0 = some r) :
  Calls Tryz.prog 122 #[.int .u64 a0] w fun e w' => e = .returned (.string r) ∧ Below w.heap.size w w' := by
 have HG0 := Aside0.mk hG
 clear hG
 have HB := Aside0.mk (Below.refl w.heap.size w)
 have H : ((goFormatUint.f a0 10).bind fun t109 => (some t109)) = some r := h
 clear h
 replace H := Option.bind_eq_some_iff.mp H
 obtain ⟨t109, A20, H⟩ := H
 replace H : (some t109) = some r := H
 have A2 := Aside0.mk A20
 clear A20
 obtain rfl := Option.some.inj H
 go_enter Tryz.func122, Tryz.ntmps122
 go_wp2_with (first | ((with_reducible refine gate_callee (f := 146) rfl ?_); refine goesM (some 4) Tryz.func146 #[.int .u64 a0, .int .i64 10] ?_; (with_reducible refine (goFormatUint.calls a0 10 t109 _ ?side1 A2.out).mono ?_); (case side1 => exact Glob.below HG0.out (bl HB)); rintro e w3 ⟨rfl, hb⟩; refine ⟨_, rfl, ?_⟩; replace HB := Aside0.mk (below_step (bl HB) hb); (try clear hb); (try clear hb2); (try clear hk); (try clear hi)))
 go_ret
 exact ⟨rl, bl HB⟩
end Go.Proofs.YtailoobjgbldgaaGreatDoor.P
end
section
namespace Go.Proofs.YtailoobjgbldgaaGreatDoor.P
open Go.RowKit Go.Proofs.YtailoobjgbldgaaGreatDoorW.PrintWords Go.Proofs.YtailoobjgbldgaaGreatDoorW.PrintLast Go.Proofs.YtailoobjgbldgaaGreatDoorW.PrintMore
attribute [local go_sem] max2_int min2_int max_two min_two max_three min_three max_four min_four   
set_option linter.unusedVariables false
set_option linter.unusedSimpArgs false
def decimal_both.j0 : Nat → ByteArray → ByteArray → Bool → Option (Int × Int × Bool)
 | 0, _, _, _ => none
 | k + 1, x0, x1, x14 => if x14 = true then (some (0, 0, false)) else ((dSmall.f x0).bind fun bt110 => ((dSmall.f x1).bind fun bt112 => (some (bt110.1, bt112.1, true))))
def decimal_both.f (k : Nat) (a0 : ByteArray) (a1 : ByteArray) : Option (Int × Int × Bool) := if (a0.size : Int) > 18 then (decimal_both.j0 k a0 a1 true) else (decimal_both.j0 k a0 a1 (decide ((a1.size : Int) > 18)))
set_option maxHeartbeats 8000000 in
set_option maxRecDepth 100000 in
theorem decimal_both.calls (k : Nat) (a0 : ByteArray) (a1 : ByteArray) (r1 : Int) (r2 : Int) (r3 : Bool) (w : World) (hG : Glob w) (h : decimal_both.f k a0 a1 = some (r1, r2, r3)) :
  Calls Tryz.prog 141 #[.string a0, .string a1] w fun e w' => e = .returned (.tuple #[.int .u64 r1, .int .u64 r2, .bool r3]) ∧ Below w.heap.size w w' := by
 have HG0 := Aside0.mk hG
 clear hG
 have HB := Aside0.mk (Below.refl w.heap.size w)
 have H : (if (a0.size : Int) > 18 then (decimal_both.j0 k a0 a1 true) else (decimal_both.j0 k a0 a1 (decide ((a1.size : Int) > 18)))) = some (r1, r2, r3) := h
 clear h
 have HC3 := Aside0.mk H
 clear H
 go_enter Tryz.func141, Tryz.ntmps141
 go_upto_region 1 with (fail)
 go_cut [14] (fun v14 wc => ∃ (kq : Nat) (x14_2 : Bool), v14 = .bool x14_2 ∧ Aside0 (decimal_both.j0 kq a0 a1 x14_2 = some (r1, r2, r3)) ∧ Aside0 (kq ≤ k) ∧ Aside0 (Below w.heap.size w wc))
 case first =>
  have H := HC3.out
  clear HC3
  by_cases c4 : (a0.size : Int) > 18
  ·rw [if_pos c4] at H
   have c4b0 : decide (18 < (a0.size : Int)) = true := decide_eq_true c4
   have c4b1 : decide (18 < a0.size) = true := decide_eq_true (by omega)
   clear c4
   (first | rw [c4b0] | (simp only [i64_w, i32_w]; rw [c4b0]) | skip)
   have H' := Aside0.mk H
   clear H
   go_wp2
   go_meet
   case rel => exact ⟨_, (true), rs, H', ⟨by first | omega | exact Nat.le_refl _⟩, ⟨bl HB⟩⟩
  ·rw [if_neg c4] at H
   have c4b0 : decide (18 < (a0.size : Int)) = false := decide_eq_false c4
   have c4b1 : decide (18 < a0.size) = false := decide_eq_false (by omega)
   clear c4
   (first | rw [c4b0] | (simp only [i64_w, i32_w]; rw [c4b0]) | skip)
   have H' := Aside0.mk H
   clear H
   go_wp2
   go_meet
   case rel => exact ⟨_, (decide ((a1.size : Int) > 18)), rs, H', ⟨by first | omega | exact Nat.le_refl _⟩, ⟨bl HB⟩⟩
 case rest =>
  clear HC3
  try clear c1
  try clear p2
  try clear c4
  try clear c4b0
  try clear c4b1
  obtain ⟨kq, x14_2, rfl, HA, HJ2, HB⟩ := hcut
  cases kq with
  | zero => exact absurd HA.out (by simp [decimal_both.j0])
  | succ kj2 =>
   have H := HA.out
   clear HA
   simp only [decimal_both.j0] at H
   by_cases c5 : x14_2 = true
   ·subst c5
    have H1 : (some (0, 0, false)) = some (r1, r2, r3) := by rw [if_pos rfl] at H; exact H
    clear H
    have H := H1
    clear H1
    simp only [Option.some.injEq, Prod.mk.injEq] at H
    obtain ⟨rfl, rfl, rfl⟩ := H
    go_wp2
    go_ret3
    exact ⟨rl, bl HB⟩
   ·replace c5 := Bool.eq_false_iff.mpr c5
    subst c5
    have H1 : ((dSmall.f a0).bind fun bt110 => ((dSmall.f a1).bind fun bt112 => (some (bt110.1, bt112.1, true)))) = some (r1, r2, r3) := by rw [if_neg (show ¬ (false = true) by decide)] at H; exact H
    clear H
    have H := H1
    clear H1
    replace H := Option.bind_eq_some_iff.mp H
    obtain ⟨⟨t110, t111⟩, A60, H⟩ := H
    replace H : ((dSmall.f a1).bind fun bt112 => (some (t110, bt112.1, true))) = some (r1, r2, r3) := H
    have A6 := Aside0.mk A60
    clear A60
    replace H := Option.bind_eq_some_iff.mp H
    obtain ⟨⟨t112, t113⟩, A70, H⟩ := H
    replace H : (some (t110, t112, true)) = some (r1, r2, r3) := H
    have A7 := Aside0.mk A70
    clear A70
    simp only [Option.some.injEq, Prod.mk.injEq] at H
    obtain ⟨rfl, rfl, rfl⟩ := H
    go_wp2_with (first | ((with_reducible refine gate_callee (f := 165) rfl ?_); refine goesM (some 17) Tryz.func165 #[.string a0] ?_; (with_reducible refine (dSmall.calls a0 t110 t111 _ ?side1 A6.out).mono ?_); (case side1 => exact Glob.below HG0.out (bl HB)); rintro e w8 ⟨rfl, hb⟩; refine ⟨_, rfl, ?_⟩; replace HB := Aside0.mk (below_step (bl HB) hb); (try clear hb); (try clear hb2); (try clear hk); (try clear hi)) | ((with_reducible refine gate_callee (f := 165) rfl ?_); refine goesM (some 22) Tryz.func165 #[.string a1] ?_; (with_reducible refine (dSmall.calls a1 t112 t113 _ ?side1 A7.out).mono ?_); (case side1 => exact Glob.below HG0.out (bl HB)); rintro e w9 ⟨rfl, hb⟩; refine ⟨_, rfl, ?_⟩; replace HB := Aside0.mk (below_step (bl HB) hb); (try clear hb); (try clear hb2); (try clear hk); (try clear hi)))
    go_ret3
    exact ⟨rl, bl HB⟩
end Go.Proofs.YtailoobjgbldgaaGreatDoor.P
end
section
namespace Go.Proofs.YtailoobjgbldgaaGreatDoor.P
open Go.RowKit Go.Proofs.YtailoobjgbldgaaGreatDoorW.PrintWords Go.Proofs.YtailoobjgbldgaaGreatDoorW.PrintLast Go.Proofs.YtailoobjgbldgaaGreatDoorW.PrintMore
attribute [local go_sem] max2_int min2_int max_two min_two max_three min_three max_four min_four   
set_option linter.unusedVariables false
set_option linter.unusedSimpArgs false
def decimal_DivMod.f (k : Nat) (a0 : ByteArray) (a1 : ByteArray) : Option (ByteArray × ByteArray × Int) := if a1.toList = ([48] : List UInt8) then (some ((⟨#[]⟩ : ByteArray), (⟨#[]⟩ : ByteArray), 17)) else ((decimal_both.f k a0 a1).bind fun bt114 => (if bt114.2.2 = true then (if bt114.2.1 = 0 then (none) else ((decimal_Of.f (IntKind.u64.wrap (Int.tdiv bt114.1 bt114.2.1))).bind fun t117 => ((decimal_Of.f (Int.tmod bt114.1 bt114.2.1)).bind fun t118 => (some (t117, t118, 0))))) else (none)))
def decimal_DivMod.T5 : Bool × List (List Nat × List Nat) := (true, [([], []), ([], []), ([0, 1], [0, 1]), ([2], [2]), ([], []), ([], []), ([4, 5], [4, 5]), ([6, 3], [6]), ([3, 7, 0, 1, 2, 3], [3]), ([7, 8, 0, 1, 2, 3, 4, 5, 6, 7, 8], [7]), ([9, 0, 1, 2, 3, 4, 5, 6, 7, 8, 9], [])])
def decimal_DivMod.B5 : List Nat := [0, 0, 3, 7, 0, 0, 48, 127, 255, 511, 1023]
theorem decimal_DivMod.tab5 : rtab .any (opsOf Tryz.f129 5) = decimal_DivMod.T5 := by kernel_rfl
theorem decimal_DivMod.bits5 : waitsOk decimal_DivMod.T5.2 decimal_DivMod.B5 = true := by kernel_rfl
set_option maxHeartbeats 8000000 in
set_option maxRecDepth 100000 in
theorem decimal_DivMod.calls (k : Nat) (a0 : ByteArray) (a1 : ByteArray) (r1 : ByteArray) (r2 : ByteArray) (r3 : Int) (w : World) (hG : Glob w) (h : decimal_DivMod.f k a0 a1 = some (r1, r2, r3)) :
  Calls Tryz.prog 129 #[.string a0, .string a1] w fun e w' => e = .returned (.tuple #[.string r1, .string r2, .int .i64 r3]) ∧ Below w.heap.size w w' := by
 have HG0 := Aside0.mk hG
 clear hG
 have HB := Aside0.mk (Below.refl w.heap.size w)
 have H : (if a1.toList = ([48] : List UInt8) then (some ((⟨#[]⟩ : ByteArray), (⟨#[]⟩ : ByteArray), 17)) else ((decimal_both.f k a0 a1).bind fun bt114 => (if bt114.2.2 = true then (if bt114.2.1 = 0 then (none) else ((decimal_Of.f (IntKind.u64.wrap (Int.tdiv bt114.1 bt114.2.1))).bind fun t117 => ((decimal_Of.f (Int.tmod bt114.1 bt114.2.1)).bind fun t118 => (some (t117, t118, 0))))) else (none)))) = some (r1, r2, r3) := h
 clear h
 by_cases c3 : a1.toList = ([48] : List UInt8)
 ·rw [if_pos c3] at H
  have c3b0 : (a1.toList == ([48] : List UInt8)) = true := beq_iff_eq.mpr c3
  have c3b1 : (a1.toList != ([48] : List UInt8)) = false := bne_eq_false_iff_eq.mpr c3
  clear c3
  simp only [Option.some.injEq, Prod.mk.injEq] at H
  obtain ⟨rfl, rfl, rfl⟩ := H
  go_enter Tryz.func129, Tryz.ntmps129
  go_wp2
  go_ret3
  exact ⟨rl, bl HB⟩
 ·rw [if_neg c3] at H
  have c3b0 : (a1.toList == ([48] : List UInt8)) = false := beq_eq_false_iff_ne.mpr c3
  have c3b1 : (a1.toList != ([48] : List UInt8)) = true := bne_iff_ne.mpr c3
  replace H := Option.bind_eq_some_iff.mp H
  obtain ⟨⟨t114, t115, t116⟩, A40, H⟩ := H
  replace H : (if t116 = true then (if t115 = 0 then (none) else ((decimal_Of.f (IntKind.u64.wrap (Int.tdiv t114 t115))).bind fun t117 => ((decimal_Of.f (Int.tmod t114 t115)).bind fun t118 => (some (t117, t118, 0))))) else (none)) = some (r1, r2, r3) := H
  have A4 := Aside0.mk A40
  clear A40
  by_cases c5 : t116 = true
  ·subst c5
   have H1 : (if t115 = 0 then (none) else ((decimal_Of.f (IntKind.u64.wrap (Int.tdiv t114 t115))).bind fun t117 => ((decimal_Of.f (Int.tmod t114 t115)).bind fun t118 => (some (t117, t118, 0))))) = some (r1, r2, r3) := by rw [if_pos rfl] at H; exact H
   clear H
   have H := H1
   clear H1
   by_cases c6 : t115 = 0
   ·rw [if_pos c6] at H
    exact absurd H (by simp)
   ·rw [if_neg c6] at H
    have c6b0 : (t115 == 0) = false := beq_eq_false_iff_ne.mpr c6
    have c6b1 : (t115 != 0) = true := bne_iff_ne.mpr c6
    replace H := Option.bind_eq_some_iff.mp H
    obtain ⟨t117, A70, H⟩ := H
    replace H : ((decimal_Of.f (Int.tmod t114 t115)).bind fun t118 => (some (t117, t118, 0))) = some (r1, r2, r3) := H
    have A7 := Aside0.mk A70
    clear A70
    replace H := Option.bind_eq_some_iff.mp H
    obtain ⟨t118, A80, H⟩ := H
    replace H : (some (t117, t118, 0)) = some (r1, r2, r3) := H
    have A8 := Aside0.mk A80
    clear A80
    simp only [Option.some.injEq, Prod.mk.injEq] at H
    obtain ⟨rfl, rfl, rfl⟩ := H
    go_enter Tryz.func129, Tryz.ntmps129
    try go_wp2_with (first | ((with_reducible refine gate_callee (f := 141) rfl ?_); refine goesM (some 21) Tryz.func141 #[.string a0, .string a1] ?_; (with_reducible refine (decimal_both.calls k a0 a1 t114 t115 true _ ?side1 A4.out).mono ?_); (case side1 => exact Glob.below HG0.out (bl HB)); rintro e w9 ⟨rfl, hb⟩; refine ⟨_, rfl, ?_⟩; replace HB := Aside0.mk (below_step (bl HB) hb); (try clear hb); (try clear hb2); (try clear hk); (try clear hi)))
    replace HB := Aside0.mk (below_drew1 HB.out)
    refine start_ (n := 11) (S := fun w' => True) (ds := []) #[false, false, false, false, false, false, false, false, false, false, false] (by kernel_rfl) rfl rfl trivial (fun hHeld => ?_); refine with_tabW decimal_DivMod.tab5 decimal_DivMod.bits5 (fun HT_ HW_ => ?_)
    generalize w9.drew = w10 at HB hHeld ⊢
    refine purM (i := 0) (N := some 26) #[true, false, false, false, false, false, false, false, false, false, false] ?_
    refine purM (i := 1) (N := some 27) #[true, true, false, false, false, false, false, false, false, false, false] ?_
    refine purM (i := 2) (N := some 28) #[true, true, true, false, false, false, false, false, false, false, false] ?_
    refine purM (i := 4) (N := some 30) #[true, true, true, false, true, false, false, false, false, false, false] ?_
    refine purM (i := 5) (N := some 31) #[true, true, true, false, true, true, false, false, false, false, false] ?_
    refine purM (i := 6) (N := some 32) #[true, true, true, false, true, true, true, false, false, false, false] ?_
    refine one_ (i := 3) (N := some 29) #[true, true, true, true, true, true, true, false, false, false, false] rfl rfl (one_of HT_.out (by kernel_rfl)) (by decide) (fun K hK => ?_)
    refine goesR Tryz.func122 #[.int .u64 (IntKind.u64.wrap (Int.tdiv t114 t115))] ?_
    with_reducible refine (decimal_Of.calls (IntKind.u64.wrap (Int.tdiv t114 t115)) t117 _ ?side1 A7.out).mono ?_
    (case side1 => exact Glob.below HG0.out (bl HB))
    rintro e w11 ⟨rfl, hb⟩
    refine ⟨_, rfl, ?_⟩
    replace HB := Aside0.mk (below_step (bl HB) hb)
    (try clear hb)
    (try clear hb2)
    (try clear hk)
    (try clear hi)
    refine hK.out _ _ trivial (fun hHeld => ?_)
    clear hK K
    refine norm_ (a' := ?_) ?_ ?_
    rotate_left
    ·show Act.put _ (some 29) _ = _
     simp only [Act.put, List.setIfInBounds_toArray, List.set_cons_zero, List.set_cons_succ, i64_w, i32_w]
     rfl
    refine one_ (i := 7) (N := some 33) #[true, true, true, true, true, true, true, true, false, false, false] rfl rfl (one_of HT_.out (by kernel_rfl)) (by decide) (fun K hK => ?_)
    refine goesR Tryz.func122 #[.int .u64 (Int.tmod t114 t115)] ?_
    with_reducible refine (decimal_Of.calls (Int.tmod t114 t115) t118 _ ?side1 A8.out).mono ?_
    (case side1 => exact Glob.below HG0.out (bl HB))
    rintro e w12 ⟨rfl, hb⟩
    refine ⟨_, rfl, ?_⟩
    replace HB := Aside0.mk (below_step (bl HB) hb)
    (try clear hb)
    (try clear hb2)
    (try clear hk)
    (try clear hi)
    refine hK.out _ _ trivial (fun hHeld => ?_)
    clear hK K
    refine norm_ (a' := ?_) ?_ ?_
    rotate_left
    ·show Act.put _ (some 33) _ = _
     simp only [Act.put, List.setIfInBounds_toArray, List.set_cons_zero, List.set_cons_succ, i64_w, i32_w]
     rfl
    refine purM (i := 8) (N := some 4) #[true, true, true, true, true, true, true, true, true, false, false] ?_
    refine purM (i := 9) (N := some 5) #[true, true, true, true, true, true, true, true, true, true, false] ?_
    refine purM (i := 10) (N := some 6) #[true, true, true, true, true, true, true, true, true, true, true] ?_
    refine done_ (done_of HT_.out (by kernel_rfl)) ?_
    try go_wp2
    go_ret3
    exact ⟨rl, bl HB⟩
  ·replace c5 := Bool.eq_false_iff.mpr c5
   subst c5
   have H1 : (none) = some (r1, r2, r3) := by rw [if_neg (show ¬ (false = true) by decide)] at H; exact H
   clear H
   have H := H1
   clear H1
   exact absurd H (by simp)
def decimal_Gcd.l0 : Nat → ByteArray → ByteArray → Option (ByteArray)
 | 0, _, _ => none
 | k + 1, x0, x1 => if x1.toList = ([48] : List UInt8) then (some x0) else ((decimal_DivMod.f k x0 x1).bind fun bt119 => (if bt119.2.2 = 0 then (decimal_Gcd.l0 k x1 bt119.2.1) else (some (⟨#[]⟩ : ByteArray))))
def decimal_Gcd.f (k : Nat) (a0 : ByteArray) (a1 : ByteArray) : Option (ByteArray) := decimal_Gcd.l0 k a0 a1
set_option maxHeartbeats 8000000 in
set_option maxRecDepth 100000 in
theorem decimal_Gcd.calls (k : Nat) (a0 : ByteArray) (a1 : ByteArray) (r : ByteArray) (w : World) (hG : Glob w) (h : decimal_Gcd.f k a0 a1 = some r) :
  Calls Tryz.prog 99 #[.string a0, .string a1] w fun e w' => e = .returned (.string r) ∧ Below w.heap.size w w' := by
 have HG0 := Aside0.mk hG
 clear hG
 have HB := Aside0.mk (Below.refl w.heap.size w)
 have H : (decimal_Gcd.l0 k a0 a1) = some r := h
 clear h
 have H' := Aside0.mk H
 clear H
 go_enter Tryz.func99, Tryz.ntmps99
 go_wp2
 go_loopg [0, 1] k (fun kq v0 v1 w' => ∃ (x0_1 : ByteArray) (x1_1 : ByteArray), v0 = .string x0_1 ∧ v1 = .string x1_1 ∧ Aside0 (decimal_Gcd.l0 kq x0_1 x1_1 = some r) ∧ Aside0 (kq ≤ k) ∧ Aside0 (Below w.heap.size w w'))
 case atStart => exact ⟨(a0), (a1), rs, rs, H', ⟨Nat.le_refl _⟩, ⟨bl HB⟩⟩
 case round =>
  clear H'
  try clear p2
  obtain ⟨x0_1, x1_1, rfl, rfl, HA, HK1, HB⟩ := hrel
  cases gk with
  | zero => exact absurd HA.out (by simp [decimal_Gcd.l0])
  | succ k1 =>
   have H := HA.out
   clear HA
   simp only [decimal_Gcd.l0] at H
   by_cases c3 : x1_1.toList = ([48] : List UInt8)
   ·rw [if_pos c3] at H
    have c3b0 : (x1_1.toList == ([48] : List UInt8)) = true := beq_iff_eq.mpr c3
    have c3b1 : (x1_1.toList != ([48] : List UInt8)) = false := bne_eq_false_iff_eq.mpr c3
    clear c3
    obtain rfl := Option.some.inj H
    go_wp2
    go_ret
    exact ⟨rl, bl HB⟩
   ·rw [if_neg c3] at H
    have c3b0 : (x1_1.toList == ([48] : List UInt8)) = false := beq_eq_false_iff_ne.mpr c3
    have c3b1 : (x1_1.toList != ([48] : List UInt8)) = true := bne_iff_ne.mpr c3
    replace H := Option.bind_eq_some_iff.mp H
    obtain ⟨⟨t119, t120, t121⟩, A40, H⟩ := H
    replace H : (if t121 = 0 then (decimal_Gcd.l0 k1 x1_1 t120) else (some (⟨#[]⟩ : ByteArray))) = some r := H
    have A4 := Aside0.mk A40
    clear A40
    by_cases c5 : t121 = 0
    ·rw [if_pos c5] at H
     have c5b0 : (t121 == 0) = true := beq_iff_eq.mpr c5
     have c5b1 : (t121 != 0) = false := bne_eq_false_iff_eq.mpr c5
     clear c5
     have H' := Aside0.mk H
     clear H
     go_wp2_with (first | ((with_reducible refine gate_callee (f := 129) rfl ?_); refine goesM (some 13) Tryz.func129 #[.string x0_1, .string x1_1] ?_; (with_reducible refine (decimal_DivMod.calls k1 x0_1 x1_1 t119 t120 t121 _ ?side1 A4.out).mono ?_); (case side1 => exact Glob.below HG0.out (bl HB)); rintro e w6 ⟨rfl, hb⟩; refine ⟨_, rfl, ?_⟩; replace HB := Aside0.mk (below_step (bl HB) hb); (try clear hb); (try clear hb2); (try clear hk); (try clear hi)))
     go_roundg k1
     case measure => have := HK1.out; omega
     case rel => exact ⟨(x1_1), (t120), rs, rs, H', ⟨by have := HK1.out; omega⟩, ⟨bl HB⟩⟩
    ·rw [if_neg c5] at H
     have c5b0 : (t121 == 0) = false := beq_eq_false_iff_ne.mpr c5
     have c5b1 : (t121 != 0) = true := bne_iff_ne.mpr c5
     obtain rfl := Option.some.inj H
     go_wp2_with (first | ((with_reducible refine gate_callee (f := 129) rfl ?_); refine goesM (some 13) Tryz.func129 #[.string x0_1, .string x1_1] ?_; (with_reducible refine (decimal_DivMod.calls k1 x0_1 x1_1 t119 t120 t121 _ ?side1 A4.out).mono ?_); (case side1 => exact Glob.below HG0.out (bl HB)); rintro e w7 ⟨rfl, hb⟩; refine ⟨_, rfl, ?_⟩; replace HB := Aside0.mk (below_step (bl HB) hb); (try clear hb); (try clear hb2); (try clear hk); (try clear hi)))
     go_ret
     exact ⟨rl, bl HB⟩
def whole_Gcd.f (k : Nat) (a0 : ByteArray) (a1 : ByteArray) : Option (ByteArray) := (whole_Abs.f a0).bind fun t122 => ((whole_Abs.f a1).bind fun t123 => ((wLittle.f t122 18).bind fun bt124 => (if bt124.2 = true then ((wLittle.f t123 18).bind fun bt126 => (if bt126.2 = true then ((whole_gcd.f k bt124.1 bt126.1).bind fun t128 => ((whole_Of.f t128).bind fun t129 => (some t129))) else ((decimal_Gcd.f k t122 t123).bind fun t130 => (some t130)))) else ((decimal_Gcd.f k t122 t123).bind fun t131 => (some t131)))))
set_option maxHeartbeats 8000000 in
set_option maxRecDepth 100000 in
theorem whole_Gcd.calls (k : Nat) (a0 : ByteArray) (a1 : ByteArray) (r : ByteArray) (w : World) (hG : Glob w) (h : whole_Gcd.f k a0 a1 = some r) :
  Calls Tryz.prog 55 #[.string a0, .string a1] w fun e w' => e = .returned (.string r) ∧ Below w.heap.size w w' := by
 have HG0 := Aside0.mk hG
 clear hG
 have HB := Aside0.mk (Below.refl w.heap.size w)
 have H : ((whole_Abs.f a0).bind fun t122 => ((whole_Abs.f a1).bind fun t123 => ((wLittle.f t122 18).bind fun bt124 => (if bt124.2 = true then ((wLittle.f t123 18).bind fun bt126 => (if bt126.2 = true then ((whole_gcd.f k bt124.1 bt126.1).bind fun t128 => ((whole_Of.f t128).bind fun t129 => (some t129))) else ((decimal_Gcd.f k t122 t123).bind fun t130 => (some t130)))) else ((decimal_Gcd.f k t122 t123).bind fun t131 => (some t131)))))) = some r := h
 clear h
 replace H := Option.bind_eq_some_iff.mp H
 obtain ⟨t122, A30, H⟩ := H
 replace H : ((whole_Abs.f a1).bind fun t123 => ((wLittle.f t122 18).bind fun bt124 => (if bt124.2 = true then ((wLittle.f t123 18).bind fun bt126 => (if bt126.2 = true then ((whole_gcd.f k bt124.1 bt126.1).bind fun t128 => ((whole_Of.f t128).bind fun t129 => (some t129))) else ((decimal_Gcd.f k t122 t123).bind fun t130 => (some t130)))) else ((decimal_Gcd.f k t122 t123).bind fun t131 => (some t131))))) = some r := H
 have A3 := Aside0.mk A30
 clear A30
 replace H := Option.bind_eq_some_iff.mp H
 obtain ⟨t123, A40, H⟩ := H
 replace H : ((wLittle.f t122 18).bind fun bt124 => (if bt124.2 = true then ((wLittle.f t123 18).bind fun bt126 => (if bt126.2 = true then ((whole_gcd.f k bt124.1 bt126.1).bind fun t128 => ((whole_Of.f t128).bind fun t129 => (some t129))) else ((decimal_Gcd.f k t122 t123).bind fun t130 => (some t130)))) else ((decimal_Gcd.f k t122 t123).bind fun t131 => (some t131)))) = some r := H
 have A4 := Aside0.mk A40
 clear A40
 replace H := Option.bind_eq_some_iff.mp H
 obtain ⟨⟨t124, t125⟩, A50, H⟩ := H
 replace H : (if t125 = true then ((wLittle.f t123 18).bind fun bt126 => (if bt126.2 = true then ((whole_gcd.f k t124 bt126.1).bind fun t128 => ((whole_Of.f t128).bind fun t129 => (some t129))) else ((decimal_Gcd.f k t122 t123).bind fun t130 => (some t130)))) else ((decimal_Gcd.f k t122 t123).bind fun t131 => (some t131))) = some r := H
 have A5 := Aside0.mk A50
 clear A50
 by_cases c6 : t125 = true
 ·subst c6
  have H1 : ((wLittle.f t123 18).bind fun bt126 => (if bt126.2 = true then ((whole_gcd.f k t124 bt126.1).bind fun t128 => ((whole_Of.f t128).bind fun t129 => (some t129))) else ((decimal_Gcd.f k t122 t123).bind fun t130 => (some t130)))) = some r := by rw [if_pos rfl] at H; exact H
  clear H
  have H := H1
  clear H1
  replace H := Option.bind_eq_some_iff.mp H
  obtain ⟨⟨t126, t127⟩, A70, H⟩ := H
  replace H : (if t127 = true then ((whole_gcd.f k t124 t126).bind fun t128 => ((whole_Of.f t128).bind fun t129 => (some t129))) else ((decimal_Gcd.f k t122 t123).bind fun t130 => (some t130))) = some r := H
  have A7 := Aside0.mk A70
  clear A70
  by_cases c8 : t127 = true
  ·subst c8
   have H1 : ((whole_gcd.f k t124 t126).bind fun t128 => ((whole_Of.f t128).bind fun t129 => (some t129))) = some r := by rw [if_pos rfl] at H; exact H
   clear H
   have H := H1
   clear H1
   replace H := Option.bind_eq_some_iff.mp H
   obtain ⟨t128, A90, H⟩ := H
   replace H : ((whole_Of.f t128).bind fun t129 => (some t129)) = some r := H
   have A9 := Aside0.mk A90
   clear A90
   replace H := Option.bind_eq_some_iff.mp H
   obtain ⟨t129, A100, H⟩ := H
   replace H : (some t129) = some r := H
   have A10 := Aside0.mk A100
   clear A100
   obtain rfl := Option.some.inj H
   go_enter Tryz.func55, Tryz.ntmps55
   go_wp2_with (first | ((with_reducible refine gate_callee (f := 63) rfl ?_); refine goesM (some 12) Tryz.func63 #[.string a0] ?_; (with_reducible refine (whole_Abs.calls a0 t122 _ A3.out).mono ?_); rintro e w' ⟨rfl, ⟨nd, rfl⟩⟩; refine ⟨_, rfl, ?_⟩) | ((with_reducible refine gate_callee (f := 63) rfl ?_); refine goesM (some 14) Tryz.func63 #[.string a1] ?_; (with_reducible refine (whole_Abs.calls a1 t123 _ A4.out).mono ?_); rintro e w' ⟨rfl, ⟨nd, rfl⟩⟩; refine ⟨_, rfl, ?_⟩) | ((with_reducible refine gate_callee (f := 96) rfl ?_); refine goesM (some 17) Tryz.func96 #[.string t122, .int .i64 18] ?_; (with_reducible refine (wLittle.calls t122 18 t124 true _ ?side1 A5.out).mono ?_); (case side1 => exact Glob.below HG0.out (bl HB)); rintro e w11 ⟨rfl, hb⟩; refine ⟨_, rfl, ?_⟩; replace HB := Aside0.mk (below_step (bl HB) hb); (try clear hb); (try clear hb2); (try clear hk); (try clear hi)) | ((with_reducible refine gate_callee (f := 96) rfl ?_); refine goesM (some 23) Tryz.func96 #[.string t123, .int .i64 18] ?_; (with_reducible refine (wLittle.calls t123 18 t126 true _ ?side1 A7.out).mono ?_); (case side1 => exact Glob.below HG0.out (bl HB)); rintro e w12 ⟨rfl, hb⟩; refine ⟨_, rfl, ?_⟩; replace HB := Aside0.mk (below_step (bl HB) hb); (try clear hb); (try clear hb2); (try clear hk); (try clear hi)) | ((with_reducible refine gate_callee (f := 98) rfl ?_); refine goesM (some 29) Tryz.func98 #[.int .i64 t124, .int .i64 t126] ?_; (with_reducible refine (whole_gcd.calls k t124 t126 t128 _ A9.out).mono ?_); rintro e w' ⟨rfl, ⟨nd, rfl⟩⟩; refine ⟨_, rfl, ?_⟩) | ((with_reducible refine gate_callee (f := 97) rfl ?_); refine goesM (some 30) Tryz.func97 #[.int .i64 t128] ?_; (with_reducible refine (whole_Of.calls t128 t129 _ ?side1 A10.out).mono ?_); (case side1 => exact Glob.below HG0.out (bl HB)); rintro e w13 ⟨rfl, hb⟩; refine ⟨_, rfl, ?_⟩; replace HB := Aside0.mk (below_step (bl HB) hb); (try clear hb); (try clear hb2); (try clear hk); (try clear hi)))
   go_ret
   exact ⟨rl, bl HB⟩
  ·replace c8 := Bool.eq_false_iff.mpr c8
   subst c8
   have H1 : ((decimal_Gcd.f k t122 t123).bind fun t130 => (some t130)) = some r := by rw [if_neg (show ¬ (false = true) by decide)] at H; exact H
   clear H
   have H := H1
   clear H1
   replace H := Option.bind_eq_some_iff.mp H
   obtain ⟨t130, A140, H⟩ := H
   replace H : (some t130) = some r := H
   have A14 := Aside0.mk A140
   clear A140
   obtain rfl := Option.some.inj H
   go_enter Tryz.func55, Tryz.ntmps55
   go_wp2_with (first | ((with_reducible refine gate_callee (f := 63) rfl ?_); refine goesM (some 12) Tryz.func63 #[.string a0] ?_; (with_reducible refine (whole_Abs.calls a0 t122 _ A3.out).mono ?_); rintro e w' ⟨rfl, ⟨nd, rfl⟩⟩; refine ⟨_, rfl, ?_⟩) | ((with_reducible refine gate_callee (f := 63) rfl ?_); refine goesM (some 14) Tryz.func63 #[.string a1] ?_; (with_reducible refine (whole_Abs.calls a1 t123 _ A4.out).mono ?_); rintro e w' ⟨rfl, ⟨nd, rfl⟩⟩; refine ⟨_, rfl, ?_⟩) | ((with_reducible refine gate_callee (f := 96) rfl ?_); refine goesM (some 17) Tryz.func96 #[.string t122, .int .i64 18] ?_; (with_reducible refine (wLittle.calls t122 18 t124 true _ ?side1 A5.out).mono ?_); (case side1 => exact Glob.below HG0.out (bl HB)); rintro e w15 ⟨rfl, hb⟩; refine ⟨_, rfl, ?_⟩; replace HB := Aside0.mk (below_step (bl HB) hb); (try clear hb); (try clear hb2); (try clear hk); (try clear hi)) | ((with_reducible refine gate_callee (f := 96) rfl ?_); refine goesM (some 23) Tryz.func96 #[.string t123, .int .i64 18] ?_; (with_reducible refine (wLittle.calls t123 18 t126 false _ ?side1 A7.out).mono ?_); (case side1 => exact Glob.below HG0.out (bl HB)); rintro e w16 ⟨rfl, hb⟩; refine ⟨_, rfl, ?_⟩; replace HB := Aside0.mk (below_step (bl HB) hb); (try clear hb); (try clear hb2); (try clear hk); (try clear hi)) | ((with_reducible refine gate_callee (f := 99) rfl ?_); refine goesM (some 33) Tryz.func99 #[.string t122, .string t123] ?_; (with_reducible refine (decimal_Gcd.calls k t122 t123 t130 _ ?side1 A14.out).mono ?_); (case side1 => exact Glob.below HG0.out (bl HB)); rintro e w17 ⟨rfl, hb⟩; refine ⟨_, rfl, ?_⟩; replace HB := Aside0.mk (below_step (bl HB) hb); (try clear hb); (try clear hb2); (try clear hk); (try clear hi)))
   go_ret
   exact ⟨rl, bl HB⟩
 ·replace c6 := Bool.eq_false_iff.mpr c6
  subst c6
  have H1 : ((decimal_Gcd.f k t122 t123).bind fun t131 => (some t131)) = some r := by rw [if_neg (show ¬ (false = true) by decide)] at H; exact H
  clear H
  have H := H1
  clear H1
  replace H := Option.bind_eq_some_iff.mp H
  obtain ⟨t131, A180, H⟩ := H
  replace H : (some t131) = some r := H
  have A18 := Aside0.mk A180
  clear A180
  obtain rfl := Option.some.inj H
  go_enter Tryz.func55, Tryz.ntmps55
  go_wp2_with (first | ((with_reducible refine gate_callee (f := 63) rfl ?_); refine goesM (some 12) Tryz.func63 #[.string a0] ?_; (with_reducible refine (whole_Abs.calls a0 t122 _ A3.out).mono ?_); rintro e w' ⟨rfl, ⟨nd, rfl⟩⟩; refine ⟨_, rfl, ?_⟩) | ((with_reducible refine gate_callee (f := 63) rfl ?_); refine goesM (some 14) Tryz.func63 #[.string a1] ?_; (with_reducible refine (whole_Abs.calls a1 t123 _ A4.out).mono ?_); rintro e w' ⟨rfl, ⟨nd, rfl⟩⟩; refine ⟨_, rfl, ?_⟩) | ((with_reducible refine gate_callee (f := 96) rfl ?_); refine goesM (some 17) Tryz.func96 #[.string t122, .int .i64 18] ?_; (with_reducible refine (wLittle.calls t122 18 t124 false _ ?side1 A5.out).mono ?_); (case side1 => exact Glob.below HG0.out (bl HB)); rintro e w19 ⟨rfl, hb⟩; refine ⟨_, rfl, ?_⟩; replace HB := Aside0.mk (below_step (bl HB) hb); (try clear hb); (try clear hb2); (try clear hk); (try clear hi)) | ((with_reducible refine gate_callee (f := 99) rfl ?_); refine goesM (some 33) Tryz.func99 #[.string t122, .string t123] ?_; (with_reducible refine (decimal_Gcd.calls k t122 t123 t131 _ ?side1 A18.out).mono ?_); (case side1 => exact Glob.below HG0.out (bl HB)); rintro e w20 ⟨rfl, hb⟩; refine ⟨_, rfl, ?_⟩; replace HB := Aside0.mk (below_step (bl HB) hb); (try clear hb); (try clear hb2); (try clear hk); (try clear hi)))
  go_ret
  exact ⟨rl, bl HB⟩
def fraction_Check.j0 : Nat → Bool → ByteArray → ByteArray → Option (Int)
 | 0, _, _, _ => none
 | k + 1, x3, x133000, x133001 => if x3 = true then (some 2) else ((whole_Sign.f x133001).bind fun t135 => (if t135 ≤ 0 then (some 2) else ((whole_Gcd.f k x133000 x133001).bind fun t136 => (if t136.toList = ([49] : List UInt8) then (some 0) else (some 2)))))
def fraction_Check.f (k : Nat) (a0_0 : ByteArray) (a0_1 : ByteArray) : Option (Int) := (whole_Check.f a0_0).bind fun t133 => (if t133 = 0 then ((whole_Check.f a0_1).bind fun t134 => (fraction_Check.j0 k (t134 != 0) a0_0 a0_1)) else (fraction_Check.j0 k (t133 != 0) a0_0 a0_1))
set_option maxHeartbeats 8000000 in
set_option maxRecDepth 100000 in
theorem fraction_Check.calls (k : Nat) (a0_0 : ByteArray) (a0_1 : ByteArray) (r : Int) (w : World) (hG : Glob w) (h : fraction_Check.f k a0_0 a0_1 = some r) :
  Calls Tryz.prog 14 #[.agg #[.string a0_0, .string a0_1]] w fun e w' => e = .returned (.int .i64 r) ∧ Below w.heap.size w w' := by
 have hu30 := Tryz.underlying30
 have HG0 := Aside0.mk hG
 clear hG
 have HB := Aside0.mk (Below.refl w.heap.size w)
 have H : ((whole_Check.f a0_0).bind fun t133 => (if t133 = 0 then ((whole_Check.f a0_1).bind fun t134 => (fraction_Check.j0 k (t134 != 0) a0_0 a0_1)) else (fraction_Check.j0 k (t133 != 0) a0_0 a0_1))) = some r := h
 clear h
 replace H := Option.bind_eq_some_iff.mp H
 obtain ⟨t133, A20, H⟩ := H
 replace H : (if t133 = 0 then ((whole_Check.f a0_1).bind fun t134 => (fraction_Check.j0 k (t134 != 0) a0_0 a0_1)) else (fraction_Check.j0 k (t133 != 0) a0_0 a0_1)) = some r := H
 have A2 := Aside0.mk A20
 clear A20
 have HC3 := Aside0.mk H
 clear H
 go_enter Tryz.func14, Tryz.ntmps14
 go_upto_if 3 with (first | ((with_reducible refine gate_dst (N := 1) rfl ?_); refine boxM (N := 1) #[.string a0_0, .string a0_1] 30 ?_; intro gb132 hg w4 hbox hb; have BK132 := Aside0.mk (hbox); have GW132 := Aside0.mk ((by rw [hg]; exact (below_size (bl HB)) : w.heap.size ≤ gb132)); have GE132 := Aside0.mk ((by rw [hg]; exact (below_size (bl HB)) : w.heap.size ≤ gb132)); replace HB := Aside0.mk (below_step (bl HB) hb); clear hb hbox hg; have hcz5_0 : w4.cell? ⟨gb132, 0, none⟩ = some (.string a0_0) := (blk_cell BK132.out 0).trans rfl; have hcz5_1 : w4.cell? ⟨gb132, 1, none⟩ = some (.string a0_1) := (blk_cell BK132.out 1).trans rfl; have hfz5_0 := blk_frozen BK132.out 0; have hfz5_1 := blk_frozen BK132.out 1) | ((with_reducible refine gate_callee (f := 33) rfl ?_); refine goesM (some 6) Tryz.func33 #[.string a0_0] ?_; (with_reducible refine (whole_Check.calls a0_0 t133 _ A2.out).mono ?_); rintro e w6 ⟨rfl, hb⟩; refine ⟨_, rfl, ?_⟩; replace BK132 := Aside0.mk (blk_below (g := gb132) (o := .cells #[.string a0_0, .string a0_1] 30 (0, 0)) (bk BK132) hb); replace HB := Aside0.mk (below_step (bl HB) hb); (try clear hb); (try clear hb2); (try clear hk); (try clear hi)))
 (try simp only [Act.put, List.setIfInBounds_toArray, List.set_cons_zero, List.set_cons_succ])
 go_cut [3] (fun v3 wc => ∃ (kq : Nat) (x3_2 : Bool), v3 = .bool x3_2 ∧ Aside0 (fraction_Check.j0 kq x3_2 a0_0 a0_1 = some r) ∧ Aside0 (kq ≤ k) ∧ Aside0 (wc.heap[gb132]? = some (.cells #[.string a0_0, .string a0_1] 30 (0, 0))) ∧ Aside0 (Below w.heap.size w wc))
 case first =>
  have H := HC3.out
  clear HC3
  by_cases c7 : t133 = 0
  ·rw [if_pos c7] at H
   have c7b0 : (t133 == 0) = true := beq_iff_eq.mpr c7
   have c7b1 : (t133 != 0) = false := bne_eq_false_iff_eq.mpr c7
   clear c7
   (first | rw [c7b0] | (simp only [i64_w, i32_w]; rw [c7b0]) | skip)
   replace H := Option.bind_eq_some_iff.mp H
   obtain ⟨t134, A80, H⟩ := H
   replace H : (fraction_Check.j0 k (t134 != 0) a0_0 a0_1) = some r := H
   have A8 := Aside0.mk A80
   clear A80
   have H' := Aside0.mk H
   clear H
   have hcz9_0 : w6.cell? ⟨gb132, 0, none⟩ = some (.string a0_0) := (blk_cell BK132.out 0).trans rfl
   have hcz9_1 : w6.cell? ⟨gb132, 1, none⟩ = some (.string a0_1) := (blk_cell BK132.out 1).trans rfl
   have hfz9_0 := blk_frozen BK132.out 0
   have hfz9_1 := blk_frozen BK132.out 1
   go_wp2_with (first | ((with_reducible refine gate_callee (f := 33) rfl ?_); refine goesM (some 10) Tryz.func33 #[.string a0_1] ?_; (with_reducible refine (whole_Check.calls a0_1 t134 _ A8.out).mono ?_); rintro e w10 ⟨rfl, hb⟩; refine ⟨_, rfl, ?_⟩; replace BK132 := Aside0.mk (blk_below (g := gb132) (o := .cells #[.string a0_0, .string a0_1] 30 (0, 0)) (bk BK132) hb); replace HB := Aside0.mk (below_step (bl HB) hb); (try clear hb); (try clear hb2); (try clear hk); (try clear hi)))
   go_meet
   case rel => exact ⟨_, ((t134 != 0)), rs, H', ⟨by first | omega | exact Nat.le_refl _⟩, ⟨bk BK132⟩, ⟨bl HB⟩⟩
  ·rw [if_neg c7] at H
   have c7b0 : (t133 == 0) = false := beq_eq_false_iff_ne.mpr c7
   have c7b1 : (t133 != 0) = true := bne_iff_ne.mpr c7
   (first | rw [c7b0] | (simp only [i64_w, i32_w]; rw [c7b0]) | skip)
   have H' := Aside0.mk H
   clear H
   go_wp2
   go_meet
   case rel => exact ⟨_, ((t133 != 0)), rs, H', ⟨by first | omega | exact Nat.le_refl _⟩, ⟨bk BK132⟩, ⟨bl HB⟩⟩
 case rest =>
  clear HC3
  try clear c1
  try clear p2
  try clear c3
  try clear c7
  try clear c7b0
  try clear c7b1
  try clear hcz5_0
  try clear hcz5_1
  try clear hcz9_0
  try clear hcz9_1
  try clear hfz5_0
  try clear hfz5_1
  try clear hfz9_0
  try clear hfz9_1
  obtain ⟨kq, x3_2, rfl, HA, HJ2, BK132, HB⟩ := hcut
  cases kq with
  | zero => exact absurd HA.out (by simp [fraction_Check.j0])
  | succ kj2 =>
   have H := HA.out
   clear HA
   simp only [fraction_Check.j0] at H
   by_cases c11 : x3_2 = true
   ·subst c11
    have H1 : (some 2) = some r := by rw [if_pos rfl] at H; exact H
    clear H
    have H := H1
    clear H1
    obtain rfl := Option.some.inj H
    go_wp2
    go_ret
    exact ⟨rl, bl HB⟩
   ·replace c11 := Bool.eq_false_iff.mpr c11
    subst c11
    have H1 : ((whole_Sign.f a0_1).bind fun t135 => (if t135 ≤ 0 then (some 2) else ((whole_Gcd.f kj2 a0_0 a0_1).bind fun t136 => (if t136.toList = ([49] : List UInt8) then (some 0) else (some 2))))) = some r := by rw [if_neg (show ¬ (false = true) by decide)] at H; exact H
    clear H
    have H := H1
    clear H1
    replace H := Option.bind_eq_some_iff.mp H
    obtain ⟨t135, A120, H⟩ := H
    replace H : (if t135 ≤ 0 then (some 2) else ((whole_Gcd.f kj2 a0_0 a0_1).bind fun t136 => (if t136.toList = ([49] : List UInt8) then (some 0) else (some 2)))) = some r := H
    have A12 := Aside0.mk A120
    clear A120
    by_cases c13 : t135 ≤ 0
    ·rw [if_pos c13] at H
     have c13b0 : decide (t135 ≤ 0) = true := decide_eq_true c13
     clear c13
     obtain rfl := Option.some.inj H
     have hcz14_0 : wc.cell? ⟨gb132, 0, none⟩ = some (.string a0_0) := (blk_cell BK132.out 0).trans rfl
     have hcz14_1 : wc.cell? ⟨gb132, 1, none⟩ = some (.string a0_1) := (blk_cell BK132.out 1).trans rfl
     have hfz14_0 := blk_frozen BK132.out 0
     have hfz14_1 := blk_frozen BK132.out 1
     go_wp2_with (first | ((with_reducible refine gate_callee (f := 54) rfl ?_); refine goesM (some 15) Tryz.func54 #[.string a0_1] ?_; (with_reducible refine (whole_Sign.calls a0_1 t135 _ A12.out).mono ?_); rintro e w' ⟨rfl, ⟨nd, rfl⟩⟩; refine ⟨_, rfl, ?_⟩))
     go_ret
     exact ⟨rl, bl HB⟩
    ·rw [if_neg c13] at H
     have c13b0 : decide (t135 ≤ 0) = false := decide_eq_false c13
     clear c13
     replace H := Option.bind_eq_some_iff.mp H
     obtain ⟨t136, A150, H⟩ := H
     replace H : (if t136.toList = ([49] : List UInt8) then (some 0) else (some 2)) = some r := H
     have A15 := Aside0.mk A150
     clear A150
     by_cases c16 : t136.toList = ([49] : List UInt8)
     ·rw [if_pos c16] at H
      have c16b0 : (t136.toList == ([49] : List UInt8)) = true := beq_iff_eq.mpr c16
      have c16b1 : (t136.toList != ([49] : List UInt8)) = false := bne_eq_false_iff_eq.mpr c16
      clear c16
      obtain rfl := Option.some.inj H
      have hcz17_0 : wc.cell? ⟨gb132, 0, none⟩ = some (.string a0_0) := (blk_cell BK132.out 0).trans rfl
      have hcz17_1 : wc.cell? ⟨gb132, 1, none⟩ = some (.string a0_1) := (blk_cell BK132.out 1).trans rfl
      have hfz17_0 := blk_frozen BK132.out 0
      have hfz17_1 := blk_frozen BK132.out 1
      go_wp2_with (first | ((with_reducible refine gate_callee (f := 54) rfl ?_); refine goesM (some 15) Tryz.func54 #[.string a0_1] ?_; (with_reducible refine (whole_Sign.calls a0_1 t135 _ A12.out).mono ?_); rintro e w' ⟨rfl, ⟨nd, rfl⟩⟩; refine ⟨_, rfl, ?_⟩) | ((with_reducible refine gate_callee (f := 55) rfl ?_); refine goesM (some 21) Tryz.func55 #[.string a0_0, .string a0_1] ?_; (with_reducible refine (whole_Gcd.calls kj2 a0_0 a0_1 t136 _ ?side1 A15.out).mono ?_); (case side1 => exact Glob.below HG0.out (bl HB)); rintro e w18 ⟨rfl, hb⟩; refine ⟨_, rfl, ?_⟩; replace BK132 := Aside0.mk (blk_below (g := gb132) (o := .cells #[.string a0_0, .string a0_1] 30 (0, 0)) (bk BK132) hb); replace HB := Aside0.mk (below_step (bl HB) hb); (try clear hb); (try clear hb2); (try clear hk); (try clear hi)))
      go_ret
      exact ⟨rl, bl HB⟩
     ·rw [if_neg c16] at H
      have c16b0 : (t136.toList == ([49] : List UInt8)) = false := beq_eq_false_iff_ne.mpr c16
      have c16b1 : (t136.toList != ([49] : List UInt8)) = true := bne_iff_ne.mpr c16
      obtain rfl := Option.some.inj H
      have hcz19_0 : wc.cell? ⟨gb132, 0, none⟩ = some (.string a0_0) := (blk_cell BK132.out 0).trans rfl
      have hcz19_1 : wc.cell? ⟨gb132, 1, none⟩ = some (.string a0_1) := (blk_cell BK132.out 1).trans rfl
      have hfz19_0 := blk_frozen BK132.out 0
      have hfz19_1 := blk_frozen BK132.out 1
      go_wp2_with (first | ((with_reducible refine gate_callee (f := 54) rfl ?_); refine goesM (some 15) Tryz.func54 #[.string a0_1] ?_; (with_reducible refine (whole_Sign.calls a0_1 t135 _ A12.out).mono ?_); rintro e w' ⟨rfl, ⟨nd, rfl⟩⟩; refine ⟨_, rfl, ?_⟩) | ((with_reducible refine gate_callee (f := 55) rfl ?_); refine goesM (some 21) Tryz.func55 #[.string a0_0, .string a0_1] ?_; (with_reducible refine (whole_Gcd.calls kj2 a0_0 a0_1 t136 _ ?side1 A15.out).mono ?_); (case side1 => exact Glob.below HG0.out (bl HB)); rintro e w20 ⟨rfl, hb⟩; refine ⟨_, rfl, ?_⟩; replace BK132 := Aside0.mk (blk_below (g := gb132) (o := .cells #[.string a0_0, .string a0_1] 30 (0, 0)) (bk BK132) hb); replace HB := Aside0.mk (below_step (bl HB) hb); (try clear hb); (try clear hb2); (try clear hk); (try clear hi)))
      go_ret
      exact ⟨rl, bl HB⟩
def size_Combine_1.f (k : Nat) (a0_0 : ByteArray) (a0_1 : ByteArray) : Option (Bool) := (fraction_Check.f k a0_0 a0_1).bind fun t138 => (some (t138 != 0))
set_option maxHeartbeats 8000000 in
set_option maxRecDepth 100000 in
theorem size_Combine_1.calls (k : Nat) (a0_0 : ByteArray) (a0_1 : ByteArray) (r : Bool) (w : World) (hG : Glob w) (h : size_Combine_1.f k a0_0 a0_1 = some r) :
  Calls Tryz.prog 57 #[.agg #[.string a0_0, .string a0_1]] w fun e w' => e = .returned (.bool r) ∧ Below w.heap.size w w' := by
 have hu30 := Tryz.underlying30
 have HG0 := Aside0.mk hG
 clear hG
 have HB := Aside0.mk (Below.refl w.heap.size w)
 have H : ((fraction_Check.f k a0_0 a0_1).bind fun t138 => (some (t138 != 0))) = some r := h
 clear h
 replace H := Option.bind_eq_some_iff.mp H
 obtain ⟨t138, A20, H⟩ := H
 replace H : (some (t138 != 0)) = some r := H
 have A2 := Aside0.mk A20
 clear A20
 obtain rfl := Option.some.inj H
 go_enter Tryz.func57, Tryz.ntmps57
 go_wp2_with (first | ((with_reducible refine gate_dst (N := 1) rfl ?_); refine boxM (N := 1) #[.string a0_0, .string a0_1] 30 ?_; intro gb137 hg w3 hbox hb; have BK137 := Aside0.mk (hbox); have GW137 := Aside0.mk ((by rw [hg]; exact (below_size (bl HB)) : w.heap.size ≤ gb137)); have GE137 := Aside0.mk ((by rw [hg]; exact (below_size (bl HB)) : w.heap.size ≤ gb137)); replace HB := Aside0.mk (below_step (bl HB) hb); clear hb hbox hg; have hcz4_0 : w3.cell? ⟨gb137, 0, none⟩ = some (.string a0_0) := (blk_cell BK137.out 0).trans rfl; have hcz4_1 : w3.cell? ⟨gb137, 1, none⟩ = some (.string a0_1) := (blk_cell BK137.out 1).trans rfl; have hfz4_0 := blk_frozen BK137.out 0; have hfz4_1 := blk_frozen BK137.out 1) | ((with_reducible refine gate_callee (f := 14) rfl ?_); refine goesM (some 4) Tryz.func14 #[.agg #[.string a0_0, .string a0_1]] ?_; (with_reducible refine (fraction_Check.calls k a0_0 a0_1 t138 _ ?side1 A2.out).mono ?_); (case side1 => exact Glob.below HG0.out (bl HB)); rintro e w5 ⟨rfl, hb⟩; refine ⟨_, rfl, ?_⟩; replace BK137 := Aside0.mk (blk_below (g := gb137) (o := .cells #[.string a0_0, .string a0_1] 30 (0, 0)) (bk BK137) hb); replace HB := Aside0.mk (below_step (bl HB) hb); (try clear hb); (try clear hb2); (try clear hk); (try clear hi)))
 go_ret
 exact ⟨rl, bl HB⟩
def size_short.f (a0_0 : ByteArray) (a0_1 : ByteArray) : Option (Bool) := (whole_Abs.f a0_0).bind fun t140 => (if (t140.size : Int) ≤ 30 then (some (decide ((a0_1.size : Int) ≤ 30))) else (some false))
set_option maxHeartbeats 8000000 in
set_option maxRecDepth 100000 in
theorem size_short.calls (a0_0 : ByteArray) (a0_1 : ByteArray) (r : Bool) (w : World) (h : size_short.f a0_0 a0_1 = some r) :
  Calls Tryz.prog 103 #[.agg #[.string a0_0, .string a0_1]] w fun e w' => e = .returned (.bool r) ∧ Below w.heap.size w w' := by
 have hu30 := Tryz.underlying30
 have HB := Aside0.mk (Below.refl w.heap.size w)
 have H : ((whole_Abs.f a0_0).bind fun t140 => (if (t140.size : Int) ≤ 30 then (some (decide ((a0_1.size : Int) ≤ 30))) else (some false))) = some r := h
 clear h
 replace H := Option.bind_eq_some_iff.mp H
 obtain ⟨t140, A20, H⟩ := H
 replace H : (if (t140.size : Int) ≤ 30 then (some (decide ((a0_1.size : Int) ≤ 30))) else (some false)) = some r := H
 have A2 := Aside0.mk A20
 clear A20
 by_cases c3 : (t140.size : Int) ≤ 30
 ·rw [if_pos c3] at H
  have c3b0 : decide ((t140.size : Int) ≤ 30) = true := decide_eq_true c3
  have c3b1 : decide (t140.size ≤ 30) = true := decide_eq_true (by omega)
  clear c3
  obtain rfl := Option.some.inj H
  go_enter Tryz.func103, Tryz.ntmps103
  go_wp2_with (first | ((with_reducible refine gate_dst (N := 1) rfl ?_); (try (refine gate_guard (by rfl) ?_; dsimp only)); refine boxM (N := 1) #[.string a0_0, .string a0_1] 30 ?_; intro gb139 hg w4 hbox hb; have BK139 := Aside0.mk (hbox); have GW139 := Aside0.mk ((by rw [hg]; exact (below_size (bl HB)) : w.heap.size ≤ gb139)); have GE139 := Aside0.mk ((by rw [hg]; exact (below_size (bl HB)) : w.heap.size ≤ gb139)); replace HB := Aside0.mk (below_step (bl HB) hb); clear hb hbox hg; have hcz5_0 : w4.cell? ⟨gb139, 0, none⟩ = some (.string a0_0) := (blk_cell BK139.out 0).trans rfl; have hcz5_1 : w4.cell? ⟨gb139, 1, none⟩ = some (.string a0_1) := (blk_cell BK139.out 1).trans rfl; have hfz5_0 := blk_frozen BK139.out 0; have hfz5_1 := blk_frozen BK139.out 1) | ((with_reducible refine gate_callee (f := 63) rfl ?_); refine goesM (some 5) Tryz.func63 #[.string a0_0] ?_; (with_reducible refine (whole_Abs.calls a0_0 t140 _ A2.out).mono ?_); rintro e w' ⟨rfl, ⟨nd, rfl⟩⟩; refine ⟨_, rfl, ?_⟩))
  go_ret
  exact ⟨rl, bl HB⟩
 ·rw [if_neg c3] at H
  have c3b0 : decide ((t140.size : Int) ≤ 30) = false := decide_eq_false c3
  have c3b1 : decide (t140.size ≤ 30) = false := decide_eq_false (by omega)
  clear c3
  obtain rfl := Option.some.inj H
  go_enter Tryz.func103, Tryz.ntmps103
  go_wp2_with (first | ((with_reducible refine gate_dst (N := 1) rfl ?_); (try (refine gate_guard (by rfl) ?_; dsimp only)); refine boxM (N := 1) #[.string a0_0, .string a0_1] 30 ?_; intro gb139 hg w6 hbox hb; have BK139 := Aside0.mk (hbox); have GW139 := Aside0.mk ((by rw [hg]; exact (below_size (bl HB)) : w.heap.size ≤ gb139)); have GE139 := Aside0.mk ((by rw [hg]; exact (below_size (bl HB)) : w.heap.size ≤ gb139)); replace HB := Aside0.mk (below_step (bl HB) hb); clear hb hbox hg; have hcz7_0 : w6.cell? ⟨gb139, 0, none⟩ = some (.string a0_0) := (blk_cell BK139.out 0).trans rfl; have hcz7_1 : w6.cell? ⟨gb139, 1, none⟩ = some (.string a0_1) := (blk_cell BK139.out 1).trans rfl; have hfz7_0 := blk_frozen BK139.out 0; have hfz7_1 := blk_frozen BK139.out 1) | ((with_reducible refine gate_callee (f := 63) rfl ?_); refine goesM (some 5) Tryz.func63 #[.string a0_0] ?_; (with_reducible refine (whole_Abs.calls a0_0 t140 _ A2.out).mono ?_); rintro e w' ⟨rfl, ⟨nd, rfl⟩⟩; refine ⟨_, rfl, ?_⟩))
  go_ret
  exact ⟨rl, bl HB⟩
def size_result_1.f (a0_0 : ByteArray) (a0_1 : ByteArray) : Option (Bool) := (size_short.f a0_0 a0_1).bind fun t142 => (some (!t142))
set_option maxHeartbeats 8000000 in
set_option maxRecDepth 100000 in
theorem size_result_1.calls (a0_0 : ByteArray) (a0_1 : ByteArray) (r : Bool) (w : World) (h : size_result_1.f a0_0 a0_1 = some r) :
  Calls Tryz.prog 102 #[.agg #[.string a0_0, .string a0_1]] w fun e w' => e = .returned (.bool r) ∧ Below w.heap.size w w' := by
 have hu30 := Tryz.underlying30
 have HB := Aside0.mk (Below.refl w.heap.size w)
 have H : ((size_short.f a0_0 a0_1).bind fun t142 => (some (!t142))) = some r := h
 clear h
 replace H := Option.bind_eq_some_iff.mp H
 obtain ⟨t142, A20, H⟩ := H
 replace H : (some (!t142)) = some r := H
 have A2 := Aside0.mk A20
 clear A20
 obtain rfl := Option.some.inj H
 go_enter Tryz.func102, Tryz.ntmps102
 go_wp2_with (first | ((with_reducible refine gate_dst (N := 1) rfl ?_); refine boxM (N := 1) #[.string a0_0, .string a0_1] 30 ?_; intro gb141 hg w3 hbox hb; have BK141 := Aside0.mk (hbox); have GW141 := Aside0.mk ((by rw [hg]; exact (below_size (bl HB)) : w.heap.size ≤ gb141)); have GE141 := Aside0.mk ((by rw [hg]; exact (below_size (bl HB)) : w.heap.size ≤ gb141)); replace HB := Aside0.mk (below_step (bl HB) hb); clear hb hbox hg; have hcz4_0 : w3.cell? ⟨gb141, 0, none⟩ = some (.string a0_0) := (blk_cell BK141.out 0).trans rfl; have hcz4_1 : w3.cell? ⟨gb141, 1, none⟩ = some (.string a0_1) := (blk_cell BK141.out 1).trans rfl; have hfz4_0 := blk_frozen BK141.out 0; have hfz4_1 := blk_frozen BK141.out 1) | ((with_reducible refine gate_callee (f := 103) rfl ?_); refine goesM (some 4) Tryz.func103 #[.agg #[.string a0_0, .string a0_1]] ?_; (with_reducible refine (size_short.calls a0_0 a0_1 t142 _ A2.out).mono ?_); rintro e w5 ⟨rfl, hb⟩; refine ⟨_, rfl, ?_⟩; replace BK141 := Aside0.mk (blk_below (g := gb141) (o := .cells #[.string a0_0, .string a0_1] 30 (0, 0)) (bk BK141) hb); replace HB := Aside0.mk (below_step (bl HB) hb); (try clear hb); (try clear hb2); (try clear hk); (try clear hi)))
 go_ret
 exact ⟨rl, bl HB⟩
def whole_join.f (a0 : Bool) (a1 : ByteArray) : Option (ByteArray) := if a0 = true then (if a1.toList = ([48] : List UInt8) then (some a1) else (if 1 + a1.size ≤ 9223372036854775807 then (some ((⟨#[45]⟩ : ByteArray) ++ a1)) else (none))) else (some a1)
set_option maxHeartbeats 8000000 in
set_option maxRecDepth 100000 in
theorem whole_join.calls (a0 : Bool) (a1 : ByteArray) (r : ByteArray) (w : World) (h : whole_join.f a0 a1 = some r) :
  Calls Tryz.prog 78 #[.bool a0, .string a1] w fun e w' => e = .returned (.string r) ∧ Drawn0 w w' := by
 have H : (if a0 = true then (if a1.toList = ([48] : List UInt8) then (some a1) else (if 1 + a1.size ≤ 9223372036854775807 then (some ((⟨#[45]⟩ : ByteArray) ++ a1)) else (none))) else (some a1)) = some r := h
 clear h
 by_cases c3 : a0 = true
 ·subst c3
  have H1 : (if a1.toList = ([48] : List UInt8) then (some a1) else (if 1 + a1.size ≤ 9223372036854775807 then (some ((⟨#[45]⟩ : ByteArray) ++ a1)) else (none))) = some r := by rw [if_pos rfl] at H; exact H
  clear H
  have H := H1
  clear H1
  by_cases c4 : a1.toList = ([48] : List UInt8)
  ·rw [if_pos c4] at H
   have c4b0 : (a1.toList == ([48] : List UInt8)) = true := beq_iff_eq.mpr c4
   have c4b1 : (a1.toList != ([48] : List UInt8)) = false := bne_eq_false_iff_eq.mpr c4
   clear c4
   obtain rfl := Option.some.inj H
   go_enter Tryz.func78, Tryz.ntmps78
   go_wp2
   go_ret
   exact ⟨by first | rfl | (simp; done) | (simp [*]; done), by repeat (first | exact Drawn0.refl _ | apply Drawn0.step)⟩
  ·rw [if_neg c4] at H
   have c4b0 : (a1.toList == ([48] : List UInt8)) = false := beq_eq_false_iff_ne.mpr c4
   have c4b1 : (a1.toList != ([48] : List UInt8)) = true := bne_iff_ne.mpr c4
   by_cases c5 : 1 + a1.size ≤ 9223372036854775807
   ·rw [if_pos c5] at H
    have c5b0 := eq_true c5
    have c5b1 : decide (1 + a1.size ≤ 9223372036854775807) = true := decide_eq_true c5
    try have c5b2 : (9223372036854775807 < 1 + a1.size) = False := eq_false (Nat.not_lt.2 c5)
    obtain rfl := Option.some.inj H
    go_enter Tryz.func78, Tryz.ntmps78
    go_wp2
    go_ret
    exact ⟨by first | rfl | (simp; done) | (simp [*]; done), by repeat (first | exact Drawn0.refl _ | apply Drawn0.step)⟩
   ·rw [if_neg c5] at H
    exact absurd H (by simp)
 ·replace c3 := Bool.eq_false_iff.mpr c3
  subst c3
  have H1 : (some a1) = some r := by rw [if_neg (show ¬ (false = true) by decide)] at H; exact H
  clear H
  have H := H1
  clear H1
  obtain rfl := Option.some.inj H
  go_enter Tryz.func78, Tryz.ntmps78
  go_wp2
  go_ret
  exact ⟨by first | rfl | (simp; done) | (simp [*]; done), by repeat (first | exact Drawn0.refl _ | apply Drawn0.step)⟩
def whole_Neg.f (a0 : ByteArray) : Option (ByteArray) := (whole_split.f a0).bind fun bt143 => ((whole_join.f (!bt143.1) bt143.2).bind fun t145 => (some t145))
set_option maxHeartbeats 8000000 in
set_option maxRecDepth 100000 in
theorem whole_Neg.calls (a0 : ByteArray) (r : ByteArray) (w : World) (h : whole_Neg.f a0 = some r) :
  Calls Tryz.prog 34 #[.string a0] w fun e w' => e = .returned (.string r) ∧ Drawn0 w w' := by
 have H : ((whole_split.f a0).bind fun bt143 => ((whole_join.f (!bt143.1) bt143.2).bind fun t145 => (some t145))) = some r := h
 clear h
 replace H := Option.bind_eq_some_iff.mp H
 obtain ⟨⟨t143, t144⟩, A20, H⟩ := H
 replace H : ((whole_join.f (!t143) t144).bind fun t145 => (some t145)) = some r := H
 have A2 := Aside0.mk A20
 clear A20
 replace H := Option.bind_eq_some_iff.mp H
 obtain ⟨t145, A30, H⟩ := H
 replace H : (some t145) = some r := H
 have A3 := Aside0.mk A30
 clear A30
 obtain rfl := Option.some.inj H
 go_enter Tryz.func34, Tryz.ntmps34
 go_wp2_with (first | ((with_reducible refine gate_callee (f := 76) rfl ?_); refine goesM (some 7) Tryz.func76 #[.string a0] ?_; (with_reducible refine (whole_split.calls a0 t143 t144 _ A2.out).mono ?_); rintro e w' ⟨rfl, ⟨nd, rfl⟩⟩; refine ⟨_, rfl, ?_⟩) | ((with_reducible refine gate_callee (f := 78) rfl ?_); refine goesM (some 13) Tryz.func78 #[.bool (!t143), .string t144] ?_; (with_reducible refine (whole_join.calls (!t143) t144 t145 _ A3.out).mono ?_); rintro e w' ⟨rfl, ⟨nd, rfl⟩⟩; refine ⟨_, rfl, ?_⟩))
 go_ret
 exact ⟨by first | rfl | (simp; done) | (simp [*]; done), by repeat (first | exact Drawn0.refl _ | apply Drawn0.step)⟩
end Go.Proofs.YtailoobjgbldgaaGreatDoor.P
end
section
namespace Go.Proofs.YtailoobjgbldgaaGreatDoor.P
open Go.RowKit Go.Proofs.YtailoobjgbldgaaGreatDoorW.PrintWords Go.Proofs.YtailoobjgbldgaaGreatDoorW.PrintLast Go.Proofs.YtailoobjgbldgaaGreatDoorW.PrintMore
attribute [local go_sem] max2_int min2_int max_two min_two max_three min_three max_four min_four   
set_option linter.unusedVariables false
set_option linter.unusedSimpArgs false
mutual
def whole_DivMod.j1 : Nat → ByteArray → ByteArray → Option (ByteArray × ByteArray × Int)
 | 0, _, _ => none
 | k + 1, x0, x1 => (whole_split.f x0).bind fun bt154 => ((whole_split.f x1).bind fun bt156 => ((decimal_DivMod.f k bt154.2 bt156.2).bind fun bt158 => (if bt158.2.2 = 0 then (if (bt154.1 != bt156.1) = true then (whole_DivMod.j2 k bt154.1 bt156.1 bt158.1 bt158.2.1 (bt158.2.1.toList != ([48] : List UInt8))) else (whole_DivMod.j2 k bt154.1 bt156.1 bt158.1 bt158.2.1 false)) else (some ((⟨#[]⟩ : ByteArray), (⟨#[]⟩ : ByteArray), bt158.2.2)))))
def whole_DivMod.j2 : Nat → Bool → Bool → ByteArray → ByteArray → Bool → Option (ByteArray × ByteArray × Int)
 | 0, _, _, _, _, _ => none
 | k + 1, x13, x15, x17, x18, x83 => if x83 = true then (none) else ((whole_join.f (x13 != x15) x17).bind fun t161 => ((whole_join.f x15 x18).bind fun t162 => (some (t161, t162, 0))))
def whole_DivMod.j0 : Nat → Int → Int → Int → Bool → Option (ByteArray × ByteArray × Int)
 | 0, _, _, _, _ => none
 | k + 1, x9, x11, x12, x47 => if x47 = true then ((whole_Of.f (wrap64 (x11 - 1))).bind fun t150 => ((whole_Of.f (wrap64 (x12 + x9))).bind fun t151 => (some (t150, t151, 0)))) else ((whole_Of.f x11).bind fun t152 => ((whole_Of.f x12).bind fun t153 => (some (t152, t153, 0))))
end
def whole_DivMod.f (k : Nat) (a0 : ByteArray) (a1 : ByteArray) : Option (ByteArray × ByteArray × Int) := if a1.toList = ([48] : List UInt8) then (some ((⟨#[]⟩ : ByteArray), (⟨#[]⟩ : ByteArray), 17)) else ((wLittle.f a0 18).bind fun bt146 => (if bt146.2 = true then ((wLittle.f a1 18).bind fun bt148 => (if bt148.2 = true then (if bt148.1 = 0 then (none) else (if (Int.tmod bt146.1 bt148.1) = 0 then (whole_DivMod.j0 k bt148.1 (wrap64 (Int.tdiv bt146.1 bt148.1)) (Int.tmod bt146.1 bt148.1) false) else (whole_DivMod.j0 k bt148.1 (wrap64 (Int.tdiv bt146.1 bt148.1)) (Int.tmod bt146.1 bt148.1) ((decide ((Int.tmod bt146.1 bt148.1) < 0)) != (decide (bt148.1 < 0)))))) else (whole_DivMod.j1 k a0 a1))) else (whole_DivMod.j1 k a0 a1)))
set_option maxHeartbeats 8000000 in
set_option maxRecDepth 100000 in
theorem whole_DivMod.calls (k : Nat) (a0 : ByteArray) (a1 : ByteArray) (r1 : ByteArray) (r2 : ByteArray) (r3 : Int) (w : World) (hG : Glob w) (h : whole_DivMod.f k a0 a1 = some (r1, r2, r3)) :
  Calls Tryz.prog 107 #[.string a0, .string a1] w fun e w' => e = .returned (.tuple #[.string r1, .string r2, .int .i64 r3]) ∧ Below w.heap.size w w' := by
 have HG0 := Aside0.mk hG
 clear hG
 have HB := Aside0.mk (Below.refl w.heap.size w)
 have H : (if a1.toList = ([48] : List UInt8) then (some ((⟨#[]⟩ : ByteArray), (⟨#[]⟩ : ByteArray), 17)) else ((wLittle.f a0 18).bind fun bt146 => (if bt146.2 = true then ((wLittle.f a1 18).bind fun bt148 => (if bt148.2 = true then (if bt148.1 = 0 then (none) else (if (Int.tmod bt146.1 bt148.1) = 0 then (whole_DivMod.j0 k bt148.1 (wrap64 (Int.tdiv bt146.1 bt148.1)) (Int.tmod bt146.1 bt148.1) false) else (whole_DivMod.j0 k bt148.1 (wrap64 (Int.tdiv bt146.1 bt148.1)) (Int.tmod bt146.1 bt148.1) ((decide ((Int.tmod bt146.1 bt148.1) < 0)) != (decide (bt148.1 < 0)))))) else (whole_DivMod.j1 k a0 a1))) else (whole_DivMod.j1 k a0 a1)))) = some (r1, r2, r3) := h
 clear h
 by_cases c3 : a1.toList = ([48] : List UInt8)
 ·rw [if_pos c3] at H
  have c3b0 : (a1.toList == ([48] : List UInt8)) = true := beq_iff_eq.mpr c3
  have c3b1 : (a1.toList != ([48] : List UInt8)) = false := bne_eq_false_iff_eq.mpr c3
  clear c3
  simp only [Option.some.injEq, Prod.mk.injEq] at H
  obtain ⟨rfl, rfl, rfl⟩ := H
  go_enter Tryz.func107, Tryz.ntmps107
  go_wp2
  repeat (go_quiet (fail); try go_wp2)
  go_ret3
  exact ⟨rl, bl HB⟩
 ·rw [if_neg c3] at H
  have c3b0 : (a1.toList == ([48] : List UInt8)) = false := beq_eq_false_iff_ne.mpr c3
  have c3b1 : (a1.toList != ([48] : List UInt8)) = true := bne_iff_ne.mpr c3
  replace H := Option.bind_eq_some_iff.mp H
  obtain ⟨⟨t146, t147⟩, A40, H⟩ := H
  replace H : (if t147 = true then ((wLittle.f a1 18).bind fun bt148 => (if bt148.2 = true then (if bt148.1 = 0 then (none) else (if (Int.tmod t146 bt148.1) = 0 then (whole_DivMod.j0 k bt148.1 (wrap64 (Int.tdiv t146 bt148.1)) (Int.tmod t146 bt148.1) false) else (whole_DivMod.j0 k bt148.1 (wrap64 (Int.tdiv t146 bt148.1)) (Int.tmod t146 bt148.1) ((decide ((Int.tmod t146 bt148.1) < 0)) != (decide (bt148.1 < 0)))))) else (whole_DivMod.j1 k a0 a1))) else (whole_DivMod.j1 k a0 a1)) = some (r1, r2, r3) := H
  have A4 := Aside0.mk A40
  clear A40
  have HC5 := Aside0.mk H
  clear H
  go_enter Tryz.func107, Tryz.ntmps107
  go_upto_if 26 with (first | (go_at_call 96; (with_reducible refine (wLittle.calls a0 18 t146 t147 _ ?side1 A4.out).mono ?_); (case side1 => exact Glob.below HG0.out (bl HB)); rintro e w6 ⟨rfl, hb⟩; replace HB := Aside0.mk (below_step (bl HB) hb); (try clear hb); (try clear hb2); (try clear hk); (try clear hi)))
  repeat (go_quiet (first | (go_at_call 96; (with_reducible refine (wLittle.calls a0 18 t146 t147 _ ?side1 A4.out).mono ?_); (case side1 => exact Glob.below HG0.out (bl HB)); rintro e w6 ⟨rfl, hb⟩; replace HB := Aside0.mk (below_step (bl HB) hb); (try clear hb); (try clear hb2); (try clear hk); (try clear hi))); go_upto_if 26 with (first | (go_at_call 96; (with_reducible refine (wLittle.calls a0 18 t146 t147 _ ?side1 A4.out).mono ?_); (case side1 => exact Glob.below HG0.out (bl HB)); rintro e w6 ⟨rfl, hb⟩; replace HB := Aside0.mk (below_step (bl HB) hb); (try clear hb); (try clear hb2); (try clear hk); (try clear hi))))
  (try simp only [Act.put, List.setIfInBounds_toArray, List.set_cons_zero, List.set_cons_succ])
  go_cut [] (fun wc => ∃ (kq : Nat), Aside0 (whole_DivMod.j1 kq a0 a1 = some (r1, r2, r3)) ∧ Aside0 (kq ≤ k) ∧ Aside0 (Below w.heap.size w wc))
  case first =>
   have H := HC5.out
   clear HC5
   by_cases c7 : t147 = true
   ·subst c7
    have H1 : ((wLittle.f a1 18).bind fun bt148 => (if bt148.2 = true then (if bt148.1 = 0 then (none) else (if (Int.tmod t146 bt148.1) = 0 then (whole_DivMod.j0 k bt148.1 (wrap64 (Int.tdiv t146 bt148.1)) (Int.tmod t146 bt148.1) false) else (whole_DivMod.j0 k bt148.1 (wrap64 (Int.tdiv t146 bt148.1)) (Int.tmod t146 bt148.1) ((decide ((Int.tmod t146 bt148.1) < 0)) != (decide (bt148.1 < 0)))))) else (whole_DivMod.j1 k a0 a1))) = some (r1, r2, r3) := by rw [if_pos rfl] at H; exact H
    clear H
    have H := H1
    clear H1
    replace H := Option.bind_eq_some_iff.mp H
    obtain ⟨⟨t148, t149⟩, A80, H⟩ := H
    replace H : (if t149 = true then (if t148 = 0 then (none) else (if (Int.tmod t146 t148) = 0 then (whole_DivMod.j0 k t148 (wrap64 (Int.tdiv t146 t148)) (Int.tmod t146 t148) false) else (whole_DivMod.j0 k t148 (wrap64 (Int.tdiv t146 t148)) (Int.tmod t146 t148) ((decide ((Int.tmod t146 t148) < 0)) != (decide (t148 < 0)))))) else (whole_DivMod.j1 k a0 a1)) = some (r1, r2, r3) := H
    have A8 := Aside0.mk A80
    clear A80
    by_cases c9 : t149 = true
    ·subst c9
     have H1 : (if t148 = 0 then (none) else (if (Int.tmod t146 t148) = 0 then (whole_DivMod.j0 k t148 (wrap64 (Int.tdiv t146 t148)) (Int.tmod t146 t148) false) else (whole_DivMod.j0 k t148 (wrap64 (Int.tdiv t146 t148)) (Int.tmod t146 t148) ((decide ((Int.tmod t146 t148) < 0)) != (decide (t148 < 0)))))) = some (r1, r2, r3) := by rw [if_pos rfl] at H; exact H
     clear H
     have H := H1
     clear H1
     by_cases c10 : t148 = 0
     ·rw [if_pos c10] at H
      exact absurd H (by simp)
     ·rw [if_neg c10] at H
      have c10b0 : (t148 == 0) = false := beq_eq_false_iff_ne.mpr c10
      have c10b1 : (t148 != 0) = true := bne_iff_ne.mpr c10
      (first | rw [c10b0] | (simp only [i64_w, i32_w]; rw [c10b0]) | skip)
      have HC11 := Aside0.mk H
      clear H
      go_upto_region 8 with (first | (go_at_call 96; (with_reducible refine (wLittle.calls a1 18 t148 true _ ?side1 A8.out).mono ?_); (case side1 => exact Glob.below HG0.out (bl HB)); rintro e w12 ⟨rfl, hb⟩; replace HB := Aside0.mk (below_step (bl HB) hb); (try clear hb); (try clear hb2); (try clear hk); (try clear hi)))
      repeat (go_quiet (first | (go_at_call 96; (with_reducible refine (wLittle.calls a1 18 t148 true _ ?side1 A8.out).mono ?_); (case side1 => exact Glob.below HG0.out (bl HB)); rintro e w12 ⟨rfl, hb⟩; replace HB := Aside0.mk (below_step (bl HB) hb); (try clear hb); (try clear hb2); (try clear hk); (try clear hi))); go_upto_region 8 with (first | (go_at_call 96; (with_reducible refine (wLittle.calls a1 18 t148 true _ ?side1 A8.out).mono ?_); (case side1 => exact Glob.below HG0.out (bl HB)); rintro e w12 ⟨rfl, hb⟩; replace HB := Aside0.mk (below_step (bl HB) hb); (try clear hb); (try clear hb2); (try clear hk); (try clear hi))))
      (try simp only [Act.put, List.setIfInBounds_toArray, List.set_cons_zero, List.set_cons_succ])
      go_cut [47] (fun v47 wc => ∃ (kq : Nat) (x47_10 : Bool), v47 = .bool x47_10 ∧ Aside0 (whole_DivMod.j0 kq t148 (wrap64 (Int.tdiv t146 t148)) (Int.tmod t146 t148) x47_10 = some (r1, r2, r3)) ∧ Aside0 (kq ≤ k) ∧ Aside0 (Below w.heap.size w wc))
      case first =>
       have H := HC11.out
       clear HC11
       by_cases c13 : (Int.tmod t146 t148) = 0
       ·rw [if_pos c13] at H
        have c13b0 : ((Int.tmod t146 t148) == 0) = true := beq_iff_eq.mpr c13
        have c13b1 : ((Int.tmod t146 t148) != 0) = false := bne_eq_false_iff_eq.mpr c13
        clear c13
        (first | rw [c13b0] | (simp only [i64_w, i32_w]; rw [c13b0]) | skip)
        have H' := Aside0.mk H
        clear H
        go_wp2
        repeat (go_quiet (fail); try go_wp2)
        go_meet
        case rel => exact ⟨_, (false), rs, H', ⟨by first | omega | exact Nat.le_refl _⟩, ⟨bl HB⟩⟩
       ·rw [if_neg c13] at H
        have c13b0 : ((Int.tmod t146 t148) == 0) = false := beq_eq_false_iff_ne.mpr c13
        have c13b1 : ((Int.tmod t146 t148) != 0) = true := bne_iff_ne.mpr c13
        (first | rw [c13b0] | (simp only [i64_w, i32_w]; rw [c13b0]) | skip)
        have H' := Aside0.mk H
        clear H
        go_wp2
        repeat (go_quiet (fail); try go_wp2)
        go_meet
        case rel => exact ⟨_, (((decide ((Int.tmod t146 t148) < 0)) != (decide (t148 < 0)))), rs, H', ⟨by first | omega | exact Nat.le_refl _⟩, ⟨bl HB⟩⟩
      case rest =>
       clear HC11
       try clear c1
       try clear p2
       try clear c3
       try clear c3b0
       try clear c3b1
       try clear p6
       try clear c7
       try clear c9
       try clear c10
       try clear c10b0
       try clear c10b1
       try clear c13
       try clear c13b0
       try clear c13b1
       obtain ⟨kq, x47_10, rfl, HA, HJ10, HB⟩ := hcut
       cases kq with
       | zero => exact absurd HA.out (by simp [whole_DivMod.j0])
       | succ kj10 =>
        have H := HA.out
        clear HA
        simp only [whole_DivMod.j0] at H
        by_cases c14 : x47_10 = true
        ·subst c14
         have H1 : ((whole_Of.f (wrap64 ((wrap64 (Int.tdiv t146 t148)) - 1))).bind fun t150 => ((whole_Of.f (wrap64 ((Int.tmod t146 t148) + t148))).bind fun t151 => (some (t150, t151, 0)))) = some (r1, r2, r3) := by rw [if_pos rfl] at H; exact H
         clear H
         have H := H1
         clear H1
         replace H := Option.bind_eq_some_iff.mp H
         obtain ⟨t150, A150, H⟩ := H
         replace H : ((whole_Of.f (wrap64 ((Int.tmod t146 t148) + t148))).bind fun t151 => (some (t150, t151, 0))) = some (r1, r2, r3) := H
         have A15 := Aside0.mk A150
         clear A150
         replace H := Option.bind_eq_some_iff.mp H
         obtain ⟨t151, A160, H⟩ := H
         replace H : (some (t150, t151, 0)) = some (r1, r2, r3) := H
         have A16 := Aside0.mk A160
         clear A160
         simp only [Option.some.injEq, Prod.mk.injEq] at H
         obtain ⟨rfl, rfl, rfl⟩ := H
         go_wp2_with (first | (go_at_call 97; (with_reducible refine (whole_Of.calls (wrap64 ((wrap64 (Int.tdiv t146 t148)) - 1)) t150 _ ?side1 A15.out).mono ?_); (case side1 => exact Glob.below HG0.out (bl HB)); rintro e w17 ⟨rfl, hb⟩; replace HB := Aside0.mk (below_step (bl HB) hb); (try clear hb); (try clear hb2); (try clear hk); (try clear hi)) | (go_at_call 97; (with_reducible refine (whole_Of.calls (wrap64 ((Int.tmod t146 t148) + t148)) t151 _ ?side1 A16.out).mono ?_); (case side1 => exact Glob.below HG0.out (bl HB)); rintro e w18 ⟨rfl, hb⟩; replace HB := Aside0.mk (below_step (bl HB) hb); (try clear hb); (try clear hb2); (try clear hk); (try clear hi)))
         repeat (go_quiet (first | (go_at_call 97; (with_reducible refine (whole_Of.calls (wrap64 ((wrap64 (Int.tdiv t146 t148)) - 1)) t150 _ ?side1 A15.out).mono ?_); (case side1 => exact Glob.below HG0.out (bl HB)); rintro e w17 ⟨rfl, hb⟩; replace HB := Aside0.mk (below_step (bl HB) hb); (try clear hb); (try clear hb2); (try clear hk); (try clear hi)) | (go_at_call 97; (with_reducible refine (whole_Of.calls (wrap64 ((Int.tmod t146 t148) + t148)) t151 _ ?side1 A16.out).mono ?_); (case side1 => exact Glob.below HG0.out (bl HB)); rintro e w18 ⟨rfl, hb⟩; replace HB := Aside0.mk (below_step (bl HB) hb); (try clear hb); (try clear hb2); (try clear hk); (try clear hi))); try go_wp2_with (first | (go_at_call 97; (with_reducible refine (whole_Of.calls (wrap64 ((wrap64 (Int.tdiv t146 t148)) - 1)) t150 _ ?side1 A15.out).mono ?_); (case side1 => exact Glob.below HG0.out (bl HB)); rintro e w17 ⟨rfl, hb⟩; replace HB := Aside0.mk (below_step (bl HB) hb); (try clear hb); (try clear hb2); (try clear hk); (try clear hi)) | (go_at_call 97; (with_reducible refine (whole_Of.calls (wrap64 ((Int.tmod t146 t148) + t148)) t151 _ ?side1 A16.out).mono ?_); (case side1 => exact Glob.below HG0.out (bl HB)); rintro e w18 ⟨rfl, hb⟩; replace HB := Aside0.mk (below_step (bl HB) hb); (try clear hb); (try clear hb2); (try clear hk); (try clear hi))))
         go_ret3
         exact ⟨rl, bl HB⟩
        ·replace c14 := Bool.eq_false_iff.mpr c14
         subst c14
         have H1 : ((whole_Of.f (wrap64 (Int.tdiv t146 t148))).bind fun t152 => ((whole_Of.f (Int.tmod t146 t148)).bind fun t153 => (some (t152, t153, 0)))) = some (r1, r2, r3) := by rw [if_neg (show ¬ (false = true) by decide)] at H; exact H
         clear H
         have H := H1
         clear H1
         replace H := Option.bind_eq_some_iff.mp H
         obtain ⟨t152, A190, H⟩ := H
         replace H : ((whole_Of.f (Int.tmod t146 t148)).bind fun t153 => (some (t152, t153, 0))) = some (r1, r2, r3) := H
         have A19 := Aside0.mk A190
         clear A190
         replace H := Option.bind_eq_some_iff.mp H
         obtain ⟨t153, A200, H⟩ := H
         replace H : (some (t152, t153, 0)) = some (r1, r2, r3) := H
         have A20 := Aside0.mk A200
         clear A200
         simp only [Option.some.injEq, Prod.mk.injEq] at H
         obtain ⟨rfl, rfl, rfl⟩ := H
         go_wp2_with (first | (go_at_call 97; (with_reducible refine (whole_Of.calls (wrap64 (Int.tdiv t146 t148)) t152 _ ?side1 A19.out).mono ?_); (case side1 => exact Glob.below HG0.out (bl HB)); rintro e w21 ⟨rfl, hb⟩; replace HB := Aside0.mk (below_step (bl HB) hb); (try clear hb); (try clear hb2); (try clear hk); (try clear hi)) | (go_at_call 97; (with_reducible refine (whole_Of.calls (Int.tmod t146 t148) t153 _ ?side1 A20.out).mono ?_); (case side1 => exact Glob.below HG0.out (bl HB)); rintro e w22 ⟨rfl, hb⟩; replace HB := Aside0.mk (below_step (bl HB) hb); (try clear hb); (try clear hb2); (try clear hk); (try clear hi)))
         repeat (go_quiet (first | (go_at_call 97; (with_reducible refine (whole_Of.calls (wrap64 (Int.tdiv t146 t148)) t152 _ ?side1 A19.out).mono ?_); (case side1 => exact Glob.below HG0.out (bl HB)); rintro e w21 ⟨rfl, hb⟩; replace HB := Aside0.mk (below_step (bl HB) hb); (try clear hb); (try clear hb2); (try clear hk); (try clear hi)) | (go_at_call 97; (with_reducible refine (whole_Of.calls (Int.tmod t146 t148) t153 _ ?side1 A20.out).mono ?_); (case side1 => exact Glob.below HG0.out (bl HB)); rintro e w22 ⟨rfl, hb⟩; replace HB := Aside0.mk (below_step (bl HB) hb); (try clear hb); (try clear hb2); (try clear hk); (try clear hi))); try go_wp2_with (first | (go_at_call 97; (with_reducible refine (whole_Of.calls (wrap64 (Int.tdiv t146 t148)) t152 _ ?side1 A19.out).mono ?_); (case side1 => exact Glob.below HG0.out (bl HB)); rintro e w21 ⟨rfl, hb⟩; replace HB := Aside0.mk (below_step (bl HB) hb); (try clear hb); (try clear hb2); (try clear hk); (try clear hi)) | (go_at_call 97; (with_reducible refine (whole_Of.calls (Int.tmod t146 t148) t153 _ ?side1 A20.out).mono ?_); (case side1 => exact Glob.below HG0.out (bl HB)); rintro e w22 ⟨rfl, hb⟩; replace HB := Aside0.mk (below_step (bl HB) hb); (try clear hb); (try clear hb2); (try clear hk); (try clear hi))))
         go_ret3
         exact ⟨rl, bl HB⟩
    ·replace c9 := Bool.eq_false_iff.mpr c9
     subst c9
     have H1 : (whole_DivMod.j1 k a0 a1) = some (r1, r2, r3) := by rw [if_neg (show ¬ (false = true) by decide)] at H; exact H
     clear H
     have H := H1
     clear H1
     have H' := Aside0.mk H
     clear H
     go_wp2_with (first | (go_at_call 96; (with_reducible refine (wLittle.calls a1 18 t148 false _ ?side1 A8.out).mono ?_); (case side1 => exact Glob.below HG0.out (bl HB)); rintro e w23 ⟨rfl, hb⟩; replace HB := Aside0.mk (below_step (bl HB) hb); (try clear hb); (try clear hb2); (try clear hk); (try clear hi)))
     repeat (go_quiet (first | (go_at_call 96; (with_reducible refine (wLittle.calls a1 18 t148 false _ ?side1 A8.out).mono ?_); (case side1 => exact Glob.below HG0.out (bl HB)); rintro e w23 ⟨rfl, hb⟩; replace HB := Aside0.mk (below_step (bl HB) hb); (try clear hb); (try clear hb2); (try clear hk); (try clear hi))); try go_wp2_with (first | (go_at_call 96; (with_reducible refine (wLittle.calls a1 18 t148 false _ ?side1 A8.out).mono ?_); (case side1 => exact Glob.below HG0.out (bl HB)); rintro e w23 ⟨rfl, hb⟩; replace HB := Aside0.mk (below_step (bl HB) hb); (try clear hb); (try clear hb2); (try clear hk); (try clear hi))))
     go_meet
     case rel => exact ⟨_, H', ⟨by first | omega | exact Nat.le_refl _⟩, ⟨bl HB⟩⟩
   ·replace c7 := Bool.eq_false_iff.mpr c7
    subst c7
    have H1 : (whole_DivMod.j1 k a0 a1) = some (r1, r2, r3) := by rw [if_neg (show ¬ (false = true) by decide)] at H; exact H
    clear H
    have H := H1
    clear H1
    have H' := Aside0.mk H
    clear H
    go_wp2
    repeat (go_quiet (fail); try go_wp2)
    go_meet
    case rel => exact ⟨_, H', ⟨by first | omega | exact Nat.le_refl _⟩, ⟨bl HB⟩⟩
  case rest =>
   clear HC5
   try clear c1
   try clear p2
   try clear c3
   try clear c3b0
   try clear c3b1
   try clear p6
   try clear c7
   try clear c9
   try clear c10
   try clear c10b0
   try clear c10b1
   try clear c13
   try clear c13b0
   try clear c13b1
   try clear c14
   try clear p2
   try clear p6
   obtain ⟨kq, HA, HJ4, HB⟩ := hcut
   cases kq with
   | zero => exact absurd HA.out (by simp [whole_DivMod.j1])
   | succ kj4 =>
    have H := HA.out
    clear HA
    simp only [whole_DivMod.j1] at H
    replace H := Option.bind_eq_some_iff.mp H
    obtain ⟨⟨t154, t155⟩, A240, H⟩ := H
    replace H : ((whole_split.f a1).bind fun bt156 => ((decimal_DivMod.f kj4 t155 bt156.2).bind fun bt158 => (if bt158.2.2 = 0 then (if (t154 != bt156.1) = true then (whole_DivMod.j2 kj4 t154 bt156.1 bt158.1 bt158.2.1 (bt158.2.1.toList != ([48] : List UInt8))) else (whole_DivMod.j2 kj4 t154 bt156.1 bt158.1 bt158.2.1 false)) else (some ((⟨#[]⟩ : ByteArray), (⟨#[]⟩ : ByteArray), bt158.2.2))))) = some (r1, r2, r3) := H
    have A24 := Aside0.mk A240
    clear A240
    replace H := Option.bind_eq_some_iff.mp H
    obtain ⟨⟨t156, t157⟩, A250, H⟩ := H
    replace H : ((decimal_DivMod.f kj4 t155 t157).bind fun bt158 => (if bt158.2.2 = 0 then (if (t154 != t156) = true then (whole_DivMod.j2 kj4 t154 t156 bt158.1 bt158.2.1 (bt158.2.1.toList != ([48] : List UInt8))) else (whole_DivMod.j2 kj4 t154 t156 bt158.1 bt158.2.1 false)) else (some ((⟨#[]⟩ : ByteArray), (⟨#[]⟩ : ByteArray), bt158.2.2)))) = some (r1, r2, r3) := H
    have A25 := Aside0.mk A250
    clear A250
    replace H := Option.bind_eq_some_iff.mp H
    obtain ⟨⟨t158, t159, t160⟩, A260, H⟩ := H
    replace H : (if t160 = 0 then (if (t154 != t156) = true then (whole_DivMod.j2 kj4 t154 t156 t158 t159 (t159.toList != ([48] : List UInt8))) else (whole_DivMod.j2 kj4 t154 t156 t158 t159 false)) else (some ((⟨#[]⟩ : ByteArray), (⟨#[]⟩ : ByteArray), t160))) = some (r1, r2, r3) := H
    have A26 := Aside0.mk A260
    clear A260
    by_cases c27 : t160 = 0
    ·rw [if_pos c27] at H
     have c27b0 : (t160 == 0) = true := beq_iff_eq.mpr c27
     have c27b1 : (t160 != 0) = false := bne_eq_false_iff_eq.mpr c27
     clear c27
     have HC28 := Aside0.mk H
     clear H
     go_upto_region 16 with (first | (go_at_call 76; (with_reducible refine (whole_split.calls a0 t154 t155 _ A24.out).mono ?_); rintro e w' ⟨rfl, ⟨nd, rfl⟩⟩; (try first | exact ⟨rfl, _, World.drewN_drewN _ _ _⟩ | exact ⟨rfl, _, Eq.trans (World.drewN_drewN _ _ _) (congrArg (World.drewN _) (Nat.add_assoc _ _ _))⟩)) | (go_at_call 76; (with_reducible refine (whole_split.calls a1 t156 t157 _ A25.out).mono ?_); rintro e w' ⟨rfl, ⟨nd, rfl⟩⟩; (try first | exact ⟨rfl, _, World.drewN_drewN _ _ _⟩ | exact ⟨rfl, _, Eq.trans (World.drewN_drewN _ _ _) (congrArg (World.drewN _) (Nat.add_assoc _ _ _))⟩)) | (go_at_call 129; (with_reducible refine (decimal_DivMod.calls kj4 t155 t157 t158 t159 t160 _ ?side1 A26.out).mono ?_); (case side1 => exact Glob.below HG0.out (bl HB)); rintro e w29 ⟨rfl, hb⟩; replace HB := Aside0.mk (below_step (bl HB) hb); (try clear hb); (try clear hb2); (try clear hk); (try clear hi)))
     repeat (go_quiet (first | (go_at_call 76; (with_reducible refine (whole_split.calls a0 t154 t155 _ A24.out).mono ?_); rintro e w' ⟨rfl, ⟨nd, rfl⟩⟩; (try first | exact ⟨rfl, _, World.drewN_drewN _ _ _⟩ | exact ⟨rfl, _, Eq.trans (World.drewN_drewN _ _ _) (congrArg (World.drewN _) (Nat.add_assoc _ _ _))⟩)) | (go_at_call 76; (with_reducible refine (whole_split.calls a1 t156 t157 _ A25.out).mono ?_); rintro e w' ⟨rfl, ⟨nd, rfl⟩⟩; (try first | exact ⟨rfl, _, World.drewN_drewN _ _ _⟩ | exact ⟨rfl, _, Eq.trans (World.drewN_drewN _ _ _) (congrArg (World.drewN _) (Nat.add_assoc _ _ _))⟩)) | (go_at_call 129; (with_reducible refine (decimal_DivMod.calls kj4 t155 t157 t158 t159 t160 _ ?side1 A26.out).mono ?_); (case side1 => exact Glob.below HG0.out (bl HB)); rintro e w29 ⟨rfl, hb⟩; replace HB := Aside0.mk (below_step (bl HB) hb); (try clear hb); (try clear hb2); (try clear hk); (try clear hi))); go_upto_region 16 with (first | (go_at_call 76; (with_reducible refine (whole_split.calls a0 t154 t155 _ A24.out).mono ?_); rintro e w' ⟨rfl, ⟨nd, rfl⟩⟩; (try first | exact ⟨rfl, _, World.drewN_drewN _ _ _⟩ | exact ⟨rfl, _, Eq.trans (World.drewN_drewN _ _ _) (congrArg (World.drewN _) (Nat.add_assoc _ _ _))⟩)) | (go_at_call 76; (with_reducible refine (whole_split.calls a1 t156 t157 _ A25.out).mono ?_); rintro e w' ⟨rfl, ⟨nd, rfl⟩⟩; (try first | exact ⟨rfl, _, World.drewN_drewN _ _ _⟩ | exact ⟨rfl, _, Eq.trans (World.drewN_drewN _ _ _) (congrArg (World.drewN _) (Nat.add_assoc _ _ _))⟩)) | (go_at_call 129; (with_reducible refine (decimal_DivMod.calls kj4 t155 t157 t158 t159 t160 _ ?side1 A26.out).mono ?_); (case side1 => exact Glob.below HG0.out (bl HB)); rintro e w29 ⟨rfl, hb⟩; replace HB := Aside0.mk (below_step (bl HB) hb); (try clear hb); (try clear hb2); (try clear hk); (try clear hi))))
     (try simp only [Act.put, List.setIfInBounds_toArray, List.set_cons_zero, List.set_cons_succ])
     go_cut [83] (fun v83 wc => ∃ (kq : Nat) (x83_27 : Bool), v83 = .bool x83_27 ∧ Aside0 (whole_DivMod.j2 kq t154 t156 t158 t159 x83_27 = some (r1, r2, r3)) ∧ Aside0 (kq ≤ kj4) ∧ Aside0 (Below w.heap.size w wc))
     case first =>
      have H := HC28.out
      clear HC28
      by_cases c30 : (t154 != t156) = true
      ·rw [if_pos c30] at H
       have c30b0 : (t154 != t156) = true := c30
       (try (have c30b1 : decide (t154 = t156) = false := by simpa using c30))
       (try (have c30b2 : (t154 == t156) = false := by simpa using c30))
       (try (have c30b3 : ¬ (t154 = t156) := by simpa using c30))
       clear c30
       (first | rw [c30b0] | (simp only [i64_w, i32_w]; rw [c30b0]) | skip)
       have H' := Aside0.mk H
       clear H
       go_wp2
       repeat (go_quiet (fail); try go_wp2)
       go_meet
       case rel => exact ⟨_, ((t159.toList != ([48] : List UInt8))), rs, H', ⟨by have := HJ4.out; first | omega | exact Nat.le_refl _⟩, ⟨bl HB⟩⟩
      ·rw [if_neg c30] at H
       have c30b0 : (t154 != t156) = false := by simpa using c30
       (try (have c30b1 : decide (t154 = t156) = true := by simpa using c30))
       (try (have c30b2 : (t154 == t156) = true := by simpa using c30))
       clear c30
       (first | rw [c30b0] | (simp only [i64_w, i32_w]; rw [c30b0]) | skip)
       have H' := Aside0.mk H
       clear H
       go_wp2
       repeat (go_quiet (fail); try go_wp2)
       go_meet
       case rel => exact ⟨_, (false), rs, H', ⟨by have := HJ4.out; first | omega | exact Nat.le_refl _⟩, ⟨bl HB⟩⟩
     case rest =>
      clear HC28
      try clear c1
      try clear c2
      try clear p2
      try clear c3
      try clear c3b0
      try clear c3b1
      try clear p6
      try clear c7
      try clear c9
      try clear c10
      try clear c10b0
      try clear c10b1
      try clear c13
      try clear c13b0
      try clear c13b1
      try clear c14
      try clear c27
      try clear c27b0
      try clear c27b1
      try clear c30
      try clear c30b0
      try clear c30b1
      try clear c30b2
      try clear p2
      try clear p6
      obtain ⟨kq, x83_27, rfl, HA, HJ27, HB⟩ := hcut
      cases kq with
      | zero => exact absurd HA.out (by simp [whole_DivMod.j2])
      | succ kj27 =>
       have H := HA.out
       clear HA
       simp only [whole_DivMod.j2] at H
       by_cases c31 : x83_27 = true
       ·subst c31
        have H1 : (none) = some (r1, r2, r3) := by rw [if_pos rfl] at H; exact H
        clear H
        have H := H1
        clear H1
        exact absurd H (by simp)
       ·replace c31 := Bool.eq_false_iff.mpr c31
        subst c31
        have H1 : ((whole_join.f (t154 != t156) t158).bind fun t161 => ((whole_join.f t156 t159).bind fun t162 => (some (t161, t162, 0)))) = some (r1, r2, r3) := by rw [if_neg (show ¬ (false = true) by decide)] at H; exact H
        clear H
        have H := H1
        clear H1
        replace H := Option.bind_eq_some_iff.mp H
        obtain ⟨t161, A320, H⟩ := H
        replace H : ((whole_join.f t156 t159).bind fun t162 => (some (t161, t162, 0))) = some (r1, r2, r3) := H
        have A32 := Aside0.mk A320
        clear A320
        replace H := Option.bind_eq_some_iff.mp H
        obtain ⟨t162, A330, H⟩ := H
        replace H : (some (t161, t162, 0)) = some (r1, r2, r3) := H
        have A33 := Aside0.mk A330
        clear A330
        simp only [Option.some.injEq, Prod.mk.injEq] at H
        obtain ⟨rfl, rfl, rfl⟩ := H
        go_wp2_with (first | (go_at_call 78; (with_reducible refine (whole_join.calls (!(t154 == t156)) t158 t161 _ (by with_unfolding_all exact A32.out)).mono ?_); rintro e w' ⟨rfl, ⟨nd, rfl⟩⟩; (try first | exact ⟨rfl, _, World.drewN_drewN _ _ _⟩ | exact ⟨rfl, _, Eq.trans (World.drewN_drewN _ _ _) (congrArg (World.drewN _) (Nat.add_assoc _ _ _))⟩)) | (go_at_call 78; (with_reducible refine (whole_join.calls t156 t159 t162 _ A33.out).mono ?_); rintro e w' ⟨rfl, ⟨nd, rfl⟩⟩; (try first | exact ⟨rfl, _, World.drewN_drewN _ _ _⟩ | exact ⟨rfl, _, Eq.trans (World.drewN_drewN _ _ _) (congrArg (World.drewN _) (Nat.add_assoc _ _ _))⟩)))
        repeat (go_quiet (first | (go_at_call 78; (with_reducible refine (whole_join.calls (!(t154 == t156)) t158 t161 _ (by with_unfolding_all exact A32.out)).mono ?_); rintro e w' ⟨rfl, ⟨nd, rfl⟩⟩; (try first | exact ⟨rfl, _, World.drewN_drewN _ _ _⟩ | exact ⟨rfl, _, Eq.trans (World.drewN_drewN _ _ _) (congrArg (World.drewN _) (Nat.add_assoc _ _ _))⟩)) | (go_at_call 78; (with_reducible refine (whole_join.calls t156 t159 t162 _ A33.out).mono ?_); rintro e w' ⟨rfl, ⟨nd, rfl⟩⟩; (try first | exact ⟨rfl, _, World.drewN_drewN _ _ _⟩ | exact ⟨rfl, _, Eq.trans (World.drewN_drewN _ _ _) (congrArg (World.drewN _) (Nat.add_assoc _ _ _))⟩))); try go_wp2_with (first | (go_at_call 78; (with_reducible refine (whole_join.calls (!(t154 == t156)) t158 t161 _ (by with_unfolding_all exact A32.out)).mono ?_); rintro e w' ⟨rfl, ⟨nd, rfl⟩⟩; (try first | exact ⟨rfl, _, World.drewN_drewN _ _ _⟩ | exact ⟨rfl, _, Eq.trans (World.drewN_drewN _ _ _) (congrArg (World.drewN _) (Nat.add_assoc _ _ _))⟩)) | (go_at_call 78; (with_reducible refine (whole_join.calls t156 t159 t162 _ A33.out).mono ?_); rintro e w' ⟨rfl, ⟨nd, rfl⟩⟩; (try first | exact ⟨rfl, _, World.drewN_drewN _ _ _⟩ | exact ⟨rfl, _, Eq.trans (World.drewN_drewN _ _ _) (congrArg (World.drewN _) (Nat.add_assoc _ _ _))⟩))))
        go_ret3
        exact ⟨rl, bl HB⟩
    ·rw [if_neg c27] at H
     have c27b0 : (t160 == 0) = false := beq_eq_false_iff_ne.mpr c27
     have c27b1 : (t160 != 0) = true := bne_iff_ne.mpr c27
     simp only [Option.some.injEq, Prod.mk.injEq] at H
     obtain ⟨rfl, rfl, rfl⟩ := H
     go_wp2_with (first | (go_at_call 76; (with_reducible refine (whole_split.calls a0 t154 t155 _ A24.out).mono ?_); rintro e w' ⟨rfl, ⟨nd, rfl⟩⟩; (try first | exact ⟨rfl, _, World.drewN_drewN _ _ _⟩ | exact ⟨rfl, _, Eq.trans (World.drewN_drewN _ _ _) (congrArg (World.drewN _) (Nat.add_assoc _ _ _))⟩)) | (go_at_call 76; (with_reducible refine (whole_split.calls a1 t156 t157 _ A25.out).mono ?_); rintro e w' ⟨rfl, ⟨nd, rfl⟩⟩; (try first | exact ⟨rfl, _, World.drewN_drewN _ _ _⟩ | exact ⟨rfl, _, Eq.trans (World.drewN_drewN _ _ _) (congrArg (World.drewN _) (Nat.add_assoc _ _ _))⟩)) | (go_at_call 129; (with_reducible refine (decimal_DivMod.calls kj4 t155 t157 t158 t159 t160 _ ?side1 A26.out).mono ?_); (case side1 => exact Glob.below HG0.out (bl HB)); rintro e w34 ⟨rfl, hb⟩; replace HB := Aside0.mk (below_step (bl HB) hb); (try clear hb); (try clear hb2); (try clear hk); (try clear hi)))
     repeat (go_quiet (first | (go_at_call 76; (with_reducible refine (whole_split.calls a0 t154 t155 _ A24.out).mono ?_); rintro e w' ⟨rfl, ⟨nd, rfl⟩⟩; (try first | exact ⟨rfl, _, World.drewN_drewN _ _ _⟩ | exact ⟨rfl, _, Eq.trans (World.drewN_drewN _ _ _) (congrArg (World.drewN _) (Nat.add_assoc _ _ _))⟩)) | (go_at_call 76; (with_reducible refine (whole_split.calls a1 t156 t157 _ A25.out).mono ?_); rintro e w' ⟨rfl, ⟨nd, rfl⟩⟩; (try first | exact ⟨rfl, _, World.drewN_drewN _ _ _⟩ | exact ⟨rfl, _, Eq.trans (World.drewN_drewN _ _ _) (congrArg (World.drewN _) (Nat.add_assoc _ _ _))⟩)) | (go_at_call 129; (with_reducible refine (decimal_DivMod.calls kj4 t155 t157 t158 t159 t160 _ ?side1 A26.out).mono ?_); (case side1 => exact Glob.below HG0.out (bl HB)); rintro e w34 ⟨rfl, hb⟩; replace HB := Aside0.mk (below_step (bl HB) hb); (try clear hb); (try clear hb2); (try clear hk); (try clear hi))); try go_wp2_with (first | (go_at_call 76; (with_reducible refine (whole_split.calls a0 t154 t155 _ A24.out).mono ?_); rintro e w' ⟨rfl, ⟨nd, rfl⟩⟩; (try first | exact ⟨rfl, _, World.drewN_drewN _ _ _⟩ | exact ⟨rfl, _, Eq.trans (World.drewN_drewN _ _ _) (congrArg (World.drewN _) (Nat.add_assoc _ _ _))⟩)) | (go_at_call 76; (with_reducible refine (whole_split.calls a1 t156 t157 _ A25.out).mono ?_); rintro e w' ⟨rfl, ⟨nd, rfl⟩⟩; (try first | exact ⟨rfl, _, World.drewN_drewN _ _ _⟩ | exact ⟨rfl, _, Eq.trans (World.drewN_drewN _ _ _) (congrArg (World.drewN _) (Nat.add_assoc _ _ _))⟩)) | (go_at_call 129; (with_reducible refine (decimal_DivMod.calls kj4 t155 t157 t158 t159 t160 _ ?side1 A26.out).mono ?_); (case side1 => exact Glob.below HG0.out (bl HB)); rintro e w34 ⟨rfl, hb⟩; replace HB := Aside0.mk (below_step (bl HB) hb); (try clear hb); (try clear hb2); (try clear hk); (try clear hi))))
     go_ret3
     exact ⟨rl, bl HB⟩
def fraction_lowest.j0 : Nat → ByteArray → ByteArray → Option (ByteArray × ByteArray)
 | 0, _, _ => none
 | k + 1, x0, x1 => (whole_Gcd.f k x0 x1).bind fun t167 => (if t167.toList = ([49] : List UInt8) then (some (x0, x1)) else ((whole_DivMod.f k x0 t167).bind fun bt168 => ((whole_DivMod.f k x1 t167).bind fun bt171 => (some (bt168.1, bt171.1)))))
def fraction_lowest.f (k : Nat) (a0 : ByteArray) (a1 : ByteArray) : Option (ByteArray × ByteArray) := (whole_Sign.f a1).bind fun t164 => (if t164 < 0 then ((whole_Neg.f a0).bind fun t165 => ((whole_Neg.f a1).bind fun t166 => (fraction_lowest.j0 k t165 t166))) else (fraction_lowest.j0 k a0 a1))
set_option maxHeartbeats 8000000 in
set_option maxRecDepth 100000 in
theorem fraction_lowest.calls (k : Nat) (a0 : ByteArray) (a1 : ByteArray) (r1 : ByteArray) (r2 : ByteArray) (w : World) (hG : Glob w) (h : fraction_lowest.f k a0 a1 = some (r1, r2)) :
  Calls Tryz.prog 81 #[.string a0, .string a1] w fun e w' => e = .returned (.agg #[.string r1, .string r2]) ∧ Below w.heap.size w w' := by
 have hu30 := Tryz.underlying30
 have HG0 := Aside0.mk hG
 clear hG
 have HB := Aside0.mk (Below.refl w.heap.size w)
 have H : ((whole_Sign.f a1).bind fun t164 => (if t164 < 0 then ((whole_Neg.f a0).bind fun t165 => ((whole_Neg.f a1).bind fun t166 => (fraction_lowest.j0 k t165 t166))) else (fraction_lowest.j0 k a0 a1))) = some (r1, r2) := h
 clear h
 replace H := Option.bind_eq_some_iff.mp H
 obtain ⟨t164, A30, H⟩ := H
 replace H : (if t164 < 0 then ((whole_Neg.f a0).bind fun t165 => ((whole_Neg.f a1).bind fun t166 => (fraction_lowest.j0 k t165 t166))) else (fraction_lowest.j0 k a0 a1)) = some (r1, r2) := H
 have A3 := Aside0.mk A30
 clear A30
 have HC4 := Aside0.mk H
 clear H
 go_enter Tryz.func81, Tryz.ntmps81
 go_upto_if 8 with (first | ((with_reducible refine gate_dst (N := 4) rfl ?_); refine boxM (N := 4) #[.string (⟨#[]⟩ : ByteArray), .string (⟨#[]⟩ : ByteArray)] 30 ?_; intro gb163 hg w5 hbox hb; have BK163 := Aside0.mk (hbox); have GW163 := Aside0.mk ((by rw [hg]; exact (below_size (bl HB)) : w.heap.size ≤ gb163)); have GE163 := Aside0.mk ((by rw [hg]; exact (below_size (bl HB)) : w.heap.size ≤ gb163)); replace HB := Aside0.mk (below_step (bl HB) hb); clear hb hbox hg) | ((with_reducible refine gate_callee (f := 54) rfl ?_); refine goesM (some 7) Tryz.func54 #[.string a1] ?_; (with_reducible refine (whole_Sign.calls a1 t164 _ A3.out).mono ?_); rintro e w' ⟨rfl, ⟨nd, rfl⟩⟩; refine ⟨_, rfl, ?_⟩))
 (try simp only [Act.put, List.setIfInBounds_toArray, List.set_cons_zero, List.set_cons_succ])
 go_cut [0, 1] (fun v0 v1 wc => ∃ (kq : Nat) (x0_3 : ByteArray) (x1_3 : ByteArray), v0 = .string x0_3 ∧ v1 = .string x1_3 ∧ Aside0 (fraction_lowest.j0 kq x0_3 x1_3 = some (r1, r2)) ∧ Aside0 (kq ≤ k) ∧ Aside0 (wc.heap[gb163]? = some (.cells #[.string (⟨#[]⟩ : ByteArray), .string (⟨#[]⟩ : ByteArray)] 30 (0, 0))) ∧ Aside0 (Below w.heap.size w wc))
 case first =>
  have H := HC4.out
  clear HC4
  by_cases c6 : t164 < 0
  ·rw [if_pos c6] at H
   have c6b0 : decide (t164 < 0) = true := decide_eq_true c6
   clear c6
   (first | rw [c6b0] | (simp only [i64_w, i32_w]; rw [c6b0]) | skip)
   replace H := Option.bind_eq_some_iff.mp H
   obtain ⟨t165, A70, H⟩ := H
   replace H : ((whole_Neg.f a1).bind fun t166 => (fraction_lowest.j0 k t165 t166)) = some (r1, r2) := H
   have A7 := Aside0.mk A70
   clear A70
   replace H := Option.bind_eq_some_iff.mp H
   obtain ⟨t166, A80, H⟩ := H
   replace H : (fraction_lowest.j0 k t165 t166) = some (r1, r2) := H
   have A8 := Aside0.mk A80
   clear A80
   have H' := Aside0.mk H
   clear H
   go_wp2_with (first | ((with_reducible refine gate_callee (f := 34) rfl ?_); refine goesM (some 10) Tryz.func34 #[.string a0] ?_; (with_reducible refine (whole_Neg.calls a0 t165 _ A7.out).mono ?_); rintro e w' ⟨rfl, ⟨nd, rfl⟩⟩; refine ⟨_, rfl, ?_⟩) | ((with_reducible refine gate_callee (f := 34) rfl ?_); refine goesM (some 12) Tryz.func34 #[.string a1] ?_; (with_reducible refine (whole_Neg.calls a1 t166 _ A8.out).mono ?_); rintro e w' ⟨rfl, ⟨nd, rfl⟩⟩; refine ⟨_, rfl, ?_⟩))
   go_meet
   case rel => exact ⟨_, (t165), (t166), rs, rs, H', ⟨by first | omega | exact Nat.le_refl _⟩, ⟨bk BK163⟩, ⟨bl HB⟩⟩
  ·rw [if_neg c6] at H
   have c6b0 : decide (t164 < 0) = false := decide_eq_false c6
   clear c6
   (first | rw [c6b0] | (simp only [i64_w, i32_w]; rw [c6b0]) | skip)
   have H' := Aside0.mk H
   clear H
   go_wp2
   go_meet
   case rel => exact ⟨_, (a0), (a1), rs, rs, H', ⟨by first | omega | exact Nat.le_refl _⟩, ⟨bk BK163⟩, ⟨bl HB⟩⟩
 case rest =>
  clear HC4
  try clear p2
  try clear c3
  try clear c5
  try clear c6
  try clear c6b0
  try clear c8
  obtain ⟨kq, x0_3, x1_3, rfl, rfl, HA, HJ3, BK163, HB⟩ := hcut
  cases kq with
  | zero => exact absurd HA.out (by simp [fraction_lowest.j0])
  | succ kj3 =>
   have H := HA.out
   clear HA
   simp only [fraction_lowest.j0] at H
   replace H := Option.bind_eq_some_iff.mp H
   obtain ⟨t167, A90, H⟩ := H
   replace H : (if t167.toList = ([49] : List UInt8) then (some (x0_3, x1_3)) else ((whole_DivMod.f kj3 x0_3 t167).bind fun bt168 => ((whole_DivMod.f kj3 x1_3 t167).bind fun bt171 => (some (bt168.1, bt171.1))))) = some (r1, r2) := H
   have A9 := Aside0.mk A90
   clear A90
   by_cases c10 : t167.toList = ([49] : List UInt8)
   ·rw [if_pos c10] at H
    have c10b0 : (t167.toList == ([49] : List UInt8)) = true := beq_iff_eq.mpr c10
    have c10b1 : (t167.toList != ([49] : List UInt8)) = false := bne_eq_false_iff_eq.mpr c10
    clear c10
    simp only [Option.some.injEq, Prod.mk.injEq] at H
    obtain ⟨rfl, rfl⟩ := H
    go_wp2_with (first | ((with_reducible refine gate_callee (f := 55) rfl ?_); refine goesM (some 15) Tryz.func55 #[.string x0_3, .string x1_3] ?_; (with_reducible refine (whole_Gcd.calls kj3 x0_3 x1_3 t167 _ ?side1 A9.out).mono ?_); (case side1 => exact Glob.below HG0.out (bl HB)); rintro e w11 ⟨rfl, hb⟩; refine ⟨_, rfl, ?_⟩; replace BK163 := Aside0.mk (blk_below (g := gb163) (o := .cells #[.string (⟨#[]⟩ : ByteArray), .string (⟨#[]⟩ : ByteArray)] 30 (0, 0)) (bk BK163) hb); replace HB := Aside0.mk (below_step (bl HB) hb); (try clear hb); (try clear hb2); (try clear hk); (try clear hi); have hcz12_0 : w11.cell? ⟨gb163, 0, none⟩ = some (.string (⟨#[]⟩ : ByteArray)) := (blk_cell BK163.out 0).trans rfl; have hcz12_1 : w11.cell? ⟨gb163, 1, none⟩ = some (.string (⟨#[]⟩ : ByteArray)) := (blk_cell BK163.out 1).trans rfl; have hfz12_0 := blk_frozen BK163.out 0; have hfz12_1 := blk_frozen BK163.out 1))
    refine bodyPost_ret (results_cell_row rfl _ _ gb163 30 #[.string x0_3, .string x1_3] (0, 0) _ rfl (by (with_reducible repeat (first | refine blk_drewN ?_ _ | refine blk_drew ?_ | refine blk_alloc ?_ _)); refine blk_put (cs := #[.string x0_3, .string (⟨#[]⟩ : ByteArray)]) ?_ 1 _ rfl; (with_reducible repeat (first | refine blk_drewN ?_ _ | refine blk_drew ?_ | refine blk_alloc ?_ _)); refine blk_put (cs := #[.string (⟨#[]⟩ : ByteArray), .string (⟨#[]⟩ : ByteArray)]) ?_ 0 _ rfl; (with_reducible repeat (first | refine blk_drewN ?_ _ | refine blk_drew ?_ | refine blk_alloc ?_ _)); exact BK163.out) Tryz.underlying30 rfl (by kernel_rfl)) rfl ?_
    exact ⟨rl, bl HB⟩
   ·rw [if_neg c10] at H
    have c10b0 : (t167.toList == ([49] : List UInt8)) = false := beq_eq_false_iff_ne.mpr c10
    have c10b1 : (t167.toList != ([49] : List UInt8)) = true := bne_iff_ne.mpr c10
    replace H := Option.bind_eq_some_iff.mp H
    obtain ⟨⟨t168, t169, t170⟩, A130, H⟩ := H
    replace H : ((whole_DivMod.f kj3 x1_3 t167).bind fun bt171 => (some (t168, bt171.1))) = some (r1, r2) := H
    have A13 := Aside0.mk A130
    clear A130
    replace H := Option.bind_eq_some_iff.mp H
    obtain ⟨⟨t171, t172, t173⟩, A140, H⟩ := H
    replace H : (some (t168, t171)) = some (r1, r2) := H
    have A14 := Aside0.mk A140
    clear A140
    simp only [Option.some.injEq, Prod.mk.injEq] at H
    obtain ⟨rfl, rfl⟩ := H
    go_wp2_with (first | ((with_reducible refine gate_callee (f := 55) rfl ?_); refine goesM (some 15) Tryz.func55 #[.string x0_3, .string x1_3] ?_; (with_reducible refine (whole_Gcd.calls kj3 x0_3 x1_3 t167 _ ?side1 A9.out).mono ?_); (case side1 => exact Glob.below HG0.out (bl HB)); rintro e w15 ⟨rfl, hb⟩; refine ⟨_, rfl, ?_⟩; replace BK163 := Aside0.mk (blk_below (g := gb163) (o := .cells #[.string (⟨#[]⟩ : ByteArray), .string (⟨#[]⟩ : ByteArray)] 30 (0, 0)) (bk BK163) hb); replace HB := Aside0.mk (below_step (bl HB) hb); (try clear hb); (try clear hb2); (try clear hk); (try clear hi)) | ((with_reducible refine gate_callee (f := 107) rfl ?_); refine goesM (some 21) Tryz.func107 #[.string x0_3, .string t167] ?_; (with_reducible refine (whole_DivMod.calls kj3 x0_3 t167 t168 t169 t170 _ ?side1 A13.out).mono ?_); (case side1 => exact Glob.below HG0.out (bl HB)); rintro e w16 ⟨rfl, hb⟩; refine ⟨_, rfl, ?_⟩; replace BK163 := Aside0.mk (blk_below (g := gb163) (o := .cells #[.string (⟨#[]⟩ : ByteArray), .string (⟨#[]⟩ : ByteArray)] 30 (0, 0)) (bk BK163) hb); replace HB := Aside0.mk (below_step (bl HB) hb); (try clear hb); (try clear hb2); (try clear hk); (try clear hi)) | ((with_reducible refine gate_callee (f := 107) rfl ?_); refine goesM (some 28) Tryz.func107 #[.string x1_3, .string t167] ?_; (with_reducible refine (whole_DivMod.calls kj3 x1_3 t167 t171 t172 t173 _ ?side1 A14.out).mono ?_); (case side1 => exact Glob.below HG0.out (bl HB)); rintro e w17 ⟨rfl, hb⟩; refine ⟨_, rfl, ?_⟩; replace BK163 := Aside0.mk (blk_below (g := gb163) (o := .cells #[.string (⟨#[]⟩ : ByteArray), .string (⟨#[]⟩ : ByteArray)] 30 (0, 0)) (bk BK163) hb); replace HB := Aside0.mk (below_step (bl HB) hb); (try clear hb); (try clear hb2); (try clear hk); (try clear hi); have hcz18_0 : w17.cell? ⟨gb163, 0, none⟩ = some (.string (⟨#[]⟩ : ByteArray)) := (blk_cell BK163.out 0).trans rfl; have hcz18_1 : w17.cell? ⟨gb163, 1, none⟩ = some (.string (⟨#[]⟩ : ByteArray)) := (blk_cell BK163.out 1).trans rfl; have hfz18_0 := blk_frozen BK163.out 0; have hfz18_1 := blk_frozen BK163.out 1))
    refine bodyPost_ret (results_cell_row rfl _ _ gb163 30 #[.string t168, .string t171] (0, 0) _ rfl (by (with_reducible repeat (first | refine blk_drewN ?_ _ | refine blk_drew ?_ | refine blk_alloc ?_ _)); refine blk_put (cs := #[.string t168, .string (⟨#[]⟩ : ByteArray)]) ?_ 1 _ rfl; (with_reducible repeat (first | refine blk_drewN ?_ _ | refine blk_drew ?_ | refine blk_alloc ?_ _)); refine blk_put (cs := #[.string (⟨#[]⟩ : ByteArray), .string (⟨#[]⟩ : ByteArray)]) ?_ 0 _ rfl; (with_reducible repeat (first | refine blk_drewN ?_ _ | refine blk_drew ?_ | refine blk_alloc ?_ _)); exact BK163.out) Tryz.underlying30 rfl (by kernel_rfl)) rfl ?_
    exact ⟨rl, bl HB⟩
def fraction_New.f (k : Nat) (a0 : ByteArray) (a1 : ByteArray) : Option (ByteArray × ByteArray × Int) := (whole_Sign.f a1).bind fun t175 => (if t175 = 0 then (some ((⟨#[]⟩ : ByteArray), (⟨#[]⟩ : ByteArray), 17)) else ((fraction_lowest.f k a0 a1).bind fun bt176 => (some (bt176.1, bt176.2, 0))))
set_option maxHeartbeats 8000000 in
set_option maxRecDepth 100000 in
theorem fraction_New.calls (k : Nat) (a0 : ByteArray) (a1 : ByteArray) (r1 : ByteArray) (r2 : ByteArray) (r3 : Int) (w : World) (hG : Glob w) (h : fraction_New.f k a0 a1 = some (r1, r2, r3)) :
  Calls Tryz.prog 105 #[.string a0, .string a1] w fun e w' => e = .returned (.tuple #[.agg #[.string r1, .string r2], .int .i64 r3]) ∧ Below w.heap.size w w' := by
 have hu30 := Tryz.underlying30
 have HG0 := Aside0.mk hG
 clear hG
 have HB := Aside0.mk (Below.refl w.heap.size w)
 have H : ((whole_Sign.f a1).bind fun t175 => (if t175 = 0 then (some ((⟨#[]⟩ : ByteArray), (⟨#[]⟩ : ByteArray), 17)) else ((fraction_lowest.f k a0 a1).bind fun bt176 => (some (bt176.1, bt176.2, 0))))) = some (r1, r2, r3) := h
 clear h
 replace H := Option.bind_eq_some_iff.mp H
 obtain ⟨t175, A30, H⟩ := H
 replace H : (if t175 = 0 then (some ((⟨#[]⟩ : ByteArray), (⟨#[]⟩ : ByteArray), 17)) else ((fraction_lowest.f k a0 a1).bind fun bt176 => (some (bt176.1, bt176.2, 0)))) = some (r1, r2, r3) := H
 have A3 := Aside0.mk A30
 clear A30
 by_cases c4 : t175 = 0
 ·rw [if_pos c4] at H
  have c4b0 : (t175 == 0) = true := beq_iff_eq.mpr c4
  have c4b1 : (t175 != 0) = false := bne_eq_false_iff_eq.mpr c4
  clear c4
  simp only [Option.some.injEq, Prod.mk.injEq] at H
  obtain ⟨rfl, rfl, rfl⟩ := H
  go_enter Tryz.func105, Tryz.ntmps105
  go_wp2_with (first | ((with_reducible refine gate_dst (N := 4) rfl ?_); refine boxM (N := 4) #[.string (⟨#[]⟩ : ByteArray), .string (⟨#[]⟩ : ByteArray)] 30 ?_; intro gb174 hg w5 hbox hb; have BK174 := Aside0.mk (hbox); have GW174 := Aside0.mk ((by rw [hg]; exact (below_size (bl HB)) : w.heap.size ≤ gb174)); have GE174 := Aside0.mk ((by rw [hg]; exact (below_size (bl HB)) : w.heap.size ≤ gb174)); replace HB := Aside0.mk (below_step (bl HB) hb); clear hb hbox hg) | ((with_reducible refine gate_callee (f := 54) rfl ?_); refine goesM (some 7) Tryz.func54 #[.string a1] ?_; (with_reducible refine (whole_Sign.calls a1 t175 _ A3.out).mono ?_); rintro e w' ⟨rfl, ⟨nd, rfl⟩⟩; refine ⟨_, rfl, ?_⟩; (try (rw [drewN_self w5]; generalize hq_ : World.drewN w5 _ = w5; have n0_ : Aside0 (w5.heap[gb174]? = some (.cells #[.string (⟨#[]⟩ : ByteArray), .string (⟨#[]⟩ : ByteArray)] 30 (0, 0))) := ⟨by rw [← hq_]; exact (bk BK174)⟩; have n1_ : Aside0 (Below w.heap.size w w5) := ⟨by rw [← hq_]; exact (bl HB)⟩; clear BK174 HB hq_; have BK174 := n0_; have HB := n1_; clear n0_ n1_)); have hcz6_0 : w5.cell? ⟨gb174, 0, none⟩ = some (.string (⟨#[]⟩ : ByteArray)) := (blk_cell BK174.out 0).trans rfl; have hcz6_1 : w5.cell? ⟨gb174, 1, none⟩ = some (.string (⟨#[]⟩ : ByteArray)) := (blk_cell BK174.out 1).trans rfl; have hfz6_0 := blk_frozen BK174.out 0; have hfz6_1 := blk_frozen BK174.out 1))
  refine bodyPost_ret (results_ct rfl _ _ gb174 30 #[.string (⟨#[]⟩ : ByteArray), .string (⟨#[]⟩ : ByteArray)] (0, 0) _ rfl (by (with_reducible repeat (first | refine blk_drewN ?_ _ | refine blk_drew ?_ | refine blk_alloc ?_ _)); refine blk_put (cs := #[.string (⟨#[]⟩ : ByteArray), .string (⟨#[]⟩ : ByteArray)]) ?_ 1 _ rfl; (with_reducible repeat (first | refine blk_drewN ?_ _ | refine blk_drew ?_ | refine blk_alloc ?_ _)); refine blk_put (cs := #[.string (⟨#[]⟩ : ByteArray), .string (⟨#[]⟩ : ByteArray)]) ?_ 0 _ rfl; (with_reducible repeat (first | refine blk_drewN ?_ _ | refine blk_drew ?_ | refine blk_alloc ?_ _)); exact BK174.out) Tryz.underlying30 rfl (by kernel_rfl)) rfl ?_
  exact ⟨rl, bl HB⟩
 ·rw [if_neg c4] at H
  have c4b0 : (t175 == 0) = false := beq_eq_false_iff_ne.mpr c4
  have c4b1 : (t175 != 0) = true := bne_iff_ne.mpr c4
  replace H := Option.bind_eq_some_iff.mp H
  obtain ⟨⟨t176, t177⟩, A70, H⟩ := H
  replace H : (some (t176, t177, 0)) = some (r1, r2, r3) := H
  have A7 := Aside0.mk A70
  clear A70
  simp only [Option.some.injEq, Prod.mk.injEq] at H
  obtain ⟨rfl, rfl, rfl⟩ := H
  go_enter Tryz.func105, Tryz.ntmps105
  go_wp2_with (first | ((with_reducible refine gate_dst (N := 4) rfl ?_); refine boxM (N := 4) #[.string (⟨#[]⟩ : ByteArray), .string (⟨#[]⟩ : ByteArray)] 30 ?_; intro gb174 hg w8 hbox hb; have BK174 := Aside0.mk (hbox); have GW174 := Aside0.mk ((by rw [hg]; exact (below_size (bl HB)) : w.heap.size ≤ gb174)); have GE174 := Aside0.mk ((by rw [hg]; exact (below_size (bl HB)) : w.heap.size ≤ gb174)); replace HB := Aside0.mk (below_step (bl HB) hb); clear hb hbox hg) | ((with_reducible refine gate_callee (f := 54) rfl ?_); refine goesM (some 7) Tryz.func54 #[.string a1] ?_; (with_reducible refine (whole_Sign.calls a1 t175 _ A3.out).mono ?_); rintro e w' ⟨rfl, ⟨nd, rfl⟩⟩; refine ⟨_, rfl, ?_⟩; (try (rw [drewN_self w8]; generalize hq_ : World.drewN w8 _ = w8; have n0_ : Aside0 (w8.heap[gb174]? = some (.cells #[.string (⟨#[]⟩ : ByteArray), .string (⟨#[]⟩ : ByteArray)] 30 (0, 0))) := ⟨by rw [← hq_]; exact (bk BK174)⟩; have n1_ : Aside0 (Below w.heap.size w w8) := ⟨by rw [← hq_]; exact (bl HB)⟩; clear BK174 HB hq_; have BK174 := n0_; have HB := n1_; clear n0_ n1_))) | ((with_reducible refine gate_callee (f := 81) rfl ?_); refine goesM (some 12) Tryz.func81 #[.string a0, .string a1] ?_; (with_reducible refine (fraction_lowest.calls k a0 a1 t176 t177 _ ?side1 A7.out).mono ?_); (case side1 => exact Glob.below HG0.out (bl HB)); rintro e w9 ⟨rfl, hb⟩; refine ⟨_, rfl, ?_⟩; replace BK174 := Aside0.mk (blk_below (g := gb174) (o := .cells #[.string (⟨#[]⟩ : ByteArray), .string (⟨#[]⟩ : ByteArray)] 30 (0, 0)) (bk BK174) hb); replace HB := Aside0.mk (below_step (bl HB) hb); (try clear hb); (try clear hb2); (try clear hk); (try clear hi); have hcz10_0 : w9.cell? ⟨gb174, 0, none⟩ = some (.string (⟨#[]⟩ : ByteArray)) := (blk_cell BK174.out 0).trans rfl; have hcz10_1 : w9.cell? ⟨gb174, 1, none⟩ = some (.string (⟨#[]⟩ : ByteArray)) := (blk_cell BK174.out 1).trans rfl; have hfz10_0 := blk_frozen BK174.out 0; have hfz10_1 := blk_frozen BK174.out 1))
  refine bodyPost_ret (results_ct rfl _ _ gb174 30 #[.string t176, .string t177] (0, 0) _ rfl (by (with_reducible repeat (first | refine blk_drewN ?_ _ | refine blk_drew ?_ | refine blk_alloc ?_ _)); refine blk_put (cs := #[.string t176, .string (⟨#[]⟩ : ByteArray)]) ?_ 1 _ rfl; (with_reducible repeat (first | refine blk_drewN ?_ _ | refine blk_drew ?_ | refine blk_alloc ?_ _)); refine blk_put (cs := #[.string (⟨#[]⟩ : ByteArray), .string (⟨#[]⟩ : ByteArray)]) ?_ 0 _ rfl; (with_reducible repeat (first | refine blk_drewN ?_ _ | refine blk_drew ?_ | refine blk_alloc ?_ _)); exact BK174.out) Tryz.underlying30 rfl (by kernel_rfl)) rfl ?_
  exact ⟨rl, bl HB⟩
def fraction_Of.f (k : Nat) (a0 : Int) (a1 : Int) : Option (ByteArray × ByteArray × Int) := (whole_Of.f a0).bind fun t179 => ((whole_Of.f a1).bind fun t180 => ((fraction_New.f k t179 t180).bind fun bt181 => (some (bt181.1, bt181.2.1, bt181.2.2))))
set_option maxHeartbeats 8000000 in
set_option maxRecDepth 100000 in
theorem fraction_Of.calls (k : Nat) (a0 : Int) (a1 : Int) (r1 : ByteArray) (r2 : ByteArray) (r3 : Int) (w : World) (hG : Glob w) (h : fraction_Of.f k a0 a1 = some (r1, r2, r3)) :
  Calls Tryz.prog 61 #[.int .i64 a0, .int .i64 a1] w fun e w' => e = .returned (.tuple #[.agg #[.string r1, .string r2], .int .i64 r3]) ∧ Below w.heap.size w w' := by
 have hu30 := Tryz.underlying30
 have HG0 := Aside0.mk hG
 clear hG
 have HB := Aside0.mk (Below.refl w.heap.size w)
 have H : ((whole_Of.f a0).bind fun t179 => ((whole_Of.f a1).bind fun t180 => ((fraction_New.f k t179 t180).bind fun bt181 => (some (bt181.1, bt181.2.1, bt181.2.2))))) = some (r1, r2, r3) := h
 clear h
 replace H := Option.bind_eq_some_iff.mp H
 obtain ⟨t179, A30, H⟩ := H
 replace H : ((whole_Of.f a1).bind fun t180 => ((fraction_New.f k t179 t180).bind fun bt181 => (some (bt181.1, bt181.2.1, bt181.2.2)))) = some (r1, r2, r3) := H
 have A3 := Aside0.mk A30
 clear A30
 replace H := Option.bind_eq_some_iff.mp H
 obtain ⟨t180, A40, H⟩ := H
 replace H : ((fraction_New.f k t179 t180).bind fun bt181 => (some (bt181.1, bt181.2.1, bt181.2.2))) = some (r1, r2, r3) := H
 have A4 := Aside0.mk A40
 clear A40
 replace H := Option.bind_eq_some_iff.mp H
 obtain ⟨⟨t181, t182, t183⟩, A50, H⟩ := H
 replace H : (some (t181, t182, t183)) = some (r1, r2, r3) := H
 have A5 := Aside0.mk A50
 clear A50
 simp only [Option.some.injEq, Prod.mk.injEq] at H
 obtain ⟨rfl, rfl, rfl⟩ := H
 go_enter Tryz.func61, Tryz.ntmps61
 go_wp2_with (first | ((with_reducible refine gate_dst (N := 4) rfl ?_); refine boxM (N := 4) #[.string (⟨#[]⟩ : ByteArray), .string (⟨#[]⟩ : ByteArray)] 30 ?_; intro gb178 hg w6 hbox hb; have BK178 := Aside0.mk (hbox); have GW178 := Aside0.mk ((by rw [hg]; exact (below_size (bl HB)) : w.heap.size ≤ gb178)); have GE178 := Aside0.mk ((by rw [hg]; exact (below_size (bl HB)) : w.heap.size ≤ gb178)); replace HB := Aside0.mk (below_step (bl HB) hb); clear hb hbox hg) | ((with_reducible refine gate_callee (f := 97) rfl ?_); refine goesM (some 7) Tryz.func97 #[.int .i64 a0] ?_; (with_reducible refine (whole_Of.calls a0 t179 _ ?side1 A3.out).mono ?_); (case side1 => exact Glob.below HG0.out (bl HB)); rintro e w7 ⟨rfl, hb⟩; refine ⟨_, rfl, ?_⟩; replace BK178 := Aside0.mk (blk_below (g := gb178) (o := .cells #[.string (⟨#[]⟩ : ByteArray), .string (⟨#[]⟩ : ByteArray)] 30 (0, 0)) (bk BK178) hb); replace HB := Aside0.mk (below_step (bl HB) hb); (try clear hb); (try clear hb2); (try clear hk); (try clear hi)) | ((with_reducible refine gate_callee (f := 97) rfl ?_); refine goesM (some 9) Tryz.func97 #[.int .i64 a1] ?_; (with_reducible refine (whole_Of.calls a1 t180 _ ?side1 A4.out).mono ?_); (case side1 => exact Glob.below HG0.out (bl HB)); rintro e w8 ⟨rfl, hb⟩; refine ⟨_, rfl, ?_⟩; replace BK178 := Aside0.mk (blk_below (g := gb178) (o := .cells #[.string (⟨#[]⟩ : ByteArray), .string (⟨#[]⟩ : ByteArray)] 30 (0, 0)) (bk BK178) hb); replace HB := Aside0.mk (below_step (bl HB) hb); (try clear hb); (try clear hb2); (try clear hk); (try clear hi)) | ((with_reducible refine gate_callee (f := 105) rfl ?_); refine goesM (some 10) Tryz.func105 #[.string t179, .string t180] ?_; (with_reducible refine (fraction_New.calls k t179 t180 t181 t182 t183 _ ?side1 A5.out).mono ?_); (case side1 => exact Glob.below HG0.out (bl HB)); rintro e w9 ⟨rfl, hb⟩; refine ⟨_, rfl, ?_⟩; replace BK178 := Aside0.mk (blk_below (g := gb178) (o := .cells #[.string (⟨#[]⟩ : ByteArray), .string (⟨#[]⟩ : ByteArray)] 30 (0, 0)) (bk BK178) hb); replace HB := Aside0.mk (below_step (bl HB) hb); (try clear hb); (try clear hb2); (try clear hk); (try clear hi); have hcz10_0 : w9.cell? ⟨gb178, 0, none⟩ = some (.string (⟨#[]⟩ : ByteArray)) := (blk_cell BK178.out 0).trans rfl; have hcz10_1 : w9.cell? ⟨gb178, 1, none⟩ = some (.string (⟨#[]⟩ : ByteArray)) := (blk_cell BK178.out 1).trans rfl; have hfz10_0 := blk_frozen BK178.out 0; have hfz10_1 := blk_frozen BK178.out 1))
 refine bodyPost_ret (results_ct rfl _ _ gb178 30 #[.string t181, .string t182] (0, 0) _ rfl (by (with_reducible repeat (first | refine blk_drewN ?_ _ | refine blk_drew ?_ | refine blk_alloc ?_ _)); refine blk_put (cs := #[.string t181, .string (⟨#[]⟩ : ByteArray)]) ?_ 1 _ rfl; (with_reducible repeat (first | refine blk_drewN ?_ _ | refine blk_drew ?_ | refine blk_alloc ?_ _)); refine blk_put (cs := #[.string (⟨#[]⟩ : ByteArray), .string (⟨#[]⟩ : ByteArray)]) ?_ 0 _ rfl; (with_reducible repeat (first | refine blk_drewN ?_ _ | refine blk_drew ?_ | refine blk_alloc ?_ _)); exact BK178.out) Tryz.underlying30 rfl (by kernel_rfl)) rfl ?_
 exact ⟨rl, bl HB⟩
def schismalaw13_part.f (k : Nat) (a0 : Int) (a1 : Int) : Option (ByteArray × ByteArray) := (fraction_Of.f k a0 a1).bind fun bt185 => (some (bt185.1, bt185.2.1))
set_option maxHeartbeats 8000000 in
set_option maxRecDepth 100000 in
theorem schismalaw13_part.calls (k : Nat) (a0 : Int) (a1 : Int) (r1 : ByteArray) (r2 : ByteArray) (w : World) (hG : Glob w) (h : schismalaw13_part.f k a0 a1 = some (r1, r2)) :
  Calls Tryz.prog 18 #[.int .i64 a0, .int .i64 a1] w fun e w' => e = .returned (.agg #[.string r1, .string r2]) ∧ Below w.heap.size w w' := by
 have hu30 := Tryz.underlying30
 have HG0 := Aside0.mk hG
 clear hG
 have HB := Aside0.mk (Below.refl w.heap.size w)
 have H : ((fraction_Of.f k a0 a1).bind fun bt185 => (some (bt185.1, bt185.2.1))) = some (r1, r2) := h
 clear h
 replace H := Option.bind_eq_some_iff.mp H
 obtain ⟨⟨t185, t186, t187⟩, A30, H⟩ := H
 replace H : (some (t185, t186)) = some (r1, r2) := H
 have A3 := Aside0.mk A30
 clear A30
 simp only [Option.some.injEq, Prod.mk.injEq] at H
 obtain ⟨rfl, rfl⟩ := H
 go_enter Tryz.func18, Tryz.ntmps18
 go_wp2_with (first | ((with_reducible refine gate_dst (N := 4) rfl ?_); refine boxM (N := 4) #[.string (⟨#[]⟩ : ByteArray), .string (⟨#[]⟩ : ByteArray)] 30 ?_; intro gb184 hg w4 hbox hb; have BK184 := Aside0.mk (hbox); have GW184 := Aside0.mk ((by rw [hg]; exact (below_size (bl HB)) : w.heap.size ≤ gb184)); have GE184 := Aside0.mk ((by rw [hg]; exact (below_size (bl HB)) : w.heap.size ≤ gb184)); replace HB := Aside0.mk (below_step (bl HB) hb); clear hb hbox hg) | ((with_reducible refine gate_callee (f := 61) rfl ?_); refine goesM (some 10) Tryz.func61 #[.int .i64 a0, .int .i64 a1] ?_; (with_reducible refine (fraction_Of.calls k a0 a1 t185 t186 t187 _ ?side1 A3.out).mono ?_); (case side1 => exact Glob.below HG0.out (bl HB)); rintro e w5 ⟨rfl, hb⟩; refine ⟨_, rfl, ?_⟩; replace BK184 := Aside0.mk (blk_below (g := gb184) (o := .cells #[.string (⟨#[]⟩ : ByteArray), .string (⟨#[]⟩ : ByteArray)] 30 (0, 0)) (bk BK184) hb); replace HB := Aside0.mk (below_step (bl HB) hb); (try clear hb); (try clear hb2); (try clear hk); (try clear hi)) | ((with_reducible refine gate_dst (N := 5) rfl ?_); refine boxM (N := 5) #[.string (⟨#[]⟩ : ByteArray), .string (⟨#[]⟩ : ByteArray)] 30 ?_; intro gb188 hg w6 hbox hb; have BK188 := Aside0.mk (hbox); have GW188 := Aside0.mk ((by rw [hg]; exact (below_size (bl HB)) : w.heap.size ≤ gb188)); have GE188 := Aside0.mk ((by rw [hg]; exact (below_size (bl HB)) : w.heap.size ≤ gb188)); replace HB := Aside0.mk (below_step (bl HB) hb); have NB184_188 := Aside0.mk ((by rw [hg]; exact Nat.ne_of_lt (blk_lt (g := gb184) (o := .cells #[.string (⟨#[]⟩ : ByteArray), .string (⟨#[]⟩ : ByteArray)] 30 (0, 0)) (bk BK184)) : gb184 ≠ gb188)); have NB188_184 := Aside0.mk ((by rw [hg]; exact Nat.ne_of_gt (blk_lt (g := gb184) (o := .cells #[.string (⟨#[]⟩ : ByteArray), .string (⟨#[]⟩ : ByteArray)] 30 (0, 0)) (bk BK184)) : gb188 ≠ gb184)); replace BK184 := Aside0.mk (blk_below (g := gb184) (o := .cells #[.string (⟨#[]⟩ : ByteArray), .string (⟨#[]⟩ : ByteArray)] 30 (0, 0)) (bk BK184) hb); clear hb hbox hg; have hnb7 := NB188_184.out; have hnc7 := NB184_188.out; have hcz8_0 : w6.cell? ⟨gb188, 0, none⟩ = some (.string (⟨#[]⟩ : ByteArray)) := (blk_cell BK188.out 0).trans rfl; have hcz8_1 : w6.cell? ⟨gb188, 1, none⟩ = some (.string (⟨#[]⟩ : ByteArray)) := (blk_cell BK188.out 1).trans rfl; have hfz8_0 := blk_frozen BK188.out 0; have hfz8_1 := blk_frozen BK188.out 1; have hcz9_0 : w6.cell? ⟨gb184, 0, none⟩ = some (.string (⟨#[]⟩ : ByteArray)) := (blk_cell BK184.out 0).trans rfl; have hcz9_1 : w6.cell? ⟨gb184, 1, none⟩ = some (.string (⟨#[]⟩ : ByteArray)) := (blk_cell BK184.out 1).trans rfl; have hfz9_0 := blk_frozen BK184.out 0; have hfz9_1 := blk_frozen BK184.out 1))
 refine bodyPost_ret (results_cell_row rfl _ _ gb184 30 #[.string t185, .string t186] (0, 0) _ rfl (by (with_reducible repeat (first | refine blk_drewN ?_ _ | refine blk_drew ?_ | refine blk_alloc ?_ _)); refine blk_put (cs := #[.string t185, .string (⟨#[]⟩ : ByteArray)]) ?_ 1 _ rfl; (with_reducible repeat (first | refine blk_drewN ?_ _ | refine blk_drew ?_ | refine blk_alloc ?_ _)); refine blk_put (cs := #[.string (⟨#[]⟩ : ByteArray), .string (⟨#[]⟩ : ByteArray)]) ?_ 0 _ rfl; (with_reducible repeat (first | refine blk_drewN ?_ _ | refine blk_drew ?_ | refine blk_alloc ?_ _)); refine blk_far ?_ NB184_188.out _; (with_reducible repeat (first | refine blk_drewN ?_ _ | refine blk_drew ?_ | refine blk_alloc ?_ _)); refine blk_far ?_ NB184_188.out _; (with_reducible repeat (first | refine blk_drewN ?_ _ | refine blk_drew ?_ | refine blk_alloc ?_ _)); exact BK184.out) Tryz.underlying30 rfl (by kernel_rfl)) rfl ?_
 exact ⟨rl, bl HB⟩
mutual
def prime_IsPrime.j0 : Nat → Int → Bool → Option (Bool)
 | 0, _, _ => none
 | k + 1, x0, x9 => if x9 = true then (some false) else (prime_IsPrime.l0 k x0 2)
def prime_IsPrime.l0 : Nat → Int → Int → Option (Bool)
 | 0, _, _ => none
 | k + 1, x0, x3 => if (wrap64 (x3 * x3)) ≤ x0 then (if x3 = 0 then (none) else (if (Int.tmod x0 x3) = 0 then (some false) else (prime_IsPrime.l0 k x0 (wrap64 (x3 + 1))))) else (some true)
end
def prime_IsPrime.f (k : Nat) (a0 : Int) : Option (Bool) := if a0 < 2 then (prime_IsPrime.j0 k a0 true) else (prime_IsPrime.j0 k a0 (decide (a0 > 97)))
theorem prime_IsPrime.mono_l : ∀ k, (∀ y0 y1, LeO (prime_IsPrime.j0 k y0 y1) (prime_IsPrime.j0 (k + 1) y0 y1)) ∧ (∀ y0 y1, LeO (prime_IsPrime.l0 k y0 y1) (prime_IsPrime.l0 (k + 1) y0 y1))
 | 0 => ⟨fun _ _ r h => by simp [prime_IsPrime.j0] at h, fun _ _ r h => by simp [prime_IsPrime.l0] at h⟩
 | k + 1 => by
  obtain ⟨ih0, ih1⟩ := prime_IsPrime.mono_l k
  refine ⟨?_, ?_⟩
  ·intro y0 y1
   unfold prime_IsPrime.j0
   repeat' first
   | (with_reducible exact ih0 _ _)
   | (with_reducible exact ih1 _ _)
   | (with_reducible exact LeO.refl _)
   | (with_reducible exact LeO.none _)
   | (with_reducible refine LeO.ite ?_ ?_)
   | (with_reducible refine LeO.bind ?_ (fun _ => ?_))
   | exact ih0 _ _
   | exact ih1 _ _
   | exact LeO.none _
   | refine LeO.ite ?_ ?_
   | refine LeO.bind ?_ (fun _ => ?_)
  ·intro y0 y1
   unfold prime_IsPrime.l0
   repeat' first
   | (with_reducible exact ih0 _ _)
   | (with_reducible exact ih1 _ _)
   | (with_reducible exact LeO.refl _)
   | (with_reducible exact LeO.none _)
   | (with_reducible refine LeO.ite ?_ ?_)
   | (with_reducible refine LeO.bind ?_ (fun _ => ?_))
   | exact ih0 _ _
   | exact ih1 _ _
   | exact LeO.none _
   | refine LeO.ite ?_ ?_
   | refine LeO.bind ?_ (fun _ => ?_)
theorem prime_IsPrime.mono : ∀ a0 k, LeO (prime_IsPrime.f k a0) (prime_IsPrime.f (k + 1) a0) := by
 intro a0 k
 obtain ⟨ih0, ih1⟩ := prime_IsPrime.mono_l k
 unfold prime_IsPrime.f
 repeat' first
   | (with_reducible exact ih0 _ _)
   | (with_reducible exact ih1 _ _)
   | (with_reducible exact LeO.refl _)
   | (with_reducible exact LeO.none _)
   | (with_reducible refine LeO.ite ?_ ?_)
   | (with_reducible refine LeO.bind ?_ (fun _ => ?_))
   | exact ih0 _ _
   | exact ih1 _ _
   | exact LeO.none _
   | refine LeO.ite ?_ ?_
   | refine LeO.bind ?_ (fun _ => ?_)
set_option maxHeartbeats 8000000 in
set_option maxRecDepth 100000 in
theorem prime_IsPrime.calls (k : Nat) (a0 : Int) (r : Bool) (w : World) (h : prime_IsPrime.f k a0 = some r) :
  Calls Tryz.prog 84 #[.int .i64 a0] w fun e w' => e = .returned (.bool r) ∧ Drawn0 w w' := by
 have H : (if a0 < 2 then (prime_IsPrime.j0 k a0 true) else (prime_IsPrime.j0 k a0 (decide (a0 > 97)))) = some r := h
 clear h
 have HC2 := Aside0.mk H
 clear H
 go_enter Tryz.func84, Tryz.ntmps84
 go_upto_region 1 with (fail)
 go_cut [9] (fun v9 wc => ∃ (kq : Nat) (x9_1 : Bool), v9 = .bool x9_1 ∧ Aside0 (prime_IsPrime.j0 kq a0 x9_1 = some r) ∧ Aside0 (kq ≤ k) ∧ Drawn0 w wc)
 case first =>
  have H := HC2.out
  clear HC2
  by_cases c3 : a0 < 2
  ·rw [if_pos c3] at H
   have c3b0 : decide (a0 < 2) = true := decide_eq_true c3
   clear c3
   (first | rw [c3b0] | (simp only [i64_w, i32_w]; rw [c3b0]) | skip)
   have H' := Aside0.mk H
   clear H
   go_wp2
   go_meet
   case rel => exact ⟨_, (true), rs, H', ⟨by first | omega | exact Nat.le_refl _⟩, by repeat (first | exact Drawn0.refl _ | apply Drawn0.step)⟩
  ·rw [if_neg c3] at H
   have c3b0 : decide (a0 < 2) = false := decide_eq_false c3
   clear c3
   (first | rw [c3b0] | (simp only [i64_w, i32_w]; rw [c3b0]) | skip)
   have H' := Aside0.mk H
   clear H
   go_wp2
   go_meet
   case rel => exact ⟨_, (decide (a0 > 97)), rs, H', ⟨by first | omega | exact Nat.le_refl _⟩, by repeat (first | exact Drawn0.refl _ | apply Drawn0.step)⟩
 case rest =>
  clear HC2
  try clear p2
  try clear c3
  try clear c3b0
  obtain ⟨kq, x9_1, rfl, HA, HJ1, ⟨mc1, rfl⟩⟩ := hcut
  cases kq with
  | zero => exact absurd HA.out (by simp [prime_IsPrime.j0])
  | succ kj1 =>
   have H := HA.out
   clear HA
   simp only [prime_IsPrime.j0] at H
   by_cases c4 : x9_1 = true
   ·subst c4
    have H1 : (some false) = some r := by rw [if_pos rfl] at H; exact H
    clear H
    have H := H1
    clear H1
    obtain rfl := Option.some.inj H
    go_wp2
    go_ret
    exact ⟨by first | rfl | (simp; done) | (simp [*]; done), by repeat (first | exact Drawn0.refl _ | apply Drawn0.step)⟩
   ·replace c4 := Bool.eq_false_iff.mpr c4
    subst c4
    have H1 : (prime_IsPrime.l0 kj1 a0 2) = some r := by rw [if_neg (show ¬ (false = true) by decide)] at H; exact H
    clear H
    have H := H1
    clear H1
    have H' := Aside0.mk H
    clear H
    go_wp2
    go_loopg [3] kj1 (fun kq v3 w' => ∃ (x3_2 : Int), v3 = .int .i64 x3_2 ∧ Aside0 (prime_IsPrime.l0 kq a0 x3_2 = some r) ∧ Aside0 (kq ≤ kj1) ∧ Drawn0 w w')
    case atStart => exact ⟨(2), rs, H', ⟨Nat.le_refl _⟩, by repeat (first | exact Drawn0.refl _ | apply Drawn0.step)⟩
    case round =>
     clear H'
     try clear c1
     try clear p2
     try clear c3
     try clear c3b0
     try clear c4
     try clear p2
     obtain ⟨x3_2, rfl, HA, HK2, ⟨m2, rfl⟩⟩ := hrel
     cases gk with
     | zero => exact absurd HA.out (by simp [prime_IsPrime.l0])
     | succ k2 =>
      have H := HA.out
      clear HA
      simp only [prime_IsPrime.l0] at H
      by_cases c5 : (wrap64 (x3_2 * x3_2)) ≤ a0
      ·rw [if_pos c5] at H
       have c5b0 : decide ((wrap64 (x3_2 * x3_2)) ≤ a0) = true := decide_eq_true c5
       clear c5
       by_cases c6 : x3_2 = 0
       ·rw [if_pos c6] at H
        exact absurd H (by simp)
       ·rw [if_neg c6] at H
        have c6b0 : (x3_2 == 0) = false := beq_eq_false_iff_ne.mpr c6
        have c6b1 : (x3_2 != 0) = true := bne_iff_ne.mpr c6
        by_cases c7 : (Int.tmod a0 x3_2) = 0
        ·rw [if_pos c7] at H
         have c7b0 : ((Int.tmod a0 x3_2) == 0) = true := beq_iff_eq.mpr c7
         have c7b1 : ((Int.tmod a0 x3_2) != 0) = false := bne_eq_false_iff_eq.mpr c7
         clear c7
         obtain rfl := Option.some.inj H
         go_wp2
         go_ret
         exact ⟨by first | rfl | (simp; done) | (simp [*]; done), by repeat (first | exact Drawn0.refl _ | apply Drawn0.step)⟩
        ·rw [if_neg c7] at H
         have c7b0 : ((Int.tmod a0 x3_2) == 0) = false := beq_eq_false_iff_ne.mpr c7
         have c7b1 : ((Int.tmod a0 x3_2) != 0) = true := bne_iff_ne.mpr c7
         have H' := Aside0.mk H
         clear H
         go_wp2
         go_roundg k2
         case measure => have := HJ1.out; have := HK2.out; omega
         case rel => exact ⟨(wrap64 (x3_2 + 1)), rs, H', ⟨by have := HJ1.out; have := HK2.out; omega⟩, by repeat (first | exact Drawn0.refl _ | apply Drawn0.step)⟩
      ·rw [if_neg c5] at H
       have c5b0 : decide ((wrap64 (x3_2 * x3_2)) ≤ a0) = false := decide_eq_false c5
       clear c5
       obtain rfl := Option.some.inj H
       go_wp2
       go_ret
       exact ⟨by first | rfl | (simp; done) | (simp [*]; done), by repeat (first | exact Drawn0.refl _ | apply Drawn0.step)⟩
end Go.Proofs.YtailoobjgbldgaaGreatDoor.P
end
section
namespace Go.Proofs.YtailoobjgbldgaaGreatDoor.P
open Go.RowKit Go.Proofs.YtailoobjgbldgaaGreatDoorW.PrintWords Go.Proofs.YtailoobjgbldgaaGreatDoorW.PrintLast Go.Proofs.YtailoobjgbldgaaGreatDoorW.PrintMore
attribute [local go_sem] max2_int min2_int max_two min_two max_three min_three max_four min_four   
set_option linter.unusedVariables false
set_option linter.unusedSimpArgs false
def prime_Check.l0 : Nat → List Int → List Int → Int → Int → Option (Int)
 | 0, _, _, _, _ => none
 | k + 1, x0, x13, x14, x15 => if x15 < x14 then (if 0 ≤ x15 then (if x15 < (x13.length : Int) then ((prime_IsPrime.f k (rd x13 x15)).bind fun t190 => (if t190 = true then (if x15 > 0 then (if 0 ≤ (wrap64 (x15 - 1)) then (if (wrap64 (x15 - 1)) < (x0.length : Int) then (if (rd x13 x15) ≤ (rd x0 (wrap64 (x15 - 1))) then (some 6) else (prime_Check.l0 k x0 x13 x14 (wrap64 (x15 + 1)))) else (none)) else (none)) else (prime_Check.l0 k x0 x13 x14 (wrap64 (x15 + 1)))) else (some 25))) else (none)) else (none)) else (some 0)
def prime_Check.f (k : Nat) (l0 : List Int) : Option (Int) := if (l0.length : Int) = 0 then (some 13) else (if (l0.length : Int) > 6 then (some 4) else (prime_Check.l0 k l0 l0 (l0.length : Int) 0))
set_option maxHeartbeats 8000000 in
set_option maxRecDepth 100000 in
theorem prime_Check.calls (k : Nat) (A0 : Option Addr) (c0 : Nat) (l0 : List Int) (r : Int) (w : World) (hr0 : Kd.C (Kd.int .i64) w A0 l0.length l0) (hc0 : l0.length ≤ c0) (h : prime_Check.f k l0 = some r) :
  Calls Tryz.prog 40 #[.slice A0 l0.length c0] w fun e w' => e = .returned (.int .i64 r) ∧ Drawn0 w w' := by
 have HR0 := Aside0.mk hr0
 have HC0 := Aside0.mk hc0
 clear hr0 hc0
 have H : (if (l0.length : Int) = 0 then (some 13) else (if (l0.length : Int) > 6 then (some 4) else (prime_Check.l0 k l0 l0 (l0.length : Int) 0))) = some r := h
 clear h
 by_cases c2 : (l0.length : Int) = 0
 ·rw [if_pos c2] at H
  have c2b0 : ((l0.length : Int) == 0) = true := beq_iff_eq.mpr c2
  have c2b1 : ((l0.length : Int) != 0) = false := bne_eq_false_iff_eq.mpr c2
  clear c2
  obtain rfl := Option.some.inj H
  go_enter Tryz.func40, Tryz.ntmps40
  go_wp2
  go_ret
  exact ⟨by first | rfl | (simp; done) | (simp [*]; done), by repeat (first | exact Drawn0.refl _ | apply Drawn0.step)⟩
 ·rw [if_neg c2] at H
  have c2b0 : ((l0.length : Int) == 0) = false := beq_eq_false_iff_ne.mpr c2
  have c2b1 : ((l0.length : Int) != 0) = true := bne_iff_ne.mpr c2
  have c2b2 : ¬ (l0 = []) := fun h_ => c2 (by rw [h_]; rfl)
  by_cases c3 : (l0.length : Int) > 6
  ·rw [if_pos c3] at H
   have c3b0 : decide (6 < (l0.length : Int)) = true := decide_eq_true c3
   have c3b1 : decide (6 < l0.length) = true := decide_eq_true (by omega)
   clear c3
   obtain rfl := Option.some.inj H
   go_enter Tryz.func40, Tryz.ntmps40
   go_wp2
   go_ret
   exact ⟨by first | rfl | (simp; done) | (simp [*]; done), by repeat (first | exact Drawn0.refl _ | apply Drawn0.step)⟩
  ·rw [if_neg c3] at H
   have c3b0 : decide (6 < (l0.length : Int)) = false := decide_eq_false c3
   have c3b1 : decide (6 < l0.length) = false := decide_eq_false (by omega)
   clear c3
   have H' := Aside0.mk H
   clear H
   go_enter Tryz.func40, Tryz.ntmps40
   go_wp2
   go_loopg [15] k (fun kq v15 w' => ∃ (x15_1 : Int), v15 = .int .i64 x15_1 ∧ Aside0 (prime_Check.l0 kq l0 l0 (l0.length : Int) x15_1 = some r) ∧ Aside0 (kq ≤ k) ∧ Drawn0 w w')
   case atStart => exact ⟨(0), rs, H', ⟨Nat.le_refl _⟩, by repeat (first | exact Drawn0.refl _ | apply Drawn0.step)⟩
   case round =>
    clear H'
    try clear c2
    try clear c2b0
    try clear c2b1
    try clear c2b2
    try clear p2
    try clear c3
    try clear c3b0
    try clear c3b1
    obtain ⟨x15_1, rfl, HA, HK1, ⟨m1, rfl⟩⟩ := hrel
    cases gk with
    | zero => exact absurd HA.out (by simp [prime_Check.l0])
    | succ k1 =>
     have H := HA.out
     clear HA
     simp only [prime_Check.l0] at H
     by_cases c4 : x15_1 < (l0.length : Int)
     ·rw [if_pos c4] at H
      have c4b0 : decide (x15_1 < (l0.length : Int)) = true := decide_eq_true c4
      clear c4
      by_cases c5 : 0 ≤ x15_1
      ·rw [if_pos c5] at H
       have c5b0 : decide (0 ≤ x15_1) = true := decide_eq_true c5
       clear c5
       by_cases c6 : x15_1 < (l0.length : Int)
       ·rw [if_pos c6] at H
        have c6b0 : decide (x15_1 < (l0.length : Int)) = true := decide_eq_true c6
        clear c6
        replace H := Option.bind_eq_some_iff.mp H
        obtain ⟨t190, A70, H⟩ := H
        replace H : (if t190 = true then (if x15_1 > 0 then (if 0 ≤ (wrap64 (x15_1 - 1)) then (if (wrap64 (x15_1 - 1)) < (l0.length : Int) then (if (rd l0 x15_1) ≤ (rd l0 (wrap64 (x15_1 - 1))) then (some 6) else (prime_Check.l0 k1 l0 l0 (l0.length : Int) (wrap64 (x15_1 + 1)))) else (none)) else (none)) else (prime_Check.l0 k1 l0 l0 (l0.length : Int) (wrap64 (x15_1 + 1)))) else (some 25)) = some r := H
        have A7 := Aside0.mk A70
        clear A70
        by_cases c8 : t190 = true
        ·subst c8
         have H1 : (if x15_1 > 0 then (if 0 ≤ (wrap64 (x15_1 - 1)) then (if (wrap64 (x15_1 - 1)) < (l0.length : Int) then (if (rd l0 x15_1) ≤ (rd l0 (wrap64 (x15_1 - 1))) then (some 6) else (prime_Check.l0 k1 l0 l0 (l0.length : Int) (wrap64 (x15_1 + 1)))) else (none)) else (none)) else (prime_Check.l0 k1 l0 l0 (l0.length : Int) (wrap64 (x15_1 + 1)))) = some r := by rw [if_pos rfl] at H; exact H
         clear H
         have H := H1
         clear H1
         by_cases c9 : x15_1 > 0
         ·rw [if_pos c9] at H
          have c9b0 : decide (0 < x15_1) = true := decide_eq_true c9
          clear c9
          obtain ⟨ji10, hji10⟩ : ∃ j_ : Int, (wrap64 (x15_1 - 1)) = j_ := ⟨_, rfl⟩
          replace H : (if 0 ≤ (ji10) then (if (ji10) < (l0.length : Int) then (if (rd l0 x15_1) ≤ (rd l0 (ji10)) then (some 6) else (prime_Check.l0 k1 l0 l0 (l0.length : Int) (wrap64 (x15_1 + 1)))) else (none)) else (none)) = some r := by first | (rw [hji10] at H; exact H) | (simp only [hji10] at H ⊢; exact H)
          (try rw [hji10] at A7)
          have hji10w : (IntKind.i64.wrap (x15_1 - 1)) = ji10 := (i64_w _).trans hji10
          by_cases c11 : 0 ≤ (ji10)
          ·rw [if_pos c11] at H
           have c11b0 : decide (0 ≤ (ji10)) = true := decide_eq_true c11
           clear c11
           by_cases c12 : (ji10) < (l0.length : Int)
           ·rw [if_pos c12] at H
            have c12b0 : decide ((ji10) < (l0.length : Int)) = true := decide_eq_true c12
            clear c12
            by_cases c13 : (rd l0 x15_1) ≤ (rd l0 (ji10))
            ·rw [if_pos c13] at H
             have c13b0 : decide ((rd l0 x15_1) ≤ (rd l0 (ji10))) = true := decide_eq_true c13
             clear c13
             obtain rfl := Option.some.inj H
             have p189 : 0 ≤ (x15_1 : Int) := of_decide_eq_true (by first | (with_reducible assumption) | assumption)
             have q189 : x15_1 < (l0.length : Int) := of_decide_eq_true (by first | (with_reducible assumption) | assumption)
             obtain ⟨ad189, e189, hx189_0⟩ := Kd.at_int HR0.out x15_1 p189 q189
             cases e189
             replace p189 := eq_true p189
             replace q189 := eq_true q189
             go_wp2_with (first | ((with_reducible refine gate_callee (f := 84) rfl ?_); refine goesM (some 21) Tryz.func84 #[.int .i64 (rd l0 x15_1)] ?_; (with_reducible refine (prime_IsPrime.calls k1 (rd l0 x15_1) true _ A7.out).mono ?_); rintro e w' ⟨rfl, ⟨nd, rfl⟩⟩; refine ⟨_, rfl, ?_⟩; have p191 : 0 ≤ ((ji10) : Int) := of_decide_eq_true (by first | (with_reducible assumption) | assumption); have q191 : (ji10) < (l0.length : Int) := of_decide_eq_true (by first | (with_reducible assumption) | assumption); obtain ⟨ad191, e191, hx191_0⟩ := Kd.at_int HR0.out (ji10) p191 q191; obtain rfl : ad189 = ad191 := (by injection e191); replace p191 := eq_true p191; replace q191 := eq_true q191))
             go_ret
             exact ⟨by first | rfl | (simp; done) | (simp only [← hji10] <;> (first | rfl | simp)) | (simp [*]; done), by repeat (first | exact Drawn0.refl _ | apply Drawn0.step)⟩
            ·rw [if_neg c13] at H
             have c13b0 : decide ((rd l0 x15_1) ≤ (rd l0 (ji10))) = false := decide_eq_false c13
             clear c13
             have H' := Aside0.mk H
             clear H
             have p189 : 0 ≤ (x15_1 : Int) := of_decide_eq_true (by first | (with_reducible assumption) | assumption)
             have q189 : x15_1 < (l0.length : Int) := of_decide_eq_true (by first | (with_reducible assumption) | assumption)
             obtain ⟨ad189, e189, hx189_0⟩ := Kd.at_int HR0.out x15_1 p189 q189
             cases e189
             replace p189 := eq_true p189
             replace q189 := eq_true q189
             go_wp2_with (first | ((with_reducible refine gate_callee (f := 84) rfl ?_); refine goesM (some 21) Tryz.func84 #[.int .i64 (rd l0 x15_1)] ?_; (with_reducible refine (prime_IsPrime.calls k1 (rd l0 x15_1) true _ A7.out).mono ?_); rintro e w' ⟨rfl, ⟨nd, rfl⟩⟩; refine ⟨_, rfl, ?_⟩; have p191 : 0 ≤ ((ji10) : Int) := of_decide_eq_true (by first | (with_reducible assumption) | assumption); have q191 : (ji10) < (l0.length : Int) := of_decide_eq_true (by first | (with_reducible assumption) | assumption); obtain ⟨ad191, e191, hx191_0⟩ := Kd.at_int HR0.out (ji10) p191 q191; obtain rfl : ad189 = ad191 := (by injection e191); replace p191 := eq_true p191; replace q191 := eq_true q191))
             go_roundg k1
             case measure => have := HK1.out; omega
             case rel => exact ⟨(wrap64 (x15_1 + 1)), rs, H', ⟨by have := HK1.out; omega⟩, by repeat (first | exact Drawn0.refl _ | apply Drawn0.step)⟩
           ·rw [if_neg c12] at H
            exact absurd H (by simp)
          ·rw [if_neg c11] at H
           exact absurd H (by simp)
         ·rw [if_neg c9] at H
          have c9b0 : decide (0 < x15_1) = false := decide_eq_false c9
          clear c9
          have H' := Aside0.mk H
          clear H
          have p189 : 0 ≤ (x15_1 : Int) := of_decide_eq_true (by first | (with_reducible assumption) | assumption)
          have q189 : x15_1 < (l0.length : Int) := of_decide_eq_true (by first | (with_reducible assumption) | assumption)
          obtain ⟨ad189, e189, hx189_0⟩ := Kd.at_int HR0.out x15_1 p189 q189
          cases e189
          replace p189 := eq_true p189
          replace q189 := eq_true q189
          go_wp2_with (first | ((with_reducible refine gate_callee (f := 84) rfl ?_); refine goesM (some 21) Tryz.func84 #[.int .i64 (rd l0 x15_1)] ?_; (with_reducible refine (prime_IsPrime.calls k1 (rd l0 x15_1) true _ A7.out).mono ?_); rintro e w' ⟨rfl, ⟨nd, rfl⟩⟩; refine ⟨_, rfl, ?_⟩))
          go_roundg k1
          case measure => have := HK1.out; omega
          case rel => exact ⟨(wrap64 (x15_1 + 1)), rs, H', ⟨by have := HK1.out; omega⟩, by repeat (first | exact Drawn0.refl _ | apply Drawn0.step)⟩
        ·replace c8 := Bool.eq_false_iff.mpr c8
         subst c8
         have H1 : (some 25) = some r := by rw [if_neg (show ¬ (false = true) by decide)] at H; exact H
         clear H
         have H := H1
         clear H1
         obtain rfl := Option.some.inj H
         have p189 : 0 ≤ (x15_1 : Int) := of_decide_eq_true (by first | (with_reducible assumption) | assumption)
         have q189 : x15_1 < (l0.length : Int) := of_decide_eq_true (by first | (with_reducible assumption) | assumption)
         obtain ⟨ad189, e189, hx189_0⟩ := Kd.at_int HR0.out x15_1 p189 q189
         cases e189
         replace p189 := eq_true p189
         replace q189 := eq_true q189
         go_wp2_with (first | ((with_reducible refine gate_callee (f := 84) rfl ?_); refine goesM (some 21) Tryz.func84 #[.int .i64 (rd l0 x15_1)] ?_; (with_reducible refine (prime_IsPrime.calls k1 (rd l0 x15_1) false _ A7.out).mono ?_); rintro e w' ⟨rfl, ⟨nd, rfl⟩⟩; refine ⟨_, rfl, ?_⟩))
         go_ret
         exact ⟨by first | rfl | (simp; done) | (simp [*]; done), by repeat (first | exact Drawn0.refl _ | apply Drawn0.step)⟩
       ·rw [if_neg c6] at H
        exact absurd H (by simp)
      ·rw [if_neg c5] at H
       exact absurd H (by simp)
     ·rw [if_neg c4] at H
      have c4b0 : decide (x15_1 < (l0.length : Int)) = false := decide_eq_false c4
      clear c4
      obtain rfl := Option.some.inj H
      go_wp2
      go_ret
      exact ⟨by first | rfl | (simp; done) | (simp [*]; done), by repeat (first | exact Drawn0.refl _ | apply Drawn0.step)⟩
def size_check.l0 : Nat → List (S30) → Int → Int → Option (Int)
 | 0, _, _, _ => none
 | k + 1, x12, x13, x14 => if x14 < x13 then (if 0 ≤ x14 then (if x14 < (x12.length : Int) then ((fraction_Check.f k ((rd_T30 x12 x14).f0) ((rd_T30 x12 x14).f1)).bind fun t194 => (if t194 = 0 then ((size_short.f ((rd_T30 x12 x14).f0) ((rd_T30 x12 x14).f1)).bind fun t195 => (if t195 = true then (size_check.l0 k x12 x13 (wrap64 (x14 + 1))) else (some 4))) else (some 2))) else (none)) else (none)) else (some 0)
def size_check.f (k : Nat) (l0 : List Int) (l1 : List (S30)) : Option (Int) := if (l1.length : Int) = (l0.length : Int) then (size_check.l0 k l1 (l1.length : Int) 0) else (some 5)
set_option maxHeartbeats 8000000 in
set_option maxRecDepth 100000 in
theorem size_check.calls (k : Nat) (A0 : Option Addr) (c0 : Nat) (l0 : List Int) (A1 : Option Addr) (c1 : Nat) (l1 : List (S30)) (r : Int) (w : World) (hG : Glob w) (hr0 : Kd.C (Kd.int .i64) w A0 l0.length l0) (hc0 : l0.length ≤ c0) (hr1 : Kd.C k30 w A1 l1.length l1) (hc1 : l1.length ≤ c1) (h : size_check.f k l0 l1 = some r) :
  Calls Tryz.prog 94 #[.slice A0 l0.length c0, .slice A1 l1.length c1] w fun e w' => e = .returned (.int .i64 r) ∧ Below w.heap.size w w' := by
 have hu30 := Tryz.underlying30
 have HR0 := Aside0.mk hr0
 have HC0 := Aside0.mk hc0
 clear hr0 hc0
 have HR1 := Aside0.mk hr1
 have HC1 := Aside0.mk hc1
 clear hr1 hc1
 have HG0 := Aside0.mk hG
 clear hG
 have HB := Aside0.mk (Below.refl w.heap.size w)
 have H : (if (l1.length : Int) = (l0.length : Int) then (size_check.l0 k l1 (l1.length : Int) 0) else (some 5)) = some r := h
 clear h
 by_cases c3 : (l1.length : Int) = (l0.length : Int)
 ·rw [if_pos c3] at H
  have c3b0 : ((l1.length : Int) == (l0.length : Int)) = true := beq_iff_eq.mpr c3
  have c3b1 : ((l1.length : Int) != (l0.length : Int)) = false := bne_eq_false_iff_eq.mpr c3
  have c3b2 : (l1.length == l0.length) = true := by first | simpa using c3 | (simp at c3 ⊢; omega)
  clear c3
  have H' := Aside0.mk H
  clear H
  go_enter Tryz.func94, Tryz.ntmps94
  go_wp2
  go_loopg [14] k (fun kq v14 w' => ∃ (x14_1 : Int), v14 = .int .i64 x14_1 ∧ Aside0 (size_check.l0 kq l1 (l1.length : Int) x14_1 = some r) ∧ Aside0 (kq ≤ k) ∧ Aside0 (Below w.heap.size w w'))
  case atStart => exact ⟨(0), rs, H', ⟨Nat.le_refl _⟩, ⟨bl HB⟩⟩
  case round =>
   clear H'
   try clear c1
   try clear p2
   try clear c3
   try clear c3b0
   try clear c3b1
   try clear c3b2
   obtain ⟨x14_1, rfl, HA, HK1, HB⟩ := hrel
   cases gk with
   | zero => exact absurd HA.out (by simp [size_check.l0])
   | succ k1 =>
    have H := HA.out
    clear HA
    simp only [size_check.l0] at H
    by_cases c4 : x14_1 < (l1.length : Int)
    ·rw [if_pos c4] at H
     have c4b0 : decide (x14_1 < (l1.length : Int)) = true := decide_eq_true c4
     clear c4
     by_cases c5 : 0 ≤ x14_1
     ·rw [if_pos c5] at H
      have c5b0 : decide (0 ≤ x14_1) = true := decide_eq_true c5
      clear c5
      by_cases c6 : x14_1 < (l1.length : Int)
      ·rw [if_pos c6] at H
       have c6b0 : decide (x14_1 < (l1.length : Int)) = true := decide_eq_true c6
       clear c6
       replace H := Option.bind_eq_some_iff.mp H
       obtain ⟨t194, A70, H⟩ := H
       replace H : (if t194 = 0 then ((size_short.f ((rd_T30 l1 x14_1).f0) ((rd_T30 l1 x14_1).f1)).bind fun t195 => (if t195 = true then (size_check.l0 k1 l1 (l1.length : Int) (wrap64 (x14_1 + 1))) else (some 4))) else (some 2)) = some r := H
       have A7 := Aside0.mk A70
       clear A70
       by_cases c8 : t194 = 0
       ·rw [if_pos c8] at H
        have c8b0 : (t194 == 0) = true := beq_iff_eq.mpr c8
        have c8b1 : (t194 != 0) = false := bne_eq_false_iff_eq.mpr c8
        clear c8
        replace H := Option.bind_eq_some_iff.mp H
        obtain ⟨t195, A90, H⟩ := H
        replace H : (if t195 = true then (size_check.l0 k1 l1 (l1.length : Int) (wrap64 (x14_1 + 1))) else (some 4)) = some r := H
        have A9 := Aside0.mk A90
        clear A90
        by_cases c10 : t195 = true
        ·subst c10
         have H1 : (size_check.l0 k1 l1 (l1.length : Int) (wrap64 (x14_1 + 1))) = some r := by rw [if_pos rfl] at H; exact H
         clear H
         have H := H1
         clear H1
         have H' := Aside0.mk H
         clear H
         have p192 : 0 ≤ (x14_1 : Int) := of_decide_eq_true (by first | (with_reducible assumption) | assumption)
         have q192 : x14_1 < (l1.length : Int) := of_decide_eq_true (by first | (with_reducible assumption) | assumption)
         obtain ⟨ad192, e192, hx192_0, hx192_1⟩ := at_T30 HR1.out x14_1 p192 q192
         cases e192
         replace hx192_0 := (HB.out.cell (World.block_lt_of_cell? w _ hx192_0)).trans hx192_0
         replace hx192_1 := (HB.out.cell (World.block_lt_of_cell? w _ hx192_1)).trans hx192_1
         replace p192 := eq_true p192
         replace q192 := eq_true q192
         go_wp2_with (first | ((with_reducible refine gate_dst (N := 6) rfl ?_); refine boxM (N := 6) #[.string (⟨#[]⟩ : ByteArray), .string (⟨#[]⟩ : ByteArray)] 30 ?_; intro gb193 hg w11 hbox hb; have BK193 := Aside0.mk (hbox); have GW193 := Aside0.mk ((by rw [hg]; exact (below_size (bl HB)) : w.heap.size ≤ gb193)); have GE193 := Aside0.mk ((by rw [hg]; exact (below_size (bl HB)) : w.heap.size ≤ gb193)); replace HB := Aside0.mk (below_step (bl HB) hb); clear hb hbox hg; have hcz12_0 : w11.cell? ⟨gb193, 0, none⟩ = some (.string (⟨#[]⟩ : ByteArray)) := (blk_cell BK193.out 0).trans rfl; have hcz12_1 : w11.cell? ⟨gb193, 1, none⟩ = some (.string (⟨#[]⟩ : ByteArray)) := (blk_cell BK193.out 1).trans rfl; have hfz12_0 := blk_frozen BK193.out 0; have hfz12_1 := blk_frozen BK193.out 1) | ((with_reducible refine gate_callee (f := 14) rfl ?_); refine goesM (some 19) Tryz.func14 #[.agg #[.string ((rd_T30 l1 x14_1).f0), .string ((rd_T30 l1 x14_1).f1)]] ?_; (with_reducible refine (fraction_Check.calls k1 ((rd_T30 l1 x14_1).f0) ((rd_T30 l1 x14_1).f1) t194 _ ?side1 A7.out).mono ?_); (case side1 => exact Glob.below HG0.out (bl HB)); rintro e w13 ⟨rfl, hb⟩; refine ⟨_, rfl, ?_⟩; replace BK193 := Aside0.mk (blk_below (g := gb193) (o := .cells #[.string ((rd_T30 l1 x14_1).f0), .string ((rd_T30 l1 x14_1).f1)] 30 (0, 0)) (by (with_reducible repeat (first | refine blk_drewN ?_ _ | refine blk_drew ?_ | refine blk_alloc ?_ _)); refine blk_put (cs := #[.string ((rd_T30 l1 x14_1).f0), .string (⟨#[]⟩ : ByteArray)]) ?_ 1 _ rfl; (with_reducible repeat (first | refine blk_drewN ?_ _ | refine blk_drew ?_ | refine blk_alloc ?_ _)); refine blk_put (cs := #[.string (⟨#[]⟩ : ByteArray), .string (⟨#[]⟩ : ByteArray)]) ?_ 0 _ rfl; (with_reducible repeat (first | refine blk_drewN ?_ _ | refine blk_drew ?_ | refine blk_alloc ?_ _)); exact BK193.out) hb); replace HB := Aside0.mk (below_step (bl HB) hb); (try clear hb); (try clear hb2); (try clear hk); (try clear hi); have hcz14_0 : w13.cell? ⟨gb193, 0, none⟩ = some (.string ((rd_T30 l1 x14_1).f0)) := (blk_cell BK193.out 0).trans rfl; have hcz14_1 : w13.cell? ⟨gb193, 1, none⟩ = some (.string ((rd_T30 l1 x14_1).f1)) := (blk_cell BK193.out 1).trans rfl; have hfz14_0 := blk_frozen BK193.out 0; have hfz14_1 := blk_frozen BK193.out 1) | ((with_reducible refine gate_callee (f := 103) rfl ?_); refine goesM (some 22) Tryz.func103 #[.agg #[.string ((rd_T30 l1 x14_1).f0), .string ((rd_T30 l1 x14_1).f1)]] ?_; (with_reducible refine (size_short.calls ((rd_T30 l1 x14_1).f0) ((rd_T30 l1 x14_1).f1) true _ A9.out).mono ?_); rintro e w15 ⟨rfl, hb⟩; refine ⟨_, rfl, ?_⟩; replace BK193 := Aside0.mk (blk_below (g := gb193) (o := .cells #[.string ((rd_T30 l1 x14_1).f0), .string ((rd_T30 l1 x14_1).f1)] 30 (0, 0)) (bk BK193) hb); replace HB := Aside0.mk (below_step (bl HB) hb); (try clear hb); (try clear hb2); (try clear hk); (try clear hi)))
         go_roundg k1
         case measure => have := HK1.out; omega
         case rel => exact ⟨(wrap64 (x14_1 + 1)), rs, H', ⟨by have := HK1.out; omega⟩, ⟨bl HB⟩⟩
        ·replace c10 := Bool.eq_false_iff.mpr c10
         subst c10
         have H1 : (some 4) = some r := by rw [if_neg (show ¬ (false = true) by decide)] at H; exact H
         clear H
         have H := H1
         clear H1
         obtain rfl := Option.some.inj H
         have p192 : 0 ≤ (x14_1 : Int) := of_decide_eq_true (by first | (with_reducible assumption) | assumption)
         have q192 : x14_1 < (l1.length : Int) := of_decide_eq_true (by first | (with_reducible assumption) | assumption)
         obtain ⟨ad192, e192, hx192_0, hx192_1⟩ := at_T30 HR1.out x14_1 p192 q192
         cases e192
         replace hx192_0 := (HB.out.cell (World.block_lt_of_cell? w _ hx192_0)).trans hx192_0
         replace hx192_1 := (HB.out.cell (World.block_lt_of_cell? w _ hx192_1)).trans hx192_1
         replace p192 := eq_true p192
         replace q192 := eq_true q192
         go_wp2_with (first | ((with_reducible refine gate_dst (N := 6) rfl ?_); refine boxM (N := 6) #[.string (⟨#[]⟩ : ByteArray), .string (⟨#[]⟩ : ByteArray)] 30 ?_; intro gb193 hg w16 hbox hb; have BK193 := Aside0.mk (hbox); have GW193 := Aside0.mk ((by rw [hg]; exact (below_size (bl HB)) : w.heap.size ≤ gb193)); have GE193 := Aside0.mk ((by rw [hg]; exact (below_size (bl HB)) : w.heap.size ≤ gb193)); replace HB := Aside0.mk (below_step (bl HB) hb); clear hb hbox hg; have hcz17_0 : w16.cell? ⟨gb193, 0, none⟩ = some (.string (⟨#[]⟩ : ByteArray)) := (blk_cell BK193.out 0).trans rfl; have hcz17_1 : w16.cell? ⟨gb193, 1, none⟩ = some (.string (⟨#[]⟩ : ByteArray)) := (blk_cell BK193.out 1).trans rfl; have hfz17_0 := blk_frozen BK193.out 0; have hfz17_1 := blk_frozen BK193.out 1) | ((with_reducible refine gate_callee (f := 14) rfl ?_); refine goesM (some 19) Tryz.func14 #[.agg #[.string ((rd_T30 l1 x14_1).f0), .string ((rd_T30 l1 x14_1).f1)]] ?_; (with_reducible refine (fraction_Check.calls k1 ((rd_T30 l1 x14_1).f0) ((rd_T30 l1 x14_1).f1) t194 _ ?side1 A7.out).mono ?_); (case side1 => exact Glob.below HG0.out (bl HB)); rintro e w18 ⟨rfl, hb⟩; refine ⟨_, rfl, ?_⟩; replace BK193 := Aside0.mk (blk_below (g := gb193) (o := .cells #[.string ((rd_T30 l1 x14_1).f0), .string ((rd_T30 l1 x14_1).f1)] 30 (0, 0)) (by (with_reducible repeat (first | refine blk_drewN ?_ _ | refine blk_drew ?_ | refine blk_alloc ?_ _)); refine blk_put (cs := #[.string ((rd_T30 l1 x14_1).f0), .string (⟨#[]⟩ : ByteArray)]) ?_ 1 _ rfl; (with_reducible repeat (first | refine blk_drewN ?_ _ | refine blk_drew ?_ | refine blk_alloc ?_ _)); refine blk_put (cs := #[.string (⟨#[]⟩ : ByteArray), .string (⟨#[]⟩ : ByteArray)]) ?_ 0 _ rfl; (with_reducible repeat (first | refine blk_drewN ?_ _ | refine blk_drew ?_ | refine blk_alloc ?_ _)); exact BK193.out) hb); replace HB := Aside0.mk (below_step (bl HB) hb); (try clear hb); (try clear hb2); (try clear hk); (try clear hi); have hcz19_0 : w18.cell? ⟨gb193, 0, none⟩ = some (.string ((rd_T30 l1 x14_1).f0)) := (blk_cell BK193.out 0).trans rfl; have hcz19_1 : w18.cell? ⟨gb193, 1, none⟩ = some (.string ((rd_T30 l1 x14_1).f1)) := (blk_cell BK193.out 1).trans rfl; have hfz19_0 := blk_frozen BK193.out 0; have hfz19_1 := blk_frozen BK193.out 1) | ((with_reducible refine gate_callee (f := 103) rfl ?_); refine goesM (some 22) Tryz.func103 #[.agg #[.string ((rd_T30 l1 x14_1).f0), .string ((rd_T30 l1 x14_1).f1)]] ?_; (with_reducible refine (size_short.calls ((rd_T30 l1 x14_1).f0) ((rd_T30 l1 x14_1).f1) false _ A9.out).mono ?_); rintro e w20 ⟨rfl, hb⟩; refine ⟨_, rfl, ?_⟩; replace BK193 := Aside0.mk (blk_below (g := gb193) (o := .cells #[.string ((rd_T30 l1 x14_1).f0), .string ((rd_T30 l1 x14_1).f1)] 30 (0, 0)) (bk BK193) hb); replace HB := Aside0.mk (below_step (bl HB) hb); (try clear hb); (try clear hb2); (try clear hk); (try clear hi)))
         go_ret
         exact ⟨rl, bl HB⟩
       ·rw [if_neg c8] at H
        have c8b0 : (t194 == 0) = false := beq_eq_false_iff_ne.mpr c8
        have c8b1 : (t194 != 0) = true := bne_iff_ne.mpr c8
        obtain rfl := Option.some.inj H
        have p192 : 0 ≤ (x14_1 : Int) := of_decide_eq_true (by first | (with_reducible assumption) | assumption)
        have q192 : x14_1 < (l1.length : Int) := of_decide_eq_true (by first | (with_reducible assumption) | assumption)
        obtain ⟨ad192, e192, hx192_0, hx192_1⟩ := at_T30 HR1.out x14_1 p192 q192
        cases e192
        replace hx192_0 := (HB.out.cell (World.block_lt_of_cell? w _ hx192_0)).trans hx192_0
        replace hx192_1 := (HB.out.cell (World.block_lt_of_cell? w _ hx192_1)).trans hx192_1
        replace p192 := eq_true p192
        replace q192 := eq_true q192
        go_wp2_with (first | ((with_reducible refine gate_dst (N := 6) rfl ?_); refine boxM (N := 6) #[.string (⟨#[]⟩ : ByteArray), .string (⟨#[]⟩ : ByteArray)] 30 ?_; intro gb193 hg w21 hbox hb; have BK193 := Aside0.mk (hbox); have GW193 := Aside0.mk ((by rw [hg]; exact (below_size (bl HB)) : w.heap.size ≤ gb193)); have GE193 := Aside0.mk ((by rw [hg]; exact (below_size (bl HB)) : w.heap.size ≤ gb193)); replace HB := Aside0.mk (below_step (bl HB) hb); clear hb hbox hg; have hcz22_0 : w21.cell? ⟨gb193, 0, none⟩ = some (.string (⟨#[]⟩ : ByteArray)) := (blk_cell BK193.out 0).trans rfl; have hcz22_1 : w21.cell? ⟨gb193, 1, none⟩ = some (.string (⟨#[]⟩ : ByteArray)) := (blk_cell BK193.out 1).trans rfl; have hfz22_0 := blk_frozen BK193.out 0; have hfz22_1 := blk_frozen BK193.out 1) | ((with_reducible refine gate_callee (f := 14) rfl ?_); refine goesM (some 19) Tryz.func14 #[.agg #[.string ((rd_T30 l1 x14_1).f0), .string ((rd_T30 l1 x14_1).f1)]] ?_; (with_reducible refine (fraction_Check.calls k1 ((rd_T30 l1 x14_1).f0) ((rd_T30 l1 x14_1).f1) t194 _ ?side1 A7.out).mono ?_); (case side1 => exact Glob.below HG0.out (bl HB)); rintro e w23 ⟨rfl, hb⟩; refine ⟨_, rfl, ?_⟩; replace BK193 := Aside0.mk (blk_below (g := gb193) (o := .cells #[.string ((rd_T30 l1 x14_1).f0), .string ((rd_T30 l1 x14_1).f1)] 30 (0, 0)) (by (with_reducible repeat (first | refine blk_drewN ?_ _ | refine blk_drew ?_ | refine blk_alloc ?_ _)); refine blk_put (cs := #[.string ((rd_T30 l1 x14_1).f0), .string (⟨#[]⟩ : ByteArray)]) ?_ 1 _ rfl; (with_reducible repeat (first | refine blk_drewN ?_ _ | refine blk_drew ?_ | refine blk_alloc ?_ _)); refine blk_put (cs := #[.string (⟨#[]⟩ : ByteArray), .string (⟨#[]⟩ : ByteArray)]) ?_ 0 _ rfl; (with_reducible repeat (first | refine blk_drewN ?_ _ | refine blk_drew ?_ | refine blk_alloc ?_ _)); exact BK193.out) hb); replace HB := Aside0.mk (below_step (bl HB) hb); (try clear hb); (try clear hb2); (try clear hk); (try clear hi)))
        go_ret
        exact ⟨rl, bl HB⟩
      ·rw [if_neg c6] at H
       exact absurd H (by simp)
     ·rw [if_neg c5] at H
      exact absurd H (by simp)
    ·rw [if_neg c4] at H
     have c4b0 : decide (x14_1 < (l1.length : Int)) = false := decide_eq_false c4
     clear c4
     obtain rfl := Option.some.inj H
     go_wp2
     go_ret
     exact ⟨rl, bl HB⟩
 ·rw [if_neg c3] at H
  have c3b0 : ((l1.length : Int) == (l0.length : Int)) = false := beq_eq_false_iff_ne.mpr c3
  have c3b1 : ((l1.length : Int) != (l0.length : Int)) = true := bne_iff_ne.mpr c3
  have c3b2 : (l1.length == l0.length) = false := by first | simpa using c3 | (simp at c3 ⊢; omega)
  obtain rfl := Option.some.inj H
  go_enter Tryz.func94, Tryz.ntmps94
  go_wp2
  go_ret
  exact ⟨rl, bl HB⟩
def size_CheckAll.l0 : Nat → List Int → List (List (S30)) → Int → Int → Option (Int)
 | 0, _, _, _, _ => none
 | k + 1, x0, x14, x15, x16 => if x16 < x15 then (if 0 ≤ x16 then (if x16 < (x14.length : Int) then ((size_check.f k x0 (rd_L5 x14 x16)).bind fun t198 => (if t198 = 0 then (size_CheckAll.l0 k x0 x14 x15 (wrap64 (x16 + 1))) else (some t198))) else (none)) else (none)) else (some 0)
def size_CheckAll.f (k : Nat) (l0 : List Int) (l1 : List (List (S30))) : Option (Int) := (prime_Check.f k l0).bind fun t196 => (if t196 = 0 then (size_CheckAll.l0 k l0 l1 (l1.length : Int) 0) else (some t196))
set_option maxHeartbeats 8000000 in
set_option maxRecDepth 100000 in
theorem size_CheckAll.calls (k : Nat) (A0 : Option Addr) (c0 : Nat) (l0 : List Int) (A1 : Option Addr) (c1 : Nat) (l1 : List (List (S30))) (r : Int) (w : World) (hG : Glob w) (hr0 : Kd.C (Kd.int .i64) w A0 l0.length l0) (hc0 : l0.length ≤ c0) (hr1 : Kd.C (Kd.slice 30 k30) w A1 l1.length l1) (hc1 : l1.length ≤ c1) (h : size_CheckAll.f k l0 l1 = some r) :
  Calls Tryz.prog 52 #[.slice A0 l0.length c0, .slice A1 l1.length c1] w fun e w' => e = .returned (.int .i64 r) ∧ Below w.heap.size w w' := by
 have HR0 := Aside0.mk hr0
 have HC0 := Aside0.mk hc0
 clear hr0 hc0
 have HR1 := Aside0.mk hr1
 have HC1 := Aside0.mk hc1
 clear hr1 hc1
 have HG0 := Aside0.mk hG
 clear hG
 have HB := Aside0.mk (Below.refl w.heap.size w)
 have H : ((prime_Check.f k l0).bind fun t196 => (if t196 = 0 then (size_CheckAll.l0 k l0 l1 (l1.length : Int) 0) else (some t196))) = some r := h
 clear h
 replace H := Option.bind_eq_some_iff.mp H
 obtain ⟨t196, A30, H⟩ := H
 replace H : (if t196 = 0 then (size_CheckAll.l0 k l0 l1 (l1.length : Int) 0) else (some t196)) = some r := H
 have A3 := Aside0.mk A30
 clear A30
 by_cases c4 : t196 = 0
 ·rw [if_pos c4] at H
  have c4b0 : (t196 == 0) = true := beq_iff_eq.mpr c4
  have c4b1 : (t196 != 0) = false := bne_eq_false_iff_eq.mpr c4
  clear c4
  have H' := Aside0.mk H
  clear H
  go_enter Tryz.func52, Tryz.ntmps52
  go_wp2_with (first | ((with_reducible refine gate_callee (f := 40) rfl ?_); refine goesM (some 10) Tryz.func40 #[.slice A0 l0.length c0] ?_; (with_reducible refine (prime_Check.calls k _ _ l0 t196 _ ?side1 ?side2 A3.out).mono ?_); (case side1 => repeat (first | exact HR0.out | (with_reducible refine Kd.C_alloc ?_ _) | (with_reducible refine Kd.C_drewN ?_ _) | (with_reducible refine Kd.C_drew ?_))); (case side2 => exact HC0.out); rintro e w' ⟨rfl, ⟨nd, rfl⟩⟩; refine ⟨_, rfl, ?_⟩))
  go_loopg [16] k (fun kq v16 w' => ∃ (x16_1 : Int), v16 = .int .i64 x16_1 ∧ Aside0 (size_CheckAll.l0 kq l0 l1 (l1.length : Int) x16_1 = some r) ∧ Aside0 (kq ≤ k) ∧ Aside0 (Below w.heap.size w w'))
  case atStart => exact ⟨(0), rs, H', ⟨Nat.le_refl _⟩, ⟨bl HB⟩⟩
  case round =>
   clear H'
   try clear c1
   try clear p2
   try clear c4
   try clear c4b0
   try clear c4b1
   obtain ⟨x16_1, rfl, HA, HK1, HB⟩ := hrel
   cases gk with
   | zero => exact absurd HA.out (by simp [size_CheckAll.l0])
   | succ k1 =>
    have H := HA.out
    clear HA
    simp only [size_CheckAll.l0] at H
    by_cases c5 : x16_1 < (l1.length : Int)
    ·rw [if_pos c5] at H
     have c5b0 : decide (x16_1 < (l1.length : Int)) = true := decide_eq_true c5
     clear c5
     by_cases c6 : 0 ≤ x16_1
     ·rw [if_pos c6] at H
      have c6b0 : decide (0 ≤ x16_1) = true := decide_eq_true c6
      clear c6
      by_cases c7 : x16_1 < (l1.length : Int)
      ·rw [if_pos c7] at H
       have c7b0 : decide (x16_1 < (l1.length : Int)) = true := decide_eq_true c7
       clear c7
       replace H := Option.bind_eq_some_iff.mp H
       obtain ⟨t198, A80, H⟩ := H
       replace H : (if t198 = 0 then (size_CheckAll.l0 k1 l0 l1 (l1.length : Int) (wrap64 (x16_1 + 1))) else (some t198)) = some r := H
       have A8 := Aside0.mk A80
       clear A80
       by_cases c9 : t198 = 0
       ·rw [if_pos c9] at H
        have c9b0 : (t198 == 0) = true := beq_iff_eq.mpr c9
        have c9b1 : (t198 != 0) = false := bne_eq_false_iff_eq.mpr c9
        clear c9
        have H' := Aside0.mk H
        clear H
        have p197 : 0 ≤ (x16_1 : Int) := of_decide_eq_true (by first | (with_reducible assumption) | assumption)
        have q197 : x16_1 < (l1.length : Int) := of_decide_eq_true (by first | (with_reducible assumption) | assumption)
        obtain ⟨ad197, A197_0, c197_0, e197, hx197_0, hl197_0, hi197_0⟩ := at_L5 HR1.out x16_1 p197 q197
        cases e197
        replace hx197_0 := (HB.out.cell (World.block_lt_of_cell? w _ hx197_0)).trans hx197_0
        have HR197_0 := Aside0.mk hi197_0
        have HC197_0 := Aside0.mk hl197_0
        clear hi197_0 hl197_0
        replace p197 := eq_true p197
        replace q197 := eq_true q197
        go_wp2_with (first | ((with_reducible refine gate_callee (f := 94) rfl ?_); refine goesM (some 22) Tryz.func94 #[.slice A0 l0.length c0, .slice A197_0 (rd_L5 l1 x16_1).length c197_0] ?_; (with_reducible refine (size_check.calls k1 _ _ l0 _ _ (rd_L5 l1 x16_1) t198 _ ?side1 ?side2 ?side3 ?side4 ?side5 A8.out).mono ?_); (case side1 => exact Glob.below HG0.out (bl HB)); (case side2 => repeat (first | exact (Kd.C_below HR0.out HB.out) | (with_reducible refine Kd.C_alloc ?_ _) | (with_reducible refine Kd.C_drewN ?_ _) | (with_reducible refine Kd.C_drew ?_))); (case side3 => exact HC0.out); (case side4 => repeat (first | exact (Kd.C_below HR197_0.out HB.out) | (with_reducible refine Kd.C_alloc ?_ _) | (with_reducible refine Kd.C_drewN ?_ _) | (with_reducible refine Kd.C_drew ?_))); (case side5 => exact HC197_0.out); rintro e w10 ⟨rfl, hb⟩; refine ⟨_, rfl, ?_⟩; replace HB := Aside0.mk (below_step (bl HB) hb); (try clear hb); (try clear hb2); (try clear hk); (try clear hi)))
        go_roundg k1
        case measure => have := HK1.out; omega
        case rel => exact ⟨(wrap64 (x16_1 + 1)), rs, H', ⟨by have := HK1.out; omega⟩, ⟨bl HB⟩⟩
       ·rw [if_neg c9] at H
        have c9b0 : (t198 == 0) = false := beq_eq_false_iff_ne.mpr c9
        have c9b1 : (t198 != 0) = true := bne_iff_ne.mpr c9
        obtain rfl := Option.some.inj H
        have p197 : 0 ≤ (x16_1 : Int) := of_decide_eq_true (by first | (with_reducible assumption) | assumption)
        have q197 : x16_1 < (l1.length : Int) := of_decide_eq_true (by first | (with_reducible assumption) | assumption)
        obtain ⟨ad197, A197_0, c197_0, e197, hx197_0, hl197_0, hi197_0⟩ := at_L5 HR1.out x16_1 p197 q197
        cases e197
        replace hx197_0 := (HB.out.cell (World.block_lt_of_cell? w _ hx197_0)).trans hx197_0
        have HR197_0 := Aside0.mk hi197_0
        have HC197_0 := Aside0.mk hl197_0
        clear hi197_0 hl197_0
        replace p197 := eq_true p197
        replace q197 := eq_true q197
        go_wp2_with (first | ((with_reducible refine gate_callee (f := 94) rfl ?_); refine goesM (some 22) Tryz.func94 #[.slice A0 l0.length c0, .slice A197_0 (rd_L5 l1 x16_1).length c197_0] ?_; (with_reducible refine (size_check.calls k1 _ _ l0 _ _ (rd_L5 l1 x16_1) t198 _ ?side1 ?side2 ?side3 ?side4 ?side5 A8.out).mono ?_); (case side1 => exact Glob.below HG0.out (bl HB)); (case side2 => repeat (first | exact (Kd.C_below HR0.out HB.out) | (with_reducible refine Kd.C_alloc ?_ _) | (with_reducible refine Kd.C_drewN ?_ _) | (with_reducible refine Kd.C_drew ?_))); (case side3 => exact HC0.out); (case side4 => repeat (first | exact (Kd.C_below HR197_0.out HB.out) | (with_reducible refine Kd.C_alloc ?_ _) | (with_reducible refine Kd.C_drewN ?_ _) | (with_reducible refine Kd.C_drew ?_))); (case side5 => exact HC197_0.out); rintro e w11 ⟨rfl, hb⟩; refine ⟨_, rfl, ?_⟩; replace HB := Aside0.mk (below_step (bl HB) hb); (try clear hb); (try clear hb2); (try clear hk); (try clear hi)))
        go_ret
        exact ⟨rl, bl HB⟩
      ·rw [if_neg c7] at H
       exact absurd H (by simp)
     ·rw [if_neg c6] at H
      exact absurd H (by simp)
    ·rw [if_neg c5] at H
     have c5b0 : decide (x16_1 < (l1.length : Int)) = false := decide_eq_false c5
     clear c5
     obtain rfl := Option.some.inj H
     go_wp2
     go_ret
     exact ⟨rl, bl HB⟩
 ·rw [if_neg c4] at H
  have c4b0 : (t196 == 0) = false := beq_eq_false_iff_ne.mpr c4
  have c4b1 : (t196 != 0) = true := bne_iff_ne.mpr c4
  obtain rfl := Option.some.inj H
  go_enter Tryz.func52, Tryz.ntmps52
  go_wp2_with (first | ((with_reducible refine gate_callee (f := 40) rfl ?_); refine goesM (some 10) Tryz.func40 #[.slice A0 l0.length c0] ?_; (with_reducible refine (prime_Check.calls k _ _ l0 t196 _ ?side1 ?side2 A3.out).mono ?_); (case side1 => repeat (first | exact HR0.out | (with_reducible refine Kd.C_alloc ?_ _) | (with_reducible refine Kd.C_drewN ?_ _) | (with_reducible refine Kd.C_drew ?_))); (case side2 => exact HC0.out); rintro e w' ⟨rfl, ⟨nd, rfl⟩⟩; refine ⟨_, rfl, ?_⟩))
  go_ret
  exact ⟨rl, bl HB⟩
end Go.Proofs.YtailoobjgbldgaaGreatDoor.P
end
section
namespace Go.Proofs.YtailoobjgbldgaaGreatDoor.P
open Go.RowKit Go.Proofs.YtailoobjgbldgaaGreatDoorW.PrintWords Go.Proofs.YtailoobjgbldgaaGreatDoorW.PrintLast Go.Proofs.YtailoobjgbldgaaGreatDoorW.PrintMore
attribute [local go_sem] max2_int min2_int max_two min_two max_three min_three max_four min_four   
set_option linter.unusedVariables false
set_option linter.unusedSimpArgs false
def fraction_both.f (a0_0 : ByteArray) (a0_1 : ByteArray) : Option (Int × Int × Bool) := (fLittle.f a0_0).bind fun bt200 => ((fLittle.f a0_1).bind fun bt202 => (if bt200.2 = true then (some (bt200.1, bt202.1, bt202.2)) else (some (bt200.1, bt202.1, false))))
set_option maxHeartbeats 8000000 in
set_option maxRecDepth 100000 in
theorem fraction_both.calls (a0_0 : ByteArray) (a0_1 : ByteArray) (r1 : Int) (r2 : Int) (r3 : Bool) (w : World) (hG : Glob w) (h : fraction_both.f a0_0 a0_1 = some (r1, r2, r3)) :
  Calls Tryz.prog 79 #[.agg #[.string a0_0, .string a0_1]] w fun e w' => e = .returned (.tuple #[.int .i64 r1, .int .i64 r2, .bool r3]) ∧ Below w.heap.size w w' := by
 have hu30 := Tryz.underlying30
 have HG0 := Aside0.mk hG
 clear hG
 have HB := Aside0.mk (Below.refl w.heap.size w)
 have H : ((fLittle.f a0_0).bind fun bt200 => ((fLittle.f a0_1).bind fun bt202 => (if bt200.2 = true then (some (bt200.1, bt202.1, bt202.2)) else (some (bt200.1, bt202.1, false))))) = some (r1, r2, r3) := h
 clear h
 replace H := Option.bind_eq_some_iff.mp H
 obtain ⟨⟨t200, t201⟩, A20, H⟩ := H
 replace H : ((fLittle.f a0_1).bind fun bt202 => (if t201 = true then (some (t200, bt202.1, bt202.2)) else (some (t200, bt202.1, false)))) = some (r1, r2, r3) := H
 have A2 := Aside0.mk A20
 clear A20
 replace H := Option.bind_eq_some_iff.mp H
 obtain ⟨⟨t202, t203⟩, A30, H⟩ := H
 replace H : (if t201 = true then (some (t200, t202, t203)) else (some (t200, t202, false))) = some (r1, r2, r3) := H
 have A3 := Aside0.mk A30
 clear A30
 by_cases c4 : t201 = true
 ·subst c4
  have H1 : (some (t200, t202, t203)) = some (r1, r2, r3) := by rw [if_pos rfl] at H; exact H
  clear H
  have H := H1
  clear H1
  simp only [Option.some.injEq, Prod.mk.injEq] at H
  obtain ⟨rfl, rfl, rfl⟩ := H
  go_enter Tryz.func79, Tryz.ntmps79
  go_wp2_with (first | ((with_reducible refine gate_dst (N := 1) rfl ?_); refine boxM (N := 1) #[.string a0_0, .string a0_1] 30 ?_; intro gb199 hg w5 hbox hb; have BK199 := Aside0.mk (hbox); have GW199 := Aside0.mk ((by rw [hg]; exact (below_size (bl HB)) : w.heap.size ≤ gb199)); have GE199 := Aside0.mk ((by rw [hg]; exact (below_size (bl HB)) : w.heap.size ≤ gb199)); replace HB := Aside0.mk (below_step (bl HB) hb); clear hb hbox hg; have hcz6_0 : w5.cell? ⟨gb199, 0, none⟩ = some (.string a0_0) := (blk_cell BK199.out 0).trans rfl; have hcz6_1 : w5.cell? ⟨gb199, 1, none⟩ = some (.string a0_1) := (blk_cell BK199.out 1).trans rfl; have hfz6_0 := blk_frozen BK199.out 0; have hfz6_1 := blk_frozen BK199.out 1) | ((with_reducible refine gate_callee (f := 118) rfl ?_); refine goesM (some 10) Tryz.func118 #[.string a0_0] ?_; (with_reducible refine (fLittle.calls a0_0 t200 true _ ?side1 A2.out).mono ?_); (case side1 => exact Glob.below HG0.out (bl HB)); rintro e w7 ⟨rfl, hb⟩; refine ⟨_, rfl, ?_⟩; replace BK199 := Aside0.mk (blk_below (g := gb199) (o := .cells #[.string a0_0, .string a0_1] 30 (0, 0)) (bk BK199) hb); replace HB := Aside0.mk (below_step (bl HB) hb); (try clear hb); (try clear hb2); (try clear hk); (try clear hi); have hcz8_0 : w7.cell? ⟨gb199, 0, none⟩ = some (.string a0_0) := (blk_cell BK199.out 0).trans rfl; have hcz8_1 : w7.cell? ⟨gb199, 1, none⟩ = some (.string a0_1) := (blk_cell BK199.out 1).trans rfl; have hfz8_0 := blk_frozen BK199.out 0; have hfz8_1 := blk_frozen BK199.out 1) | ((with_reducible refine gate_callee (f := 118) rfl ?_); refine goesM (some 16) Tryz.func118 #[.string a0_1] ?_; (with_reducible refine (fLittle.calls a0_1 t202 t203 _ ?side1 A3.out).mono ?_); (case side1 => exact Glob.below HG0.out (bl HB)); rintro e w9 ⟨rfl, hb⟩; refine ⟨_, rfl, ?_⟩; replace BK199 := Aside0.mk (blk_below (g := gb199) (o := .cells #[.string a0_0, .string a0_1] 30 (0, 0)) (bk BK199) hb); replace HB := Aside0.mk (below_step (bl HB) hb); (try clear hb); (try clear hb2); (try clear hk); (try clear hi)))
  go_ret3
  exact ⟨rl, bl HB⟩
 ·replace c4 := Bool.eq_false_iff.mpr c4
  subst c4
  have H1 : (some (t200, t202, false)) = some (r1, r2, r3) := by rw [if_neg (show ¬ (false = true) by decide)] at H; exact H
  clear H
  have H := H1
  clear H1
  simp only [Option.some.injEq, Prod.mk.injEq] at H
  obtain ⟨rfl, rfl, rfl⟩ := H
  go_enter Tryz.func79, Tryz.ntmps79
  go_wp2_with (first | ((with_reducible refine gate_dst (N := 1) rfl ?_); refine boxM (N := 1) #[.string a0_0, .string a0_1] 30 ?_; intro gb199 hg w10 hbox hb; have BK199 := Aside0.mk (hbox); have GW199 := Aside0.mk ((by rw [hg]; exact (below_size (bl HB)) : w.heap.size ≤ gb199)); have GE199 := Aside0.mk ((by rw [hg]; exact (below_size (bl HB)) : w.heap.size ≤ gb199)); replace HB := Aside0.mk (below_step (bl HB) hb); clear hb hbox hg; have hcz11_0 : w10.cell? ⟨gb199, 0, none⟩ = some (.string a0_0) := (blk_cell BK199.out 0).trans rfl; have hcz11_1 : w10.cell? ⟨gb199, 1, none⟩ = some (.string a0_1) := (blk_cell BK199.out 1).trans rfl; have hfz11_0 := blk_frozen BK199.out 0; have hfz11_1 := blk_frozen BK199.out 1) | ((with_reducible refine gate_callee (f := 118) rfl ?_); refine goesM (some 10) Tryz.func118 #[.string a0_0] ?_; (with_reducible refine (fLittle.calls a0_0 t200 false _ ?side1 A2.out).mono ?_); (case side1 => exact Glob.below HG0.out (bl HB)); rintro e w12 ⟨rfl, hb⟩; refine ⟨_, rfl, ?_⟩; replace BK199 := Aside0.mk (blk_below (g := gb199) (o := .cells #[.string a0_0, .string a0_1] 30 (0, 0)) (bk BK199) hb); replace HB := Aside0.mk (below_step (bl HB) hb); (try clear hb); (try clear hb2); (try clear hk); (try clear hi); have hcz13_0 : w12.cell? ⟨gb199, 0, none⟩ = some (.string a0_0) := (blk_cell BK199.out 0).trans rfl; have hcz13_1 : w12.cell? ⟨gb199, 1, none⟩ = some (.string a0_1) := (blk_cell BK199.out 1).trans rfl; have hfz13_0 := blk_frozen BK199.out 0; have hfz13_1 := blk_frozen BK199.out 1) | ((with_reducible refine gate_callee (f := 118) rfl ?_); refine goesM (some 16) Tryz.func118 #[.string a0_1] ?_; (with_reducible refine (fLittle.calls a0_1 t202 t203 _ ?side1 A3.out).mono ?_); (case side1 => exact Glob.below HG0.out (bl HB)); rintro e w14 ⟨rfl, hb⟩; refine ⟨_, rfl, ?_⟩; replace BK199 := Aside0.mk (blk_below (g := gb199) (o := .cells #[.string a0_0, .string a0_1] 30 (0, 0)) (bk BK199) hb); replace HB := Aside0.mk (below_step (bl HB) hb); (try clear hb); (try clear hb2); (try clear hk); (try clear hi)))
  go_ret3
  exact ⟨rl, bl HB⟩
def fraction_of.l0 : Nat → Int → Int → Int → Int → Option (ByteArray × ByteArray)
 | 0, _, _, _, _ => none
 | k + 1, x0, x1, x5, x6 => if x6 = 0 then (if x5 < 0 then (if (wrap64 (-x5)) = 0 then (none) else ((goItoa.f (wrap64 (Int.tdiv x0 (wrap64 (-x5))))).bind fun t205 => ((goItoa.f (wrap64 (Int.tdiv x1 (wrap64 (-x5))))).bind fun t206 => (some (t205, t206))))) else (if x5 = 0 then (none) else ((goItoa.f (wrap64 (Int.tdiv x0 x5))).bind fun t207 => ((goItoa.f (wrap64 (Int.tdiv x1 x5))).bind fun t208 => (some (t207, t208)))))) else (fraction_of.l0 k x0 x1 x6 (Int.tmod x5 x6))
def fraction_of.f (k : Nat) (a0 : Int) (a1 : Int) : Option (ByteArray × ByteArray) := fraction_of.l0 k a0 a1 a0 a1
def fraction_of.T6 : Bool × List (List Nat × List Nat) := (true, [([], []), ([], []), ([0, 1], [0, 1]), ([2], [2]), ([], []), ([], []), ([4, 5], [4, 5]), ([6, 3], [6]), ([3, 7], [3, 7]), ([8, 7, 0, 1, 2, 3, 4, 5, 6, 7, 8], [8])])
def fraction_of.B6 : List Nat := [0, 0, 3, 7, 0, 0, 48, 127, 255, 511]
theorem fraction_of.tab6 : rtab .any (opsOf Tryz.f80 6) = fraction_of.T6 := by kernel_rfl
theorem fraction_of.bits6 : waitsOk fraction_of.T6.2 fraction_of.B6 = true := by kernel_rfl
set_option maxHeartbeats 8000000 in
set_option maxRecDepth 100000 in
theorem fraction_of.calls (k : Nat) (a0 : Int) (a1 : Int) (r1 : ByteArray) (r2 : ByteArray) (w : World) (hG : Glob w) (h : fraction_of.f k a0 a1 = some (r1, r2)) :
  Calls Tryz.prog 80 #[.int .i64 a0, .int .i64 a1] w fun e w' => e = .returned (.agg #[.string r1, .string r2]) ∧ Below w.heap.size w w' := by
 have hu30 := Tryz.underlying30
 have HG0 := Aside0.mk hG
 clear hG
 have HB := Aside0.mk (Below.refl w.heap.size w)
 have H : (fraction_of.l0 k a0 a1 a0 a1) = some (r1, r2) := h
 clear h
 have H' := Aside0.mk H
 clear H
 go_enter Tryz.func80, Tryz.ntmps80
 go_wp2_with (first | ((with_reducible refine gate_dst (N := 4) rfl ?_); refine boxM (N := 4) #[.string (⟨#[]⟩ : ByteArray), .string (⟨#[]⟩ : ByteArray)] 30 ?_; intro gb204 hg w3 hbox hb; have BK204 := Aside0.mk (hbox); have GW204 := Aside0.mk ((by rw [hg]; exact (below_size (bl HB)) : w.heap.size ≤ gb204)); have GE204 := Aside0.mk ((by rw [hg]; exact (below_size (bl HB)) : w.heap.size ≤ gb204)); replace HB := Aside0.mk (below_step (bl HB) hb); clear hb hbox hg))
 go_loopg [5, 6] k (fun kq v5 v6 w' => ∃ (x5_1 : Int) (x6_1 : Int), v5 = .int .i64 x5_1 ∧ v6 = .int .i64 x6_1 ∧ Aside0 (fraction_of.l0 kq a0 a1 x5_1 x6_1 = some (r1, r2)) ∧ Aside0 (kq ≤ k) ∧ Aside0 (w'.heap[gb204]? = some (.cells #[.string (⟨#[]⟩ : ByteArray), .string (⟨#[]⟩ : ByteArray)] 30 (0, 0))) ∧ Aside0 (Below w.heap.size w w'))
 case atStart => exact ⟨(a0), (a1), rs, rs, H', ⟨Nat.le_refl _⟩, ⟨bk BK204⟩, ⟨bl HB⟩⟩
 case round =>
  clear H'
  try clear p2
  obtain ⟨x5_1, x6_1, rfl, rfl, HA, HK1, BK204, HB⟩ := hrel
  cases gk with
  | zero => exact absurd HA.out (by simp [fraction_of.l0])
  | succ k1 =>
   have H := HA.out
   clear HA
   simp only [fraction_of.l0] at H
   by_cases c4 : x6_1 = 0
   ·rw [if_pos c4] at H
    have c4b0 : (x6_1 == 0) = true := beq_iff_eq.mpr c4
    have c4b1 : (x6_1 != 0) = false := bne_eq_false_iff_eq.mpr c4
    clear c4
    by_cases c5 : x5_1 < 0
    ·rw [if_pos c5] at H
     have c5b0 : decide (x5_1 < 0) = true := decide_eq_true c5
     clear c5
     by_cases c6 : (wrap64 (-x5_1)) = 0
     ·rw [if_pos c6] at H
      exact absurd H (by simp)
     ·rw [if_neg c6] at H
      have c6b0 : ((wrap64 (-x5_1)) == 0) = false := beq_eq_false_iff_ne.mpr c6
      have c6b1 : ((wrap64 (-x5_1)) != 0) = true := bne_iff_ne.mpr c6
      replace H := Option.bind_eq_some_iff.mp H
      obtain ⟨t205, A70, H⟩ := H
      replace H : ((goItoa.f (wrap64 (Int.tdiv a1 (wrap64 (-x5_1))))).bind fun t206 => (some (t205, t206))) = some (r1, r2) := H
      have A7 := Aside0.mk A70
      clear A70
      replace H := Option.bind_eq_some_iff.mp H
      obtain ⟨t206, A80, H⟩ := H
      replace H : (some (t205, t206)) = some (r1, r2) := H
      have A8 := Aside0.mk A80
      clear A80
      simp only [Option.some.injEq, Prod.mk.injEq] at H
      obtain ⟨rfl, rfl⟩ := H
      try go_wp2
      replace BK204 := Aside0.mk (blk_drew BK204.out)
      replace HB := Aside0.mk (below_drew1 HB.out)
      refine start_ (n := 10) (S := fun w' => True) (ds := []) #[false, false, false, false, false, false, false, false, false, false] (by kernel_rfl) rfl rfl trivial (fun hHeld => ?_); refine with_tabW fraction_of.tab6 fraction_of.bits6 (fun HT_ HW_ => ?_)
      generalize wr.drew = w9 at BK204 HB hHeld ⊢
      refine purM (i := 0) (N := some 19) #[true, false, false, false, false, false, false, false, false, false] ?_
      refine purM (i := 1) (N := some 20) #[true, true, false, false, false, false, false, false, false, false] ?_
      refine purM (i := 2) (N := some 21) #[true, true, true, false, false, false, false, false, false, false] ?_
      refine purM (i := 4) (N := some 23) #[true, true, true, false, true, false, false, false, false, false] ?_
      refine purM (i := 5) (N := some 24) #[true, true, true, false, true, true, false, false, false, false] ?_
      refine purM (i := 6) (N := some 25) #[true, true, true, false, true, true, true, false, false, false] ?_
      refine one_ (i := 3) (N := some 22) #[true, true, true, true, true, true, true, false, false, false] rfl rfl (one_of HT_.out (by kernel_rfl)) (by decide) (fun K hK => ?_)
      refine goesR Tryz.func89 #[.int .i64 (wrap64 (Int.tdiv a0 (wrap64 (-x5_1))))] ?_
      with_reducible refine (goItoa.calls (wrap64 (Int.tdiv a0 (wrap64 (-x5_1)))) t205 _ ?side1 A7.out).mono ?_
      (case side1 => exact Glob.below HG0.out (bl HB))
      rintro e w10 ⟨rfl, hb⟩
      refine ⟨_, rfl, ?_⟩
      replace BK204 := Aside0.mk (blk_below (g := gb204) (o := .cells #[.string (⟨#[]⟩ : ByteArray), .string (⟨#[]⟩ : ByteArray)] 30 (0, 0)) (bk BK204) hb)
      replace HB := Aside0.mk (below_step (bl HB) hb)
      (try clear hb)
      (try clear hb2)
      (try clear hk)
      (try clear hi)
      refine hK.out _ _ trivial (fun hHeld => ?_)
      clear hK K
      refine norm_ (a' := ?_) ?_ ?_
      rotate_left
      ·show Act.put _ (some 22) _ = _
       simp only [Act.put, List.setIfInBounds_toArray, List.set_cons_zero, List.set_cons_succ, i64_w, i32_w]
       rfl
      refine one_ (i := 7) (N := some 26) #[true, true, true, true, true, true, true, true, false, false] rfl rfl (one_of HT_.out (by kernel_rfl)) (by decide) (fun K hK => ?_)
      refine goesR Tryz.func89 #[.int .i64 (wrap64 (Int.tdiv a1 (wrap64 (-x5_1))))] ?_
      with_reducible refine (goItoa.calls (wrap64 (Int.tdiv a1 (wrap64 (-x5_1)))) t206 _ ?side1 A8.out).mono ?_
      (case side1 => exact Glob.below HG0.out (bl HB))
      rintro e w11 ⟨rfl, hb⟩
      refine ⟨_, rfl, ?_⟩
      replace BK204 := Aside0.mk (blk_below (g := gb204) (o := .cells #[.string (⟨#[]⟩ : ByteArray), .string (⟨#[]⟩ : ByteArray)] 30 (0, 0)) (bk BK204) hb)
      replace HB := Aside0.mk (below_step (bl HB) hb)
      (try clear hb)
      (try clear hb2)
      (try clear hk)
      (try clear hi)
      refine hK.out _ _ trivial (fun hHeld => ?_)
      clear hK K
      refine norm_ (a' := ?_) ?_ ?_
      rotate_left
      ·show Act.put _ (some 26) _ = _
       simp only [Act.put, List.setIfInBounds_toArray, List.set_cons_zero, List.set_cons_succ, i64_w, i32_w]
       rfl
      refine purM (i := 8) (N := some 27) #[true, true, true, true, true, true, true, true, true, false] ?_
      refine one_ (i := 9) (N := none) #[true, true, true, true, true, true, true, true, true, true] rfl rfl (one_of HT_.out (by kernel_rfl)) (by decide) (fun K hK => ?_)
      have hs12 : w11.cell? ⟨gb204, 0, none⟩ = some (.string (⟨#[]⟩ : ByteArray)) := (blk_cell BK204.out 0).trans rfl
      have hfs12 := blk_frozen BK204.out 0
      have hs13 : w11.cell? ⟨gb204, 1, none⟩ = some (.string (⟨#[]⟩ : ByteArray)) := (blk_cell BK204.out 1).trans rfl
      have hfs13 := blk_frozen BK204.out 1
      refine skip_ (w1 := ?_) (by rfl) rfl ?_ ?_
      rotate_left
      ·go_simp
       rfl
      refine hK.out _ _ trivial (fun hHeld => ?_)
      clear hK K
      refine done_ (done_of HT_.out (by kernel_rfl)) ?_
      try go_wp2
      refine bodyPost_ret (results_cell_row rfl _ _ gb204 30 #[.string t205, .string t206] (0, 0) _ rfl (by (with_reducible repeat (first | refine blk_drewN ?_ _ | refine blk_drew ?_ | refine blk_alloc ?_ _)); refine blk_put (cs := #[.string t205, .string (⟨#[]⟩ : ByteArray)]) ?_ 1 _ rfl; (with_reducible repeat (first | refine blk_drewN ?_ _ | refine blk_drew ?_ | refine blk_alloc ?_ _)); refine blk_put (cs := #[.string (⟨#[]⟩ : ByteArray), .string (⟨#[]⟩ : ByteArray)]) ?_ 0 _ rfl; (with_reducible repeat (first | refine blk_drewN ?_ _ | refine blk_drew ?_ | refine blk_alloc ?_ _)); exact BK204.out) Tryz.underlying30 rfl (by kernel_rfl)) rfl ?_
      exact ⟨rl, bl HB⟩
    ·rw [if_neg c5] at H
     have c5b0 : decide (x5_1 < 0) = false := decide_eq_false c5
     clear c5
     by_cases c14 : x5_1 = 0
     ·rw [if_pos c14] at H
      exact absurd H (by simp)
     ·rw [if_neg c14] at H
      have c14b0 : (x5_1 == 0) = false := beq_eq_false_iff_ne.mpr c14
      have c14b1 : (x5_1 != 0) = true := bne_iff_ne.mpr c14
      replace H := Option.bind_eq_some_iff.mp H
      obtain ⟨t207, A150, H⟩ := H
      replace H : ((goItoa.f (wrap64 (Int.tdiv a1 x5_1))).bind fun t208 => (some (t207, t208))) = some (r1, r2) := H
      have A15 := Aside0.mk A150
      clear A150
      replace H := Option.bind_eq_some_iff.mp H
      obtain ⟨t208, A160, H⟩ := H
      replace H : (some (t207, t208)) = some (r1, r2) := H
      have A16 := Aside0.mk A160
      clear A160
      simp only [Option.some.injEq, Prod.mk.injEq] at H
      obtain ⟨rfl, rfl⟩ := H
      try go_wp2
      replace BK204 := Aside0.mk (blk_drew BK204.out)
      replace HB := Aside0.mk (below_drew1 HB.out)
      refine start_ (n := 10) (S := fun w' => True) (ds := []) #[false, false, false, false, false, false, false, false, false, false] (by kernel_rfl) rfl rfl trivial (fun hHeld => ?_); refine with_tabW fraction_of.tab6 fraction_of.bits6 (fun HT_ HW_ => ?_)
      generalize wr.drew = w17 at BK204 HB hHeld ⊢
      refine purM (i := 0) (N := some 19) #[true, false, false, false, false, false, false, false, false, false] ?_
      refine purM (i := 1) (N := some 20) #[true, true, false, false, false, false, false, false, false, false] ?_
      refine purM (i := 2) (N := some 21) #[true, true, true, false, false, false, false, false, false, false] ?_
      refine purM (i := 4) (N := some 23) #[true, true, true, false, true, false, false, false, false, false] ?_
      refine purM (i := 5) (N := some 24) #[true, true, true, false, true, true, false, false, false, false] ?_
      refine purM (i := 6) (N := some 25) #[true, true, true, false, true, true, true, false, false, false] ?_
      refine one_ (i := 3) (N := some 22) #[true, true, true, true, true, true, true, false, false, false] rfl rfl (one_of HT_.out (by kernel_rfl)) (by decide) (fun K hK => ?_)
      refine goesR Tryz.func89 #[.int .i64 (wrap64 (Int.tdiv a0 x5_1))] ?_
      with_reducible refine (goItoa.calls (wrap64 (Int.tdiv a0 x5_1)) t207 _ ?side1 A15.out).mono ?_
      (case side1 => exact Glob.below HG0.out (bl HB))
      rintro e w18 ⟨rfl, hb⟩
      refine ⟨_, rfl, ?_⟩
      replace BK204 := Aside0.mk (blk_below (g := gb204) (o := .cells #[.string (⟨#[]⟩ : ByteArray), .string (⟨#[]⟩ : ByteArray)] 30 (0, 0)) (bk BK204) hb)
      replace HB := Aside0.mk (below_step (bl HB) hb)
      (try clear hb)
      (try clear hb2)
      (try clear hk)
      (try clear hi)
      refine hK.out _ _ trivial (fun hHeld => ?_)
      clear hK K
      refine norm_ (a' := ?_) ?_ ?_
      rotate_left
      ·show Act.put _ (some 22) _ = _
       simp only [Act.put, List.setIfInBounds_toArray, List.set_cons_zero, List.set_cons_succ, i64_w, i32_w]
       rfl
      refine one_ (i := 7) (N := some 26) #[true, true, true, true, true, true, true, true, false, false] rfl rfl (one_of HT_.out (by kernel_rfl)) (by decide) (fun K hK => ?_)
      refine goesR Tryz.func89 #[.int .i64 (wrap64 (Int.tdiv a1 x5_1))] ?_
      with_reducible refine (goItoa.calls (wrap64 (Int.tdiv a1 x5_1)) t208 _ ?side1 A16.out).mono ?_
      (case side1 => exact Glob.below HG0.out (bl HB))
      rintro e w19 ⟨rfl, hb⟩
      refine ⟨_, rfl, ?_⟩
      replace BK204 := Aside0.mk (blk_below (g := gb204) (o := .cells #[.string (⟨#[]⟩ : ByteArray), .string (⟨#[]⟩ : ByteArray)] 30 (0, 0)) (bk BK204) hb)
      replace HB := Aside0.mk (below_step (bl HB) hb)
      (try clear hb)
      (try clear hb2)
      (try clear hk)
      (try clear hi)
      refine hK.out _ _ trivial (fun hHeld => ?_)
      clear hK K
      refine norm_ (a' := ?_) ?_ ?_
      rotate_left
      ·show Act.put _ (some 26) _ = _
       simp only [Act.put, List.setIfInBounds_toArray, List.set_cons_zero, List.set_cons_succ, i64_w, i32_w]
       rfl
      refine purM (i := 8) (N := some 27) #[true, true, true, true, true, true, true, true, true, false] ?_
      refine one_ (i := 9) (N := none) #[true, true, true, true, true, true, true, true, true, true] rfl rfl (one_of HT_.out (by kernel_rfl)) (by decide) (fun K hK => ?_)
      have hs20 : w19.cell? ⟨gb204, 0, none⟩ = some (.string (⟨#[]⟩ : ByteArray)) := (blk_cell BK204.out 0).trans rfl
      have hfs20 := blk_frozen BK204.out 0
      have hs21 : w19.cell? ⟨gb204, 1, none⟩ = some (.string (⟨#[]⟩ : ByteArray)) := (blk_cell BK204.out 1).trans rfl
      have hfs21 := blk_frozen BK204.out 1
      refine skip_ (w1 := ?_) (by rfl) rfl ?_ ?_
      rotate_left
      ·go_simp
       rfl
      refine hK.out _ _ trivial (fun hHeld => ?_)
      clear hK K
      refine done_ (done_of HT_.out (by kernel_rfl)) ?_
      try go_wp2
      refine bodyPost_ret (results_cell_row rfl _ _ gb204 30 #[.string t207, .string t208] (0, 0) _ rfl (by (with_reducible repeat (first | refine blk_drewN ?_ _ | refine blk_drew ?_ | refine blk_alloc ?_ _)); refine blk_put (cs := #[.string t207, .string (⟨#[]⟩ : ByteArray)]) ?_ 1 _ rfl; (with_reducible repeat (first | refine blk_drewN ?_ _ | refine blk_drew ?_ | refine blk_alloc ?_ _)); refine blk_put (cs := #[.string (⟨#[]⟩ : ByteArray), .string (⟨#[]⟩ : ByteArray)]) ?_ 0 _ rfl; (with_reducible repeat (first | refine blk_drewN ?_ _ | refine blk_drew ?_ | refine blk_alloc ?_ _)); exact BK204.out) Tryz.underlying30 rfl (by kernel_rfl)) rfl ?_
      exact ⟨rl, bl HB⟩
   ·rw [if_neg c4] at H
    have c4b0 : (x6_1 == 0) = false := beq_eq_false_iff_ne.mpr c4
    have c4b1 : (x6_1 != 0) = true := bne_iff_ne.mpr c4
    have H' := Aside0.mk H
    clear H
    try go_wp2
    replace BK204 := Aside0.mk (blk_drew BK204.out)
    replace HB := Aside0.mk (below_drew1 HB.out)
    refine start_ (n := 6) (S := fun w' => True) (ds := []) #[false, false, false, false, false, false] (by kernel_rfl) rfl rfl trivial (fun hHeld => ?_)
    generalize wr.drew = w22 at BK204 HB hHeld ⊢
    refine pure_ (i := 0) (N := some 11) (v := ?_) (a' := ?_) #[true, false, false, false, false, false] rfl rfl (by kernel_rfl) (fun _ _ _ h => h) (Or.inl ⟨by rfl, ?_⟩) ?_ ?_
    rotate_left
    ·intro w'
     go_simp
     with_reducible rfl
    rotate_left
    ·simp only [Act.put, List.setIfInBounds_toArray, List.set_cons_zero, List.set_cons_succ, i64_w, i32_w]
     rfl
    refine pure_ (i := 1) (N := some 12) (v := ?_) (a' := ?_) #[true, true, false, false, false, false] rfl rfl (by kernel_rfl) (fun _ _ _ h => h) (Or.inl ⟨by rfl, ?_⟩) ?_ ?_
    rotate_left
    ·intro w'
     go_simp
     with_reducible rfl
    rotate_left
    ·simp only [Act.put, List.setIfInBounds_toArray, List.set_cons_zero, List.set_cons_succ, i64_w, i32_w]
     rfl
    refine pure_ (i := 2) (N := some 13) (v := ?_) (a' := ?_) #[true, true, true, false, false, false] rfl rfl (by kernel_rfl) (fun _ _ _ h => h) (Or.inl ⟨by rfl, ?_⟩) ?_ ?_
    rotate_left
    ·intro w'
     go_simp
     with_reducible rfl
    rotate_left
    ·simp only [Act.put, List.setIfInBounds_toArray, List.set_cons_zero, List.set_cons_succ, i64_w, i32_w]
     rfl
    refine pure_ (i := 3) (N := some 14) (v := ?_) (a' := ?_) #[true, true, true, true, false, false] rfl rfl (by kernel_rfl) (fun _ _ _ h => h) (Or.inl ⟨by rfl, ?_⟩) ?_ ?_
    rotate_left
    ·intro w'
     go_simp
     with_reducible rfl
    rotate_left
    ·simp only [Act.put, List.setIfInBounds_toArray, List.set_cons_zero, List.set_cons_succ, i64_w, i32_w]
     rfl
    refine pure_ (i := 4) (N := some 5) (v := ?_) (a' := ?_) #[true, true, true, true, true, false] rfl rfl (by kernel_rfl) (fun _ _ _ h => h) (Or.inl ⟨by rfl, ?_⟩) ?_ ?_
    rotate_left
    ·intro w'
     go_simp
     with_reducible rfl
    rotate_left
    ·simp only [Act.put, List.setIfInBounds_toArray, List.set_cons_zero, List.set_cons_succ, i64_w, i32_w]
     rfl
    refine pure_ (i := 5) (N := some 6) (v := ?_) (a' := ?_) #[true, true, true, true, true, true] rfl rfl (by kernel_rfl) (fun _ _ _ h => h) (Or.inl ⟨by rfl, ?_⟩) ?_ ?_
    rotate_left
    ·intro w'
     go_simp
     with_reducible rfl
    rotate_left
    ·simp only [Act.put, List.setIfInBounds_toArray, List.set_cons_zero, List.set_cons_succ, i64_w, i32_w]
     rfl
    refine done_ (by kernel_rfl) ?_
    try go_wp2
    go_roundg k1
    case measure => have := HK1.out; omega
    case rel => exact ⟨(x6_1), (Int.tmod x5_1 x6_1), rs, rs, H', ⟨by have := HK1.out; omega⟩, ⟨bk BK204⟩, ⟨bl HB⟩⟩
def decimal_Mul.f (k : Nat) (a0 : ByteArray) (a1 : ByteArray) : Option (ByteArray) := if (wrap64 ((a0.size : Int) + (a1.size : Int))) ≤ 18 then ((decimal_both.f k a0 a1).bind fun bt209 => ((decimal_Of.f (IntKind.u64.wrap (bt209.1 * bt209.2.1))).bind fun t212 => (some t212))) else (none)
set_option maxHeartbeats 8000000 in
set_option maxRecDepth 100000 in
theorem decimal_Mul.calls (k : Nat) (a0 : ByteArray) (a1 : ByteArray) (r : ByteArray) (w : World) (hG : Glob w) (h : decimal_Mul.f k a0 a1 = some r) :
  Calls Tryz.prog 119 #[.string a0, .string a1] w fun e w' => e = .returned (.string r) ∧ Below w.heap.size w w' := by
 have HG0 := Aside0.mk hG
 clear hG
 have HB := Aside0.mk (Below.refl w.heap.size w)
 have H : (if (wrap64 ((a0.size : Int) + (a1.size : Int))) ≤ 18 then ((decimal_both.f k a0 a1).bind fun bt209 => ((decimal_Of.f (IntKind.u64.wrap (bt209.1 * bt209.2.1))).bind fun t212 => (some t212))) else (none)) = some r := h
 clear h
 by_cases c3 : (wrap64 ((a0.size : Int) + (a1.size : Int))) ≤ 18
 ·rw [if_pos c3] at H
  have c3b0 : decide ((wrap64 ((a0.size : Int) + (a1.size : Int))) ≤ 18) = true := decide_eq_true c3
  clear c3
  replace H := Option.bind_eq_some_iff.mp H
  obtain ⟨⟨t209, t210, t211⟩, A40, H⟩ := H
  replace H : ((decimal_Of.f (IntKind.u64.wrap (t209 * t210))).bind fun t212 => (some t212)) = some r := H
  have A4 := Aside0.mk A40
  clear A40
  replace H := Option.bind_eq_some_iff.mp H
  obtain ⟨t212, A50, H⟩ := H
  replace H : (some t212) = some r := H
  have A5 := Aside0.mk A50
  clear A50
  obtain rfl := Option.some.inj H
  go_enter Tryz.func119, Tryz.ntmps119
  go_wp2_with (first | ((with_reducible refine gate_callee (f := 141) rfl ?_); refine goesM (some 17) Tryz.func141 #[.string a0, .string a1] ?_; (with_reducible refine (decimal_both.calls k a0 a1 t209 t210 t211 _ ?side1 A4.out).mono ?_); (case side1 => exact Glob.below HG0.out (bl HB)); rintro e w6 ⟨rfl, hb⟩; refine ⟨_, rfl, ?_⟩; replace HB := Aside0.mk (below_step (bl HB) hb); (try clear hb); (try clear hb2); (try clear hk); (try clear hi)) | ((with_reducible refine gate_callee (f := 122) rfl ?_); refine goesM (some 24) Tryz.func122 #[.int .u64 (IntKind.u64.wrap (t209 * t210))] ?_; (with_reducible refine (decimal_Of.calls (IntKind.u64.wrap (t209 * t210)) t212 _ ?side1 A5.out).mono ?_); (case side1 => exact Glob.below HG0.out (bl HB)); rintro e w7 ⟨rfl, hb⟩; refine ⟨_, rfl, ?_⟩; replace HB := Aside0.mk (below_step (bl HB) hb); (try clear hb); (try clear hb2); (try clear hk); (try clear hi)))
  go_ret
  exact ⟨rl, bl HB⟩
 ·rw [if_neg c3] at H
  exact absurd H (by simp)
def whole_Mul.j0 : Nat → ByteArray → ByteArray → Option (ByteArray)
 | 0, _, _ => none
 | k + 1, x0, x1 => (whole_split.f x0).bind fun bt218 => ((whole_split.f x1).bind fun bt220 => ((decimal_Mul.f k bt218.2 bt220.2).bind fun t222 => ((whole_join.f (bt218.1 != bt220.1) t222).bind fun t223 => (some t223))))
def whole_Mul.f (k : Nat) (a0 : ByteArray) (a1 : ByteArray) : Option (ByteArray) := (wLittle.f a0 9).bind fun bt213 => (if bt213.2 = true then ((wLittle.f a1 9).bind fun bt215 => (if bt215.2 = true then ((whole_Of.f (wrap64 (bt213.1 * bt215.1))).bind fun t217 => (some t217)) else (whole_Mul.j0 k a0 a1))) else (whole_Mul.j0 k a0 a1))
set_option maxHeartbeats 8000000 in
set_option maxRecDepth 100000 in
theorem whole_Mul.calls (k : Nat) (a0 : ByteArray) (a1 : ByteArray) (r : ByteArray) (w : World) (hG : Glob w) (h : whole_Mul.f k a0 a1 = some r) :
  Calls Tryz.prog 82 #[.string a0, .string a1] w fun e w' => e = .returned (.string r) ∧ Below w.heap.size w w' := by
 have HG0 := Aside0.mk hG
 clear hG
 have HB := Aside0.mk (Below.refl w.heap.size w)
 have H : ((wLittle.f a0 9).bind fun bt213 => (if bt213.2 = true then ((wLittle.f a1 9).bind fun bt215 => (if bt215.2 = true then ((whole_Of.f (wrap64 (bt213.1 * bt215.1))).bind fun t217 => (some t217)) else (whole_Mul.j0 k a0 a1))) else (whole_Mul.j0 k a0 a1))) = some r := h
 clear h
 replace H := Option.bind_eq_some_iff.mp H
 obtain ⟨⟨t213, t214⟩, A30, H⟩ := H
 replace H : (if t214 = true then ((wLittle.f a1 9).bind fun bt215 => (if bt215.2 = true then ((whole_Of.f (wrap64 (t213 * bt215.1))).bind fun t217 => (some t217)) else (whole_Mul.j0 k a0 a1))) else (whole_Mul.j0 k a0 a1)) = some r := H
 have A3 := Aside0.mk A30
 clear A30
 have HC4 := Aside0.mk H
 clear H
 go_enter Tryz.func82, Tryz.ntmps82
 go_upto_if 18 with (first | ((with_reducible refine gate_callee (f := 96) rfl ?_); refine goesM (some 15) Tryz.func96 #[.string a0, .int .i64 9] ?_; (with_reducible refine (wLittle.calls a0 9 t213 t214 _ ?side1 A3.out).mono ?_); (case side1 => exact Glob.below HG0.out (bl HB)); rintro e w5 ⟨rfl, hb⟩; refine ⟨_, rfl, ?_⟩; replace HB := Aside0.mk (below_step (bl HB) hb); (try clear hb); (try clear hb2); (try clear hk); (try clear hi)))
 (try simp only [Act.put, List.setIfInBounds_toArray, List.set_cons_zero, List.set_cons_succ])
 go_cut [] (fun wc => ∃ (kq : Nat), Aside0 (whole_Mul.j0 kq a0 a1 = some r) ∧ Aside0 (kq ≤ k) ∧ Aside0 (Below w.heap.size w wc))
 case first =>
  have H := HC4.out
  clear HC4
  by_cases c6 : t214 = true
  ·subst c6
   have H1 : ((wLittle.f a1 9).bind fun bt215 => (if bt215.2 = true then ((whole_Of.f (wrap64 (t213 * bt215.1))).bind fun t217 => (some t217)) else (whole_Mul.j0 k a0 a1))) = some r := by rw [if_pos rfl] at H; exact H
   clear H
   have H := H1
   clear H1
   replace H := Option.bind_eq_some_iff.mp H
   obtain ⟨⟨t215, t216⟩, A70, H⟩ := H
   replace H : (if t216 = true then ((whole_Of.f (wrap64 (t213 * t215))).bind fun t217 => (some t217)) else (whole_Mul.j0 k a0 a1)) = some r := H
   have A7 := Aside0.mk A70
   clear A70
   by_cases c8 : t216 = true
   ·subst c8
    have H1 : ((whole_Of.f (wrap64 (t213 * t215))).bind fun t217 => (some t217)) = some r := by rw [if_pos rfl] at H; exact H
    clear H
    have H := H1
    clear H1
    replace H := Option.bind_eq_some_iff.mp H
    obtain ⟨t217, A90, H⟩ := H
    replace H : (some t217) = some r := H
    have A9 := Aside0.mk A90
    clear A90
    obtain rfl := Option.some.inj H
    go_wp2_with (first | ((with_reducible refine gate_callee (f := 96) rfl ?_); refine goesM (some 21) Tryz.func96 #[.string a1, .int .i64 9] ?_; (with_reducible refine (wLittle.calls a1 9 t215 true _ ?side1 A7.out).mono ?_); (case side1 => exact Glob.below HG0.out (bl HB)); rintro e w10 ⟨rfl, hb⟩; refine ⟨_, rfl, ?_⟩; replace HB := Aside0.mk (below_step (bl HB) hb); (try clear hb); (try clear hb2); (try clear hk); (try clear hi)) | ((with_reducible refine gate_callee (f := 97) rfl ?_); refine goesM (some 28) Tryz.func97 #[.int .i64 (wrap64 (t213 * t215))] ?_; (with_reducible refine (whole_Of.calls (wrap64 (t213 * t215)) t217 _ ?side1 A9.out).mono ?_); (case side1 => exact Glob.below HG0.out (bl HB)); rintro e w11 ⟨rfl, hb⟩; refine ⟨_, rfl, ?_⟩; replace HB := Aside0.mk (below_step (bl HB) hb); (try clear hb); (try clear hb2); (try clear hk); (try clear hi)))
    go_ret
    exact ⟨rl, bl HB⟩
   ·replace c8 := Bool.eq_false_iff.mpr c8
    subst c8
    have H1 : (whole_Mul.j0 k a0 a1) = some r := by rw [if_neg (show ¬ (false = true) by decide)] at H; exact H
    clear H
    have H := H1
    clear H1
    have H' := Aside0.mk H
    clear H
    go_wp2_with (first | ((with_reducible refine gate_callee (f := 96) rfl ?_); refine goesM (some 21) Tryz.func96 #[.string a1, .int .i64 9] ?_; (with_reducible refine (wLittle.calls a1 9 t215 false _ ?side1 A7.out).mono ?_); (case side1 => exact Glob.below HG0.out (bl HB)); rintro e w12 ⟨rfl, hb⟩; refine ⟨_, rfl, ?_⟩; replace HB := Aside0.mk (below_step (bl HB) hb); (try clear hb); (try clear hb2); (try clear hk); (try clear hi)))
    go_meet
    case rel => exact ⟨_, H', ⟨by first | omega | exact Nat.le_refl _⟩, ⟨bl HB⟩⟩
  ·replace c6 := Bool.eq_false_iff.mpr c6
   subst c6
   have H1 : (whole_Mul.j0 k a0 a1) = some r := by rw [if_neg (show ¬ (false = true) by decide)] at H; exact H
   clear H
   have H := H1
   clear H1
   have H' := Aside0.mk H
   clear H
   go_wp2
   go_meet
   case rel => exact ⟨_, H', ⟨by first | omega | exact Nat.le_refl _⟩, ⟨bl HB⟩⟩
 case rest =>
  clear HC4
  try clear p2
  try clear c6
  try clear p6
  try clear c8
  try clear c9
  obtain ⟨kq, HA, HJ3, HB⟩ := hcut
  cases kq with
  | zero => exact absurd HA.out (by simp [whole_Mul.j0])
  | succ kj3 =>
   have H := HA.out
   clear HA
   simp only [whole_Mul.j0] at H
   replace H := Option.bind_eq_some_iff.mp H
   obtain ⟨⟨t218, t219⟩, A130, H⟩ := H
   replace H : ((whole_split.f a1).bind fun bt220 => ((decimal_Mul.f kj3 t219 bt220.2).bind fun t222 => ((whole_join.f (t218 != bt220.1) t222).bind fun t223 => (some t223)))) = some r := H
   have A13 := Aside0.mk A130
   clear A130
   replace H := Option.bind_eq_some_iff.mp H
   obtain ⟨⟨t220, t221⟩, A140, H⟩ := H
   replace H : ((decimal_Mul.f kj3 t219 t221).bind fun t222 => ((whole_join.f (t218 != t220) t222).bind fun t223 => (some t223))) = some r := H
   have A14 := Aside0.mk A140
   clear A140
   replace H := Option.bind_eq_some_iff.mp H
   obtain ⟨t222, A150, H⟩ := H
   replace H : ((whole_join.f (t218 != t220) t222).bind fun t223 => (some t223)) = some r := H
   have A15 := Aside0.mk A150
   clear A150
   replace H := Option.bind_eq_some_iff.mp H
   obtain ⟨t223, A160, H⟩ := H
   replace H : (some t223) = some r := H
   have A16 := Aside0.mk A160
   clear A160
   obtain rfl := Option.some.inj H
   go_wp2_with (first | ((with_reducible refine gate_callee (f := 76) rfl ?_); refine goesM (some 31) Tryz.func76 #[.string a0] ?_; (with_reducible refine (whole_split.calls a0 t218 t219 _ A13.out).mono ?_); rintro e w' ⟨rfl, ⟨nd, rfl⟩⟩; refine ⟨_, rfl, ?_⟩) | ((with_reducible refine gate_callee (f := 76) rfl ?_); refine goesM (some 36) Tryz.func76 #[.string a1] ?_; (with_reducible refine (whole_split.calls a1 t220 t221 _ A14.out).mono ?_); rintro e w' ⟨rfl, ⟨nd, rfl⟩⟩; refine ⟨_, rfl, ?_⟩) | ((with_reducible refine gate_callee (f := 119) rfl ?_); refine goesM (some 44) Tryz.func119 #[.string t219, .string t221] ?_; (with_reducible refine (decimal_Mul.calls kj3 t219 t221 t222 _ ?side1 A15.out).mono ?_); (case side1 => exact Glob.below HG0.out (bl HB)); rintro e w17 ⟨rfl, hb⟩; refine ⟨_, rfl, ?_⟩; replace HB := Aside0.mk (below_step (bl HB) hb); (try clear hb); (try clear hb2); (try clear hk); (try clear hi)) | ((with_reducible refine gate_callee (f := 78) rfl ?_); refine goesM (some 45) Tryz.func78 #[.bool (!(t218 == t220)), .string t222] ?_; (with_reducible refine (whole_join.calls (!(t218 == t220)) t222 t223 _ (by with_unfolding_all exact A16.out)).mono ?_); rintro e w' ⟨rfl, ⟨nd, rfl⟩⟩; refine ⟨_, rfl, ?_⟩))
   go_ret
   exact ⟨rl, bl HB⟩
end Go.Proofs.YtailoobjgbldgaaGreatDoor.P
end
section
namespace Go.Proofs.YtailoobjgbldgaaGreatDoor.P
open Go.RowKit Go.Proofs.YtailoobjgbldgaaGreatDoorW.PrintWords Go.Proofs.YtailoobjgbldgaaGreatDoorW.PrintLast Go.Proofs.YtailoobjgbldgaaGreatDoorW.PrintMore
attribute [local go_sem] max2_int min2_int max_two min_two max_three min_three max_four min_four   
set_option linter.unusedVariables false
set_option linter.unusedSimpArgs false
def fraction_Mul.f (k : Nat) (a0_0 : ByteArray) (a0_1 : ByteArray) (a1_0 : ByteArray) (a1_1 : ByteArray) : Option (ByteArray × ByteArray) := (fraction_both.f a0_0 a0_1).bind fun bt227 => (if bt227.2.2 = true then ((fraction_both.f a1_0 a1_1).bind fun bt230 => (if bt230.2.2 = true then ((fraction_of.f k (wrap64 (bt227.1 * bt230.1)) (wrap64 (bt227.2.1 * bt230.2.1))).bind fun bt233 => (some (bt233.1, bt233.2))) else ((whole_Mul.f k a0_0 a1_0).bind fun t235 => ((whole_Mul.f k a0_1 a1_1).bind fun t236 => ((fraction_lowest.f k t235 t236).bind fun bt237 => (some (bt237.1, bt237.2))))))) else ((whole_Mul.f k a0_0 a1_0).bind fun t239 => ((whole_Mul.f k a0_1 a1_1).bind fun t240 => ((fraction_lowest.f k t239 t240).bind fun bt241 => (some (bt241.1, bt241.2))))))
def fraction_Mul.T6 : Bool × List (List Nat × List Nat) := (true, [([], []), ([0], [0]), ([], []), ([2], [2]), ([1, 3], [1, 3]), ([], []), ([5], [5]), ([], []), ([7], [7]), ([6, 8, 4], [6, 8]), ([4, 9, 9], [4, 9]), ([10, 10, 0, 1, 2, 3, 4, 5, 6, 7, 8, 9, 10], [10])])
def fraction_Mul.B6 : List Nat := [0, 1, 0, 4, 15, 0, 32, 0, 128, 511, 1023, 2047]
theorem fraction_Mul.tab6 : rtab .any (opsOf Tryz.f35 6) = fraction_Mul.T6 := by kernel_rfl
theorem fraction_Mul.bits6 : waitsOk fraction_Mul.T6.2 fraction_Mul.B6 = true := by kernel_rfl
set_option maxHeartbeats 8000000 in
set_option maxRecDepth 100000 in
theorem fraction_Mul.calls (k : Nat) (a0_0 : ByteArray) (a0_1 : ByteArray) (a1_0 : ByteArray) (a1_1 : ByteArray) (r1 : ByteArray) (r2 : ByteArray) (w : World) (hG : Glob w) (h : fraction_Mul.f k a0_0 a0_1 a1_0 a1_1 = some (r1, r2)) :
  Calls Tryz.prog 35 #[.agg #[.string a0_0, .string a0_1], .agg #[.string a1_0, .string a1_1]] w fun e w' => e = .returned (.agg #[.string r1, .string r2]) ∧ Below w.heap.size w w' := by
 have hu30 := Tryz.underlying30
 have HG0 := Aside0.mk hG
 clear hG
 have HB := Aside0.mk (Below.refl w.heap.size w)
 have H : ((fraction_both.f a0_0 a0_1).bind fun bt227 => (if bt227.2.2 = true then ((fraction_both.f a1_0 a1_1).bind fun bt230 => (if bt230.2.2 = true then ((fraction_of.f k (wrap64 (bt227.1 * bt230.1)) (wrap64 (bt227.2.1 * bt230.2.1))).bind fun bt233 => (some (bt233.1, bt233.2))) else ((whole_Mul.f k a0_0 a1_0).bind fun t235 => ((whole_Mul.f k a0_1 a1_1).bind fun t236 => ((fraction_lowest.f k t235 t236).bind fun bt237 => (some (bt237.1, bt237.2))))))) else ((whole_Mul.f k a0_0 a1_0).bind fun t239 => ((whole_Mul.f k a0_1 a1_1).bind fun t240 => ((fraction_lowest.f k t239 t240).bind fun bt241 => (some (bt241.1, bt241.2))))))) = some (r1, r2) := h
 clear h
 replace H := Option.bind_eq_some_iff.mp H
 obtain ⟨⟨t227, t228, t229⟩, A30, H⟩ := H
 replace H : (if t229 = true then ((fraction_both.f a1_0 a1_1).bind fun bt230 => (if bt230.2.2 = true then ((fraction_of.f k (wrap64 (t227 * bt230.1)) (wrap64 (t228 * bt230.2.1))).bind fun bt233 => (some (bt233.1, bt233.2))) else ((whole_Mul.f k a0_0 a1_0).bind fun t235 => ((whole_Mul.f k a0_1 a1_1).bind fun t236 => ((fraction_lowest.f k t235 t236).bind fun bt237 => (some (bt237.1, bt237.2))))))) else ((whole_Mul.f k a0_0 a1_0).bind fun t239 => ((whole_Mul.f k a0_1 a1_1).bind fun t240 => ((fraction_lowest.f k t239 t240).bind fun bt241 => (some (bt241.1, bt241.2)))))) = some (r1, r2) := H
 have A3 := Aside0.mk A30
 clear A30
 by_cases c4 : t229 = true
 ·subst c4
  have H1 : ((fraction_both.f a1_0 a1_1).bind fun bt230 => (if bt230.2.2 = true then ((fraction_of.f k (wrap64 (t227 * bt230.1)) (wrap64 (t228 * bt230.2.1))).bind fun bt233 => (some (bt233.1, bt233.2))) else ((whole_Mul.f k a0_0 a1_0).bind fun t235 => ((whole_Mul.f k a0_1 a1_1).bind fun t236 => ((fraction_lowest.f k t235 t236).bind fun bt237 => (some (bt237.1, bt237.2))))))) = some (r1, r2) := by rw [if_pos rfl] at H; exact H
  clear H
  have H := H1
  clear H1
  replace H := Option.bind_eq_some_iff.mp H
  obtain ⟨⟨t230, t231, t232⟩, A50, H⟩ := H
  replace H : (if t232 = true then ((fraction_of.f k (wrap64 (t227 * t230)) (wrap64 (t228 * t231))).bind fun bt233 => (some (bt233.1, bt233.2))) else ((whole_Mul.f k a0_0 a1_0).bind fun t235 => ((whole_Mul.f k a0_1 a1_1).bind fun t236 => ((fraction_lowest.f k t235 t236).bind fun bt237 => (some (bt237.1, bt237.2)))))) = some (r1, r2) := H
  have A5 := Aside0.mk A50
  clear A50
  by_cases c6 : t232 = true
  ·subst c6
   have H1 : ((fraction_of.f k (wrap64 (t227 * t230)) (wrap64 (t228 * t231))).bind fun bt233 => (some (bt233.1, bt233.2))) = some (r1, r2) := by rw [if_pos rfl] at H; exact H
   clear H
   have H := H1
   clear H1
   replace H := Option.bind_eq_some_iff.mp H
   obtain ⟨⟨t233, t234⟩, A70, H⟩ := H
   replace H : (some (t233, t234)) = some (r1, r2) := H
   have A7 := Aside0.mk A70
   clear A70
   simp only [Option.some.injEq, Prod.mk.injEq] at H
   obtain ⟨rfl, rfl⟩ := H
   go_enter Tryz.func35, Tryz.ntmps35
   go_wp2_with (first | ((with_reducible refine gate_dst (N := 2) rfl ?_); refine boxM (N := 2) #[.string a0_0, .string a0_1] 30 ?_; intro gb224 hg w8 hbox hb; have BK224 := Aside0.mk (hbox); have GW224 := Aside0.mk ((by rw [hg]; exact (below_size (bl HB)) : w.heap.size ≤ gb224)); have GE224 := Aside0.mk ((by rw [hg]; exact (below_size (bl HB)) : w.heap.size ≤ gb224)); replace HB := Aside0.mk (below_step (bl HB) hb); clear hb hbox hg) | ((with_reducible refine gate_dst (N := 3) rfl ?_); refine boxM (N := 3) #[.string a1_0, .string a1_1] 30 ?_; intro gb225 hg w9 hbox hb; have BK225 := Aside0.mk (hbox); have GW225 := Aside0.mk ((by rw [hg]; exact (below_size (bl HB)) : w.heap.size ≤ gb225)); have GE225 := Aside0.mk ((by rw [hg]; exact (below_size (bl HB)) : w.heap.size ≤ gb225)); replace HB := Aside0.mk (below_step (bl HB) hb); have NB224_225 := Aside0.mk ((by rw [hg]; exact Nat.ne_of_lt (blk_lt (g := gb224) (o := .cells #[.string a0_0, .string a0_1] 30 (0, 0)) (bk BK224)) : gb224 ≠ gb225)); have NB225_224 := Aside0.mk ((by rw [hg]; exact Nat.ne_of_gt (blk_lt (g := gb224) (o := .cells #[.string a0_0, .string a0_1] 30 (0, 0)) (bk BK224)) : gb225 ≠ gb224)); replace BK224 := Aside0.mk (blk_below (g := gb224) (o := .cells #[.string a0_0, .string a0_1] 30 (0, 0)) (bk BK224) hb); clear hb hbox hg) | ((with_reducible refine gate_dst (N := 4) rfl ?_); refine boxM (N := 4) #[.string (⟨#[]⟩ : ByteArray), .string (⟨#[]⟩ : ByteArray)] 30 ?_; intro gb226 hg w10 hbox hb; have BK226 := Aside0.mk (hbox); have GW226 := Aside0.mk ((by rw [hg]; exact (below_size (bl HB)) : w.heap.size ≤ gb226)); have GE226 := Aside0.mk ((by rw [hg]; exact (below_size (bl HB)) : w.heap.size ≤ gb226)); replace HB := Aside0.mk (below_step (bl HB) hb); have NB224_226 := Aside0.mk ((by rw [hg]; exact Nat.ne_of_lt (blk_lt (g := gb224) (o := .cells #[.string a0_0, .string a0_1] 30 (0, 0)) (bk BK224)) : gb224 ≠ gb226)); have NB226_224 := Aside0.mk ((by rw [hg]; exact Nat.ne_of_gt (blk_lt (g := gb224) (o := .cells #[.string a0_0, .string a0_1] 30 (0, 0)) (bk BK224)) : gb226 ≠ gb224)); replace BK224 := Aside0.mk (blk_below (g := gb224) (o := .cells #[.string a0_0, .string a0_1] 30 (0, 0)) (bk BK224) hb); have NB225_226 := Aside0.mk ((by rw [hg]; exact Nat.ne_of_lt (blk_lt (g := gb225) (o := .cells #[.string a1_0, .string a1_1] 30 (0, 0)) (bk BK225)) : gb225 ≠ gb226)); have NB226_225 := Aside0.mk ((by rw [hg]; exact Nat.ne_of_gt (blk_lt (g := gb225) (o := .cells #[.string a1_0, .string a1_1] 30 (0, 0)) (bk BK225)) : gb226 ≠ gb225)); replace BK225 := Aside0.mk (blk_below (g := gb225) (o := .cells #[.string a1_0, .string a1_1] 30 (0, 0)) (bk BK225) hb); clear hb hbox hg; have hnb11 := NB224_225.out; have hnc11 := NB225_224.out; have hnb12 := NB224_226.out; have hnc12 := NB226_224.out; have hcz13_0 : w10.cell? ⟨gb224, 0, none⟩ = some (.string a0_0) := (blk_cell BK224.out 0).trans rfl; have hcz13_1 : w10.cell? ⟨gb224, 1, none⟩ = some (.string a0_1) := (blk_cell BK224.out 1).trans rfl; have hfz13_0 := blk_frozen BK224.out 0; have hfz13_1 := blk_frozen BK224.out 1) | ((with_reducible refine gate_callee (f := 79) rfl ?_); refine goesM (some 13) Tryz.func79 #[.agg #[.string a0_0, .string a0_1]] ?_; (with_reducible refine (fraction_both.calls a0_0 a0_1 t227 t228 true _ ?side1 A3.out).mono ?_); (case side1 => exact Glob.below HG0.out (bl HB)); rintro e w14 ⟨rfl, hb⟩; refine ⟨_, rfl, ?_⟩; replace BK224 := Aside0.mk (blk_below (g := gb224) (o := .cells #[.string a0_0, .string a0_1] 30 (0, 0)) (bk BK224) hb); replace BK225 := Aside0.mk (blk_below (g := gb225) (o := .cells #[.string a1_0, .string a1_1] 30 (0, 0)) (bk BK225) hb); replace BK226 := Aside0.mk (blk_below (g := gb226) (o := .cells #[.string (⟨#[]⟩ : ByteArray), .string (⟨#[]⟩ : ByteArray)] 30 (0, 0)) (bk BK226) hb); replace HB := Aside0.mk (below_step (bl HB) hb); (try clear hb); (try clear hb2); (try clear hk); (try clear hi); have hnb15 := NB225_226.out; have hnc15 := NB226_225.out; have hcz16_0 : w14.cell? ⟨gb225, 0, none⟩ = some (.string a1_0) := (blk_cell BK225.out 0).trans rfl; have hcz16_1 : w14.cell? ⟨gb225, 1, none⟩ = some (.string a1_1) := (blk_cell BK225.out 1).trans rfl; have hfz16_0 := blk_frozen BK225.out 0; have hfz16_1 := blk_frozen BK225.out 1) | ((with_reducible refine gate_callee (f := 79) rfl ?_); refine goesM (some 20) Tryz.func79 #[.agg #[.string a1_0, .string a1_1]] ?_; (with_reducible refine (fraction_both.calls a1_0 a1_1 t230 t231 true _ ?side1 A5.out).mono ?_); (case side1 => exact Glob.below HG0.out (bl HB)); rintro e w17 ⟨rfl, hb⟩; refine ⟨_, rfl, ?_⟩; replace BK224 := Aside0.mk (blk_below (g := gb224) (o := .cells #[.string a0_0, .string a0_1] 30 (0, 0)) (bk BK224) hb); replace BK225 := Aside0.mk (blk_below (g := gb225) (o := .cells #[.string a1_0, .string a1_1] 30 (0, 0)) (bk BK225) hb); replace BK226 := Aside0.mk (blk_below (g := gb226) (o := .cells #[.string (⟨#[]⟩ : ByteArray), .string (⟨#[]⟩ : ByteArray)] 30 (0, 0)) (bk BK226) hb); replace HB := Aside0.mk (below_step (bl HB) hb); (try clear hb); (try clear hb2); (try clear hk); (try clear hi)) | ((with_reducible refine gate_callee (f := 80) rfl ?_); refine goesM (some 31) Tryz.func80 #[.int .i64 (wrap64 (t227 * t230)), .int .i64 (wrap64 (t228 * t231))] ?_; (with_reducible refine (fraction_of.calls k (wrap64 (t227 * t230)) (wrap64 (t228 * t231)) t233 t234 _ ?side1 A7.out).mono ?_); (case side1 => exact Glob.below HG0.out (bl HB)); rintro e w18 ⟨rfl, hb⟩; refine ⟨_, rfl, ?_⟩; replace BK224 := Aside0.mk (blk_below (g := gb224) (o := .cells #[.string a0_0, .string a0_1] 30 (0, 0)) (bk BK224) hb); replace BK225 := Aside0.mk (blk_below (g := gb225) (o := .cells #[.string a1_0, .string a1_1] 30 (0, 0)) (bk BK225) hb); replace BK226 := Aside0.mk (blk_below (g := gb226) (o := .cells #[.string (⟨#[]⟩ : ByteArray), .string (⟨#[]⟩ : ByteArray)] 30 (0, 0)) (bk BK226) hb); replace HB := Aside0.mk (below_step (bl HB) hb); (try clear hb); (try clear hb2); (try clear hk); (try clear hi); have hcz19_0 : w18.cell? ⟨gb226, 0, none⟩ = some (.string (⟨#[]⟩ : ByteArray)) := (blk_cell BK226.out 0).trans rfl; have hcz19_1 : w18.cell? ⟨gb226, 1, none⟩ = some (.string (⟨#[]⟩ : ByteArray)) := (blk_cell BK226.out 1).trans rfl; have hfz19_0 := blk_frozen BK226.out 0; have hfz19_1 := blk_frozen BK226.out 1))
   refine bodyPost_ret (results_cell_row rfl _ _ gb226 30 #[.string t233, .string t234] (0, 0) _ rfl (by (with_reducible repeat (first | refine blk_drewN ?_ _ | refine blk_drew ?_ | refine blk_alloc ?_ _)); refine blk_put (cs := #[.string t233, .string (⟨#[]⟩ : ByteArray)]) ?_ 1 _ rfl; (with_reducible repeat (first | refine blk_drewN ?_ _ | refine blk_drew ?_ | refine blk_alloc ?_ _)); refine blk_put (cs := #[.string (⟨#[]⟩ : ByteArray), .string (⟨#[]⟩ : ByteArray)]) ?_ 0 _ rfl; (with_reducible repeat (first | refine blk_drewN ?_ _ | refine blk_drew ?_ | refine blk_alloc ?_ _)); exact BK226.out) Tryz.underlying30 rfl (by kernel_rfl)) rfl ?_
   exact ⟨rl, bl HB⟩
  ·replace c6 := Bool.eq_false_iff.mpr c6
   subst c6
   have H1 : ((whole_Mul.f k a0_0 a1_0).bind fun t235 => ((whole_Mul.f k a0_1 a1_1).bind fun t236 => ((fraction_lowest.f k t235 t236).bind fun bt237 => (some (bt237.1, bt237.2))))) = some (r1, r2) := by rw [if_neg (show ¬ (false = true) by decide)] at H; exact H
   clear H
   have H := H1
   clear H1
   replace H := Option.bind_eq_some_iff.mp H
   obtain ⟨t235, A200, H⟩ := H
   replace H : ((whole_Mul.f k a0_1 a1_1).bind fun t236 => ((fraction_lowest.f k t235 t236).bind fun bt237 => (some (bt237.1, bt237.2)))) = some (r1, r2) := H
   have A20 := Aside0.mk A200
   clear A200
   replace H := Option.bind_eq_some_iff.mp H
   obtain ⟨t236, A210, H⟩ := H
   replace H : ((fraction_lowest.f k t235 t236).bind fun bt237 => (some (bt237.1, bt237.2))) = some (r1, r2) := H
   have A21 := Aside0.mk A210
   clear A210
   replace H := Option.bind_eq_some_iff.mp H
   obtain ⟨⟨t237, t238⟩, A220, H⟩ := H
   replace H : (some (t237, t238)) = some (r1, r2) := H
   have A22 := Aside0.mk A220
   clear A220
   simp only [Option.some.injEq, Prod.mk.injEq] at H
   obtain ⟨rfl, rfl⟩ := H
   go_enter Tryz.func35, Tryz.ntmps35
   try go_wp2_with (first | ((with_reducible refine gate_dst (N := 2) rfl ?_); refine boxM (N := 2) #[.string a0_0, .string a0_1] 30 ?_; intro gb224 hg w23 hbox hb; have BK224 := Aside0.mk (hbox); have GW224 := Aside0.mk ((by rw [hg]; exact (below_size (bl HB)) : w.heap.size ≤ gb224)); have GE224 := Aside0.mk ((by rw [hg]; exact (below_size (bl HB)) : w.heap.size ≤ gb224)); replace HB := Aside0.mk (below_step (bl HB) hb); clear hb hbox hg) | ((with_reducible refine gate_dst (N := 3) rfl ?_); refine boxM (N := 3) #[.string a1_0, .string a1_1] 30 ?_; intro gb225 hg w24 hbox hb; have BK225 := Aside0.mk (hbox); have GW225 := Aside0.mk ((by rw [hg]; exact (below_size (bl HB)) : w.heap.size ≤ gb225)); have GE225 := Aside0.mk ((by rw [hg]; exact (below_size (bl HB)) : w.heap.size ≤ gb225)); replace HB := Aside0.mk (below_step (bl HB) hb); have NB224_225 := Aside0.mk ((by rw [hg]; exact Nat.ne_of_lt (blk_lt (g := gb224) (o := .cells #[.string a0_0, .string a0_1] 30 (0, 0)) (bk BK224)) : gb224 ≠ gb225)); have NB225_224 := Aside0.mk ((by rw [hg]; exact Nat.ne_of_gt (blk_lt (g := gb224) (o := .cells #[.string a0_0, .string a0_1] 30 (0, 0)) (bk BK224)) : gb225 ≠ gb224)); replace BK224 := Aside0.mk (blk_below (g := gb224) (o := .cells #[.string a0_0, .string a0_1] 30 (0, 0)) (bk BK224) hb); clear hb hbox hg) | ((with_reducible refine gate_dst (N := 4) rfl ?_); refine boxM (N := 4) #[.string (⟨#[]⟩ : ByteArray), .string (⟨#[]⟩ : ByteArray)] 30 ?_; intro gb226 hg w25 hbox hb; have BK226 := Aside0.mk (hbox); have GW226 := Aside0.mk ((by rw [hg]; exact (below_size (bl HB)) : w.heap.size ≤ gb226)); have GE226 := Aside0.mk ((by rw [hg]; exact (below_size (bl HB)) : w.heap.size ≤ gb226)); replace HB := Aside0.mk (below_step (bl HB) hb); have NB224_226 := Aside0.mk ((by rw [hg]; exact Nat.ne_of_lt (blk_lt (g := gb224) (o := .cells #[.string a0_0, .string a0_1] 30 (0, 0)) (bk BK224)) : gb224 ≠ gb226)); have NB226_224 := Aside0.mk ((by rw [hg]; exact Nat.ne_of_gt (blk_lt (g := gb224) (o := .cells #[.string a0_0, .string a0_1] 30 (0, 0)) (bk BK224)) : gb226 ≠ gb224)); replace BK224 := Aside0.mk (blk_below (g := gb224) (o := .cells #[.string a0_0, .string a0_1] 30 (0, 0)) (bk BK224) hb); have NB225_226 := Aside0.mk ((by rw [hg]; exact Nat.ne_of_lt (blk_lt (g := gb225) (o := .cells #[.string a1_0, .string a1_1] 30 (0, 0)) (bk BK225)) : gb225 ≠ gb226)); have NB226_225 := Aside0.mk ((by rw [hg]; exact Nat.ne_of_gt (blk_lt (g := gb225) (o := .cells #[.string a1_0, .string a1_1] 30 (0, 0)) (bk BK225)) : gb226 ≠ gb225)); replace BK225 := Aside0.mk (blk_below (g := gb225) (o := .cells #[.string a1_0, .string a1_1] 30 (0, 0)) (bk BK225) hb); clear hb hbox hg; have hnb26 := NB224_225.out; have hnc26 := NB225_224.out; have hnb27 := NB224_226.out; have hnc27 := NB226_224.out; have hcz28_0 : w25.cell? ⟨gb224, 0, none⟩ = some (.string a0_0) := (blk_cell BK224.out 0).trans rfl; have hcz28_1 : w25.cell? ⟨gb224, 1, none⟩ = some (.string a0_1) := (blk_cell BK224.out 1).trans rfl; have hfz28_0 := blk_frozen BK224.out 0; have hfz28_1 := blk_frozen BK224.out 1) | ((with_reducible refine gate_callee (f := 79) rfl ?_); refine goesM (some 13) Tryz.func79 #[.agg #[.string a0_0, .string a0_1]] ?_; (with_reducible refine (fraction_both.calls a0_0 a0_1 t227 t228 true _ ?side1 A3.out).mono ?_); (case side1 => exact Glob.below HG0.out (bl HB)); rintro e w29 ⟨rfl, hb⟩; refine ⟨_, rfl, ?_⟩; replace BK224 := Aside0.mk (blk_below (g := gb224) (o := .cells #[.string a0_0, .string a0_1] 30 (0, 0)) (bk BK224) hb); replace BK225 := Aside0.mk (blk_below (g := gb225) (o := .cells #[.string a1_0, .string a1_1] 30 (0, 0)) (bk BK225) hb); replace BK226 := Aside0.mk (blk_below (g := gb226) (o := .cells #[.string (⟨#[]⟩ : ByteArray), .string (⟨#[]⟩ : ByteArray)] 30 (0, 0)) (bk BK226) hb); replace HB := Aside0.mk (below_step (bl HB) hb); (try clear hb); (try clear hb2); (try clear hk); (try clear hi); have hnb30 := NB225_226.out; have hnc30 := NB226_225.out; have hcz31_0 : w29.cell? ⟨gb225, 0, none⟩ = some (.string a1_0) := (blk_cell BK225.out 0).trans rfl; have hcz31_1 : w29.cell? ⟨gb225, 1, none⟩ = some (.string a1_1) := (blk_cell BK225.out 1).trans rfl; have hfz31_0 := blk_frozen BK225.out 0; have hfz31_1 := blk_frozen BK225.out 1) | ((with_reducible refine gate_callee (f := 79) rfl ?_); refine goesM (some 20) Tryz.func79 #[.agg #[.string a1_0, .string a1_1]] ?_; (with_reducible refine (fraction_both.calls a1_0 a1_1 t230 t231 false _ ?side1 A5.out).mono ?_); (case side1 => exact Glob.below HG0.out (bl HB)); rintro e w32 ⟨rfl, hb⟩; refine ⟨_, rfl, ?_⟩; replace BK224 := Aside0.mk (blk_below (g := gb224) (o := .cells #[.string a0_0, .string a0_1] 30 (0, 0)) (bk BK224) hb); replace BK225 := Aside0.mk (blk_below (g := gb225) (o := .cells #[.string a1_0, .string a1_1] 30 (0, 0)) (bk BK225) hb); replace BK226 := Aside0.mk (blk_below (g := gb226) (o := .cells #[.string (⟨#[]⟩ : ByteArray), .string (⟨#[]⟩ : ByteArray)] 30 (0, 0)) (bk BK226) hb); replace HB := Aside0.mk (below_step (bl HB) hb); (try clear hb); (try clear hb2); (try clear hk); (try clear hi)))
   replace BK224 := Aside0.mk (blk_drew BK224.out)
   replace BK225 := Aside0.mk (blk_drew BK225.out)
   replace BK226 := Aside0.mk (blk_drew BK226.out)
   replace HB := Aside0.mk (below_drew1 HB.out)
   refine start_ (n := 12) (S := fun w' => w'.cell? ⟨gb224, 0, none⟩ = some (.string a0_0) ∧ w'.cell? ⟨gb224, 1, none⟩ = some (.string a0_1) ∧ w'.cell? ⟨gb225, 0, none⟩ = some (.string a1_0) ∧ w'.cell? ⟨gb225, 1, none⟩ = some (.string a1_1)) (ds := []) #[false, false, false, false, false, false, false, false, false, false, false, false] (by kernel_rfl) rfl rfl ⟨(blk_cell BK224.out 0).trans rfl, (blk_cell BK224.out 1).trans rfl, (blk_cell BK225.out 0).trans rfl, (blk_cell BK225.out 1).trans rfl⟩ (fun hHeld => ?_); refine with_tabW fraction_Mul.tab6 fraction_Mul.bits6 (fun HT_ HW_ => ?_)
   generalize w32.drew = w33 at BK224 BK225 BK226 HB hHeld ⊢
   refine purM (i := 0) (N := some 32) #[true, false, false, false, false, false, false, false, false, false, false, false] ?_
   refine purM (i := 2) (N := some 34) #[true, false, true, false, false, false, false, false, false, false, false, false] ?_
   refine purM (i := 5) (N := some 37) #[true, false, true, false, false, true, false, false, false, false, false, false] ?_
   refine purM (i := 7) (N := some 39) #[true, false, true, false, false, true, false, true, false, false, false, false] ?_
   refine take_ (i := 1) (N := some 33) (v := ?_) (a' := ?_) #[true, true, true, false, false, true, false, true, false, false, false, false] rfl rfl (take_ofW HT_.out HW_.out (by kernel_rfl)) (fun _ _ _ h => h) (Or.inl ⟨by rfl, ?_⟩) hHeld ?_ ?_
   rotate_left
   ·rintro w' ⟨s0, s1, s2, s3⟩
    go_simp
    with_reducible rfl
   rotate_left
   ·simp only [Act.put, List.setIfInBounds_toArray, List.set_cons_zero, List.set_cons_succ, i64_w, i32_w]
    rfl
   refine take_ (i := 3) (N := some 35) (v := ?_) (a' := ?_) #[true, true, true, true, false, true, false, true, false, false, false, false] rfl rfl (take_ofW HT_.out HW_.out (by kernel_rfl)) (fun _ _ _ h => h) (Or.inl ⟨by rfl, ?_⟩) hHeld ?_ ?_
   rotate_left
   ·rintro w' ⟨s0, s1, s2, s3⟩
    go_simp
    with_reducible rfl
   rotate_left
   ·simp only [Act.put, List.setIfInBounds_toArray, List.set_cons_zero, List.set_cons_succ, i64_w, i32_w]
    rfl
   refine take_ (i := 6) (N := some 38) (v := ?_) (a' := ?_) #[true, true, true, true, false, true, true, true, false, false, false, false] rfl rfl (take_ofW HT_.out HW_.out (by kernel_rfl)) (fun _ _ _ h => h) (Or.inl ⟨by rfl, ?_⟩) hHeld ?_ ?_
   rotate_left
   ·rintro w' ⟨s0, s1, s2, s3⟩
    go_simp
    with_reducible rfl
   rotate_left
   ·simp only [Act.put, List.setIfInBounds_toArray, List.set_cons_zero, List.set_cons_succ, i64_w, i32_w]
    rfl
   refine take_ (i := 8) (N := some 40) (v := ?_) (a' := ?_) #[true, true, true, true, false, true, true, true, true, false, false, false] rfl rfl (take_ofW HT_.out HW_.out (by kernel_rfl)) (fun _ _ _ h => h) (Or.inl ⟨by rfl, ?_⟩) hHeld ?_ ?_
   rotate_left
   ·rintro w' ⟨s0, s1, s2, s3⟩
    go_simp
    with_reducible rfl
   rotate_left
   ·simp only [Act.put, List.setIfInBounds_toArray, List.set_cons_zero, List.set_cons_succ, i64_w, i32_w]
    rfl
   refine one_ (i := 4) (N := some 36) #[true, true, true, true, true, true, true, true, true, false, false, false] rfl rfl (one_of HT_.out (by kernel_rfl)) (by decide) (fun K hK => ?_)
   refine goesR Tryz.func82 #[.string a0_0, .string a1_0] ?_
   with_reducible refine (whole_Mul.calls k a0_0 a1_0 t235 _ ?side1 A20.out).mono ?_
   (case side1 => exact Glob.below HG0.out (bl HB))
   rintro e w34 ⟨rfl, hb⟩
   refine ⟨_, rfl, ?_⟩
   replace BK224 := Aside0.mk (blk_below (g := gb224) (o := .cells #[.string a0_0, .string a0_1] 30 (0, 0)) (bk BK224) hb)
   replace BK225 := Aside0.mk (blk_below (g := gb225) (o := .cells #[.string a1_0, .string a1_1] 30 (0, 0)) (bk BK225) hb)
   replace BK226 := Aside0.mk (blk_below (g := gb226) (o := .cells #[.string (⟨#[]⟩ : ByteArray), .string (⟨#[]⟩ : ByteArray)] 30 (0, 0)) (bk BK226) hb)
   replace HB := Aside0.mk (below_step (bl HB) hb)
   (try clear hb)
   (try clear hb2)
   (try clear hk)
   (try clear hi)
   refine hK.out _ _ ⟨(blk_cell BK224.out 0).trans rfl, (blk_cell BK224.out 1).trans rfl, (blk_cell BK225.out 0).trans rfl, (blk_cell BK225.out 1).trans rfl⟩ (fun hHeld => ?_)
   clear hK K
   refine norm_ (a' := ?_) ?_ ?_
   rotate_left
   ·show Act.put _ (some 36) _ = _
    simp only [Act.put, List.setIfInBounds_toArray, List.set_cons_zero, List.set_cons_succ, i64_w, i32_w]
    rfl
   refine one_ (i := 9) (N := some 41) #[true, true, true, true, true, true, true, true, true, true, false, false] rfl rfl (one_of HT_.out (by kernel_rfl)) (by decide) (fun K hK => ?_)
   refine goesR Tryz.func82 #[.string a0_1, .string a1_1] ?_
   with_reducible refine (whole_Mul.calls k a0_1 a1_1 t236 _ ?side1 A21.out).mono ?_
   (case side1 => exact Glob.below HG0.out (bl HB))
   rintro e w35 ⟨rfl, hb⟩
   refine ⟨_, rfl, ?_⟩
   replace BK224 := Aside0.mk (blk_below (g := gb224) (o := .cells #[.string a0_0, .string a0_1] 30 (0, 0)) (bk BK224) hb)
   replace BK225 := Aside0.mk (blk_below (g := gb225) (o := .cells #[.string a1_0, .string a1_1] 30 (0, 0)) (bk BK225) hb)
   replace BK226 := Aside0.mk (blk_below (g := gb226) (o := .cells #[.string (⟨#[]⟩ : ByteArray), .string (⟨#[]⟩ : ByteArray)] 30 (0, 0)) (bk BK226) hb)
   replace HB := Aside0.mk (below_step (bl HB) hb)
   (try clear hb)
   (try clear hb2)
   (try clear hk)
   (try clear hi)
   refine hK.out _ _ ⟨(blk_cell BK224.out 0).trans rfl, (blk_cell BK224.out 1).trans rfl, (blk_cell BK225.out 0).trans rfl, (blk_cell BK225.out 1).trans rfl⟩ (fun hHeld => ?_)
   clear hK K
   refine norm_ (a' := ?_) ?_ ?_
   rotate_left
   ·show Act.put _ (some 41) _ = _
    simp only [Act.put, List.setIfInBounds_toArray, List.set_cons_zero, List.set_cons_succ, i64_w, i32_w]
    rfl
   refine one_ (i := 10) (N := some 42) #[true, true, true, true, true, true, true, true, true, true, true, false] rfl rfl (one_of HT_.out (by kernel_rfl)) (by decide) (fun K hK => ?_)
   refine goesR Tryz.func81 #[.string t235, .string t236] ?_
   with_reducible refine (fraction_lowest.calls k t235 t236 t237 t238 _ ?side1 A22.out).mono ?_
   (case side1 => exact Glob.below HG0.out (bl HB))
   rintro e w36 ⟨rfl, hb⟩
   refine ⟨_, rfl, ?_⟩
   replace BK224 := Aside0.mk (blk_below (g := gb224) (o := .cells #[.string a0_0, .string a0_1] 30 (0, 0)) (bk BK224) hb)
   replace BK225 := Aside0.mk (blk_below (g := gb225) (o := .cells #[.string a1_0, .string a1_1] 30 (0, 0)) (bk BK225) hb)
   replace BK226 := Aside0.mk (blk_below (g := gb226) (o := .cells #[.string (⟨#[]⟩ : ByteArray), .string (⟨#[]⟩ : ByteArray)] 30 (0, 0)) (bk BK226) hb)
   replace HB := Aside0.mk (below_step (bl HB) hb)
   (try clear hb)
   (try clear hb2)
   (try clear hk)
   (try clear hi)
   refine hK.out _ _ ⟨(blk_cell BK224.out 0).trans rfl, (blk_cell BK224.out 1).trans rfl, (blk_cell BK225.out 0).trans rfl, (blk_cell BK225.out 1).trans rfl⟩ (fun hHeld => ?_)
   clear hK K
   refine norm_ (a' := ?_) ?_ ?_
   rotate_left
   ·show Act.put _ (some 42) _ = _
    simp only [Act.put, List.setIfInBounds_toArray, List.set_cons_zero, List.set_cons_succ, i64_w, i32_w]
    rfl
   refine one_ (i := 11) (N := none) #[true, true, true, true, true, true, true, true, true, true, true, true] rfl rfl (one_of HT_.out (by kernel_rfl)) (by decide) (fun K hK => ?_)
   have hs37 : w36.cell? ⟨gb226, 0, none⟩ = some (.string (⟨#[]⟩ : ByteArray)) := (blk_cell BK226.out 0).trans rfl
   have hfs37 := blk_frozen BK226.out 0
   have hns37_0 := NB224_226.out
   have hns37_1 := NB225_226.out
   have hms37_0 := NB226_224.out
   have hms37_1 := NB226_225.out
   have hs38 : w36.cell? ⟨gb226, 1, none⟩ = some (.string (⟨#[]⟩ : ByteArray)) := (blk_cell BK226.out 1).trans rfl
   have hfs38 := blk_frozen BK226.out 1
   have hns38_0 := NB224_226.out
   have hns38_1 := NB225_226.out
   have hms38_0 := NB226_224.out
   have hms38_1 := NB226_225.out
   refine skip_ (w1 := ?_) (by rfl) rfl ?_ ?_
   rotate_left
   ·go_simp
    rfl
   refine hK.out _ _ ⟨((cell_far (p := ⟨gb226, _, none⟩) NB224_226.out _).trans (((cell_far (p := ⟨gb226, _, none⟩) NB224_226.out _).trans (hHeld.1)))), ((cell_far (p := ⟨gb226, _, none⟩) NB224_226.out _).trans (((cell_far (p := ⟨gb226, _, none⟩) NB224_226.out _).trans (hHeld.2.1)))), ((cell_far (p := ⟨gb226, _, none⟩) NB225_226.out _).trans (((cell_far (p := ⟨gb226, _, none⟩) NB225_226.out _).trans (hHeld.2.2.1)))), ((cell_far (p := ⟨gb226, _, none⟩) NB225_226.out _).trans (((cell_far (p := ⟨gb226, _, none⟩) NB225_226.out _).trans (hHeld.2.2.2))))⟩ (fun hHeld => ?_)
   clear hK K
   refine done_ (done_of HT_.out (by kernel_rfl)) ?_
   try go_wp2
   refine bodyPost_ret (results_cell_row rfl _ _ gb226 30 #[.string t237, .string t238] (0, 0) _ rfl (by (with_reducible repeat (first | refine blk_drewN ?_ _ | refine blk_drew ?_ | refine blk_alloc ?_ _)); refine blk_put (cs := #[.string t237, .string (⟨#[]⟩ : ByteArray)]) ?_ 1 _ rfl; (with_reducible repeat (first | refine blk_drewN ?_ _ | refine blk_drew ?_ | refine blk_alloc ?_ _)); refine blk_put (cs := #[.string (⟨#[]⟩ : ByteArray), .string (⟨#[]⟩ : ByteArray)]) ?_ 0 _ rfl; (with_reducible repeat (first | refine blk_drewN ?_ _ | refine blk_drew ?_ | refine blk_alloc ?_ _)); exact BK226.out) Tryz.underlying30 rfl (by kernel_rfl)) rfl ?_
   exact ⟨rl, bl HB⟩
 ·replace c4 := Bool.eq_false_iff.mpr c4
  subst c4
  have H1 : ((whole_Mul.f k a0_0 a1_0).bind fun t239 => ((whole_Mul.f k a0_1 a1_1).bind fun t240 => ((fraction_lowest.f k t239 t240).bind fun bt241 => (some (bt241.1, bt241.2))))) = some (r1, r2) := by rw [if_neg (show ¬ (false = true) by decide)] at H; exact H
  clear H
  have H := H1
  clear H1
  replace H := Option.bind_eq_some_iff.mp H
  obtain ⟨t239, A390, H⟩ := H
  replace H : ((whole_Mul.f k a0_1 a1_1).bind fun t240 => ((fraction_lowest.f k t239 t240).bind fun bt241 => (some (bt241.1, bt241.2)))) = some (r1, r2) := H
  have A39 := Aside0.mk A390
  clear A390
  replace H := Option.bind_eq_some_iff.mp H
  obtain ⟨t240, A400, H⟩ := H
  replace H : ((fraction_lowest.f k t239 t240).bind fun bt241 => (some (bt241.1, bt241.2))) = some (r1, r2) := H
  have A40 := Aside0.mk A400
  clear A400
  replace H := Option.bind_eq_some_iff.mp H
  obtain ⟨⟨t241, t242⟩, A410, H⟩ := H
  replace H : (some (t241, t242)) = some (r1, r2) := H
  have A41 := Aside0.mk A410
  clear A410
  simp only [Option.some.injEq, Prod.mk.injEq] at H
  obtain ⟨rfl, rfl⟩ := H
  go_enter Tryz.func35, Tryz.ntmps35
  try go_wp2_with (first | ((with_reducible refine gate_dst (N := 2) rfl ?_); refine boxM (N := 2) #[.string a0_0, .string a0_1] 30 ?_; intro gb224 hg w42 hbox hb; have BK224 := Aside0.mk (hbox); have GW224 := Aside0.mk ((by rw [hg]; exact (below_size (bl HB)) : w.heap.size ≤ gb224)); have GE224 := Aside0.mk ((by rw [hg]; exact (below_size (bl HB)) : w.heap.size ≤ gb224)); replace HB := Aside0.mk (below_step (bl HB) hb); clear hb hbox hg) | ((with_reducible refine gate_dst (N := 3) rfl ?_); refine boxM (N := 3) #[.string a1_0, .string a1_1] 30 ?_; intro gb225 hg w43 hbox hb; have BK225 := Aside0.mk (hbox); have GW225 := Aside0.mk ((by rw [hg]; exact (below_size (bl HB)) : w.heap.size ≤ gb225)); have GE225 := Aside0.mk ((by rw [hg]; exact (below_size (bl HB)) : w.heap.size ≤ gb225)); replace HB := Aside0.mk (below_step (bl HB) hb); have NB224_225 := Aside0.mk ((by rw [hg]; exact Nat.ne_of_lt (blk_lt (g := gb224) (o := .cells #[.string a0_0, .string a0_1] 30 (0, 0)) (bk BK224)) : gb224 ≠ gb225)); have NB225_224 := Aside0.mk ((by rw [hg]; exact Nat.ne_of_gt (blk_lt (g := gb224) (o := .cells #[.string a0_0, .string a0_1] 30 (0, 0)) (bk BK224)) : gb225 ≠ gb224)); replace BK224 := Aside0.mk (blk_below (g := gb224) (o := .cells #[.string a0_0, .string a0_1] 30 (0, 0)) (bk BK224) hb); clear hb hbox hg) | ((with_reducible refine gate_dst (N := 4) rfl ?_); refine boxM (N := 4) #[.string (⟨#[]⟩ : ByteArray), .string (⟨#[]⟩ : ByteArray)] 30 ?_; intro gb226 hg w44 hbox hb; have BK226 := Aside0.mk (hbox); have GW226 := Aside0.mk ((by rw [hg]; exact (below_size (bl HB)) : w.heap.size ≤ gb226)); have GE226 := Aside0.mk ((by rw [hg]; exact (below_size (bl HB)) : w.heap.size ≤ gb226)); replace HB := Aside0.mk (below_step (bl HB) hb); have NB224_226 := Aside0.mk ((by rw [hg]; exact Nat.ne_of_lt (blk_lt (g := gb224) (o := .cells #[.string a0_0, .string a0_1] 30 (0, 0)) (bk BK224)) : gb224 ≠ gb226)); have NB226_224 := Aside0.mk ((by rw [hg]; exact Nat.ne_of_gt (blk_lt (g := gb224) (o := .cells #[.string a0_0, .string a0_1] 30 (0, 0)) (bk BK224)) : gb226 ≠ gb224)); replace BK224 := Aside0.mk (blk_below (g := gb224) (o := .cells #[.string a0_0, .string a0_1] 30 (0, 0)) (bk BK224) hb); have NB225_226 := Aside0.mk ((by rw [hg]; exact Nat.ne_of_lt (blk_lt (g := gb225) (o := .cells #[.string a1_0, .string a1_1] 30 (0, 0)) (bk BK225)) : gb225 ≠ gb226)); have NB226_225 := Aside0.mk ((by rw [hg]; exact Nat.ne_of_gt (blk_lt (g := gb225) (o := .cells #[.string a1_0, .string a1_1] 30 (0, 0)) (bk BK225)) : gb226 ≠ gb225)); replace BK225 := Aside0.mk (blk_below (g := gb225) (o := .cells #[.string a1_0, .string a1_1] 30 (0, 0)) (bk BK225) hb); clear hb hbox hg; have hnb45 := NB224_225.out; have hnc45 := NB225_224.out; have hnb46 := NB224_226.out; have hnc46 := NB226_224.out; have hcz47_0 : w44.cell? ⟨gb224, 0, none⟩ = some (.string a0_0) := (blk_cell BK224.out 0).trans rfl; have hcz47_1 : w44.cell? ⟨gb224, 1, none⟩ = some (.string a0_1) := (blk_cell BK224.out 1).trans rfl; have hfz47_0 := blk_frozen BK224.out 0; have hfz47_1 := blk_frozen BK224.out 1) | ((with_reducible refine gate_callee (f := 79) rfl ?_); refine goesM (some 13) Tryz.func79 #[.agg #[.string a0_0, .string a0_1]] ?_; (with_reducible refine (fraction_both.calls a0_0 a0_1 t227 t228 false _ ?side1 A3.out).mono ?_); (case side1 => exact Glob.below HG0.out (bl HB)); rintro e w48 ⟨rfl, hb⟩; refine ⟨_, rfl, ?_⟩; replace BK224 := Aside0.mk (blk_below (g := gb224) (o := .cells #[.string a0_0, .string a0_1] 30 (0, 0)) (bk BK224) hb); replace BK225 := Aside0.mk (blk_below (g := gb225) (o := .cells #[.string a1_0, .string a1_1] 30 (0, 0)) (bk BK225) hb); replace BK226 := Aside0.mk (blk_below (g := gb226) (o := .cells #[.string (⟨#[]⟩ : ByteArray), .string (⟨#[]⟩ : ByteArray)] 30 (0, 0)) (bk BK226) hb); replace HB := Aside0.mk (below_step (bl HB) hb); (try clear hb); (try clear hb2); (try clear hk); (try clear hi)))
  replace BK224 := Aside0.mk (blk_drew BK224.out)
  replace BK225 := Aside0.mk (blk_drew BK225.out)
  replace BK226 := Aside0.mk (blk_drew BK226.out)
  replace HB := Aside0.mk (below_drew1 HB.out)
  refine start_ (n := 12) (S := fun w' => w'.cell? ⟨gb224, 0, none⟩ = some (.string a0_0) ∧ w'.cell? ⟨gb224, 1, none⟩ = some (.string a0_1) ∧ w'.cell? ⟨gb225, 0, none⟩ = some (.string a1_0) ∧ w'.cell? ⟨gb225, 1, none⟩ = some (.string a1_1)) (ds := []) #[false, false, false, false, false, false, false, false, false, false, false, false] (by kernel_rfl) rfl rfl ⟨(blk_cell BK224.out 0).trans rfl, (blk_cell BK224.out 1).trans rfl, (blk_cell BK225.out 0).trans rfl, (blk_cell BK225.out 1).trans rfl⟩ (fun hHeld => ?_); refine with_tabW fraction_Mul.tab6 fraction_Mul.bits6 (fun HT_ HW_ => ?_)
  generalize w48.drew = w49 at BK224 BK225 BK226 HB hHeld ⊢
  refine purM (i := 0) (N := some 32) #[true, false, false, false, false, false, false, false, false, false, false, false] ?_
  refine purM (i := 2) (N := some 34) #[true, false, true, false, false, false, false, false, false, false, false, false] ?_
  refine purM (i := 5) (N := some 37) #[true, false, true, false, false, true, false, false, false, false, false, false] ?_
  refine purM (i := 7) (N := some 39) #[true, false, true, false, false, true, false, true, false, false, false, false] ?_
  refine take_ (i := 1) (N := some 33) (v := ?_) (a' := ?_) #[true, true, true, false, false, true, false, true, false, false, false, false] rfl rfl (take_ofW HT_.out HW_.out (by kernel_rfl)) (fun _ _ _ h => h) (Or.inl ⟨by rfl, ?_⟩) hHeld ?_ ?_
  rotate_left
  ·rintro w' ⟨s0, s1, s2, s3⟩
   go_simp
   with_reducible rfl
  rotate_left
  ·simp only [Act.put, List.setIfInBounds_toArray, List.set_cons_zero, List.set_cons_succ, i64_w, i32_w]
   rfl
  refine take_ (i := 3) (N := some 35) (v := ?_) (a' := ?_) #[true, true, true, true, false, true, false, true, false, false, false, false] rfl rfl (take_ofW HT_.out HW_.out (by kernel_rfl)) (fun _ _ _ h => h) (Or.inl ⟨by rfl, ?_⟩) hHeld ?_ ?_
  rotate_left
  ·rintro w' ⟨s0, s1, s2, s3⟩
   go_simp
   with_reducible rfl
  rotate_left
  ·simp only [Act.put, List.setIfInBounds_toArray, List.set_cons_zero, List.set_cons_succ, i64_w, i32_w]
   rfl
  refine take_ (i := 6) (N := some 38) (v := ?_) (a' := ?_) #[true, true, true, true, false, true, true, true, false, false, false, false] rfl rfl (take_ofW HT_.out HW_.out (by kernel_rfl)) (fun _ _ _ h => h) (Or.inl ⟨by rfl, ?_⟩) hHeld ?_ ?_
  rotate_left
  ·rintro w' ⟨s0, s1, s2, s3⟩
   go_simp
   with_reducible rfl
  rotate_left
  ·simp only [Act.put, List.setIfInBounds_toArray, List.set_cons_zero, List.set_cons_succ, i64_w, i32_w]
   rfl
  refine take_ (i := 8) (N := some 40) (v := ?_) (a' := ?_) #[true, true, true, true, false, true, true, true, true, false, false, false] rfl rfl (take_ofW HT_.out HW_.out (by kernel_rfl)) (fun _ _ _ h => h) (Or.inl ⟨by rfl, ?_⟩) hHeld ?_ ?_
  rotate_left
  ·rintro w' ⟨s0, s1, s2, s3⟩
   go_simp
   with_reducible rfl
  rotate_left
  ·simp only [Act.put, List.setIfInBounds_toArray, List.set_cons_zero, List.set_cons_succ, i64_w, i32_w]
   rfl
  refine one_ (i := 4) (N := some 36) #[true, true, true, true, true, true, true, true, true, false, false, false] rfl rfl (one_of HT_.out (by kernel_rfl)) (by decide) (fun K hK => ?_)
  refine goesR Tryz.func82 #[.string a0_0, .string a1_0] ?_
  with_reducible refine (whole_Mul.calls k a0_0 a1_0 t239 _ ?side1 A39.out).mono ?_
  (case side1 => exact Glob.below HG0.out (bl HB))
  rintro e w50 ⟨rfl, hb⟩
  refine ⟨_, rfl, ?_⟩
  replace BK224 := Aside0.mk (blk_below (g := gb224) (o := .cells #[.string a0_0, .string a0_1] 30 (0, 0)) (bk BK224) hb)
  replace BK225 := Aside0.mk (blk_below (g := gb225) (o := .cells #[.string a1_0, .string a1_1] 30 (0, 0)) (bk BK225) hb)
  replace BK226 := Aside0.mk (blk_below (g := gb226) (o := .cells #[.string (⟨#[]⟩ : ByteArray), .string (⟨#[]⟩ : ByteArray)] 30 (0, 0)) (bk BK226) hb)
  replace HB := Aside0.mk (below_step (bl HB) hb)
  (try clear hb)
  (try clear hb2)
  (try clear hk)
  (try clear hi)
  refine hK.out _ _ ⟨(blk_cell BK224.out 0).trans rfl, (blk_cell BK224.out 1).trans rfl, (blk_cell BK225.out 0).trans rfl, (blk_cell BK225.out 1).trans rfl⟩ (fun hHeld => ?_)
  clear hK K
  refine norm_ (a' := ?_) ?_ ?_
  rotate_left
  ·show Act.put _ (some 36) _ = _
   simp only [Act.put, List.setIfInBounds_toArray, List.set_cons_zero, List.set_cons_succ, i64_w, i32_w]
   rfl
  refine one_ (i := 9) (N := some 41) #[true, true, true, true, true, true, true, true, true, true, false, false] rfl rfl (one_of HT_.out (by kernel_rfl)) (by decide) (fun K hK => ?_)
  refine goesR Tryz.func82 #[.string a0_1, .string a1_1] ?_
  with_reducible refine (whole_Mul.calls k a0_1 a1_1 t240 _ ?side1 A40.out).mono ?_
  (case side1 => exact Glob.below HG0.out (bl HB))
  rintro e w51 ⟨rfl, hb⟩
  refine ⟨_, rfl, ?_⟩
  replace BK224 := Aside0.mk (blk_below (g := gb224) (o := .cells #[.string a0_0, .string a0_1] 30 (0, 0)) (bk BK224) hb)
  replace BK225 := Aside0.mk (blk_below (g := gb225) (o := .cells #[.string a1_0, .string a1_1] 30 (0, 0)) (bk BK225) hb)
  replace BK226 := Aside0.mk (blk_below (g := gb226) (o := .cells #[.string (⟨#[]⟩ : ByteArray), .string (⟨#[]⟩ : ByteArray)] 30 (0, 0)) (bk BK226) hb)
  replace HB := Aside0.mk (below_step (bl HB) hb)
  (try clear hb)
  (try clear hb2)
  (try clear hk)
  (try clear hi)
  refine hK.out _ _ ⟨(blk_cell BK224.out 0).trans rfl, (blk_cell BK224.out 1).trans rfl, (blk_cell BK225.out 0).trans rfl, (blk_cell BK225.out 1).trans rfl⟩ (fun hHeld => ?_)
  clear hK K
  refine norm_ (a' := ?_) ?_ ?_
  rotate_left
  ·show Act.put _ (some 41) _ = _
   simp only [Act.put, List.setIfInBounds_toArray, List.set_cons_zero, List.set_cons_succ, i64_w, i32_w]
   rfl
  refine one_ (i := 10) (N := some 42) #[true, true, true, true, true, true, true, true, true, true, true, false] rfl rfl (one_of HT_.out (by kernel_rfl)) (by decide) (fun K hK => ?_)
  refine goesR Tryz.func81 #[.string t239, .string t240] ?_
  with_reducible refine (fraction_lowest.calls k t239 t240 t241 t242 _ ?side1 A41.out).mono ?_
  (case side1 => exact Glob.below HG0.out (bl HB))
  rintro e w52 ⟨rfl, hb⟩
  refine ⟨_, rfl, ?_⟩
  replace BK224 := Aside0.mk (blk_below (g := gb224) (o := .cells #[.string a0_0, .string a0_1] 30 (0, 0)) (bk BK224) hb)
  replace BK225 := Aside0.mk (blk_below (g := gb225) (o := .cells #[.string a1_0, .string a1_1] 30 (0, 0)) (bk BK225) hb)
  replace BK226 := Aside0.mk (blk_below (g := gb226) (o := .cells #[.string (⟨#[]⟩ : ByteArray), .string (⟨#[]⟩ : ByteArray)] 30 (0, 0)) (bk BK226) hb)
  replace HB := Aside0.mk (below_step (bl HB) hb)
  (try clear hb)
  (try clear hb2)
  (try clear hk)
  (try clear hi)
  refine hK.out _ _ ⟨(blk_cell BK224.out 0).trans rfl, (blk_cell BK224.out 1).trans rfl, (blk_cell BK225.out 0).trans rfl, (blk_cell BK225.out 1).trans rfl⟩ (fun hHeld => ?_)
  clear hK K
  refine norm_ (a' := ?_) ?_ ?_
  rotate_left
  ·show Act.put _ (some 42) _ = _
   simp only [Act.put, List.setIfInBounds_toArray, List.set_cons_zero, List.set_cons_succ, i64_w, i32_w]
   rfl
  refine one_ (i := 11) (N := none) #[true, true, true, true, true, true, true, true, true, true, true, true] rfl rfl (one_of HT_.out (by kernel_rfl)) (by decide) (fun K hK => ?_)
  have hs53 : w52.cell? ⟨gb226, 0, none⟩ = some (.string (⟨#[]⟩ : ByteArray)) := (blk_cell BK226.out 0).trans rfl
  have hfs53 := blk_frozen BK226.out 0
  have hns53_0 := NB224_226.out
  have hns53_1 := NB225_226.out
  have hms53_0 := NB226_224.out
  have hms53_1 := NB226_225.out
  have hs54 : w52.cell? ⟨gb226, 1, none⟩ = some (.string (⟨#[]⟩ : ByteArray)) := (blk_cell BK226.out 1).trans rfl
  have hfs54 := blk_frozen BK226.out 1
  have hns54_0 := NB224_226.out
  have hns54_1 := NB225_226.out
  have hms54_0 := NB226_224.out
  have hms54_1 := NB226_225.out
  refine skip_ (w1 := ?_) (by rfl) rfl ?_ ?_
  rotate_left
  ·go_simp
   rfl
  refine hK.out _ _ ⟨((cell_far (p := ⟨gb226, _, none⟩) NB224_226.out _).trans (((cell_far (p := ⟨gb226, _, none⟩) NB224_226.out _).trans (hHeld.1)))), ((cell_far (p := ⟨gb226, _, none⟩) NB224_226.out _).trans (((cell_far (p := ⟨gb226, _, none⟩) NB224_226.out _).trans (hHeld.2.1)))), ((cell_far (p := ⟨gb226, _, none⟩) NB225_226.out _).trans (((cell_far (p := ⟨gb226, _, none⟩) NB225_226.out _).trans (hHeld.2.2.1)))), ((cell_far (p := ⟨gb226, _, none⟩) NB225_226.out _).trans (((cell_far (p := ⟨gb226, _, none⟩) NB225_226.out _).trans (hHeld.2.2.2))))⟩ (fun hHeld => ?_)
  clear hK K
  refine done_ (done_of HT_.out (by kernel_rfl)) ?_
  try go_wp2
  refine bodyPost_ret (results_cell_row rfl _ _ gb226 30 #[.string t241, .string t242] (0, 0) _ rfl (by (with_reducible repeat (first | refine blk_drewN ?_ _ | refine blk_drew ?_ | refine blk_alloc ?_ _)); refine blk_put (cs := #[.string t241, .string (⟨#[]⟩ : ByteArray)]) ?_ 1 _ rfl; (with_reducible repeat (first | refine blk_drewN ?_ _ | refine blk_drew ?_ | refine blk_alloc ?_ _)); refine blk_put (cs := #[.string (⟨#[]⟩ : ByteArray), .string (⟨#[]⟩ : ByteArray)]) ?_ 0 _ rfl; (with_reducible repeat (first | refine blk_drewN ?_ _ | refine blk_drew ?_ | refine blk_alloc ?_ _)); exact BK226.out) Tryz.underlying30 rfl (by kernel_rfl)) rfl ?_
  exact ⟨rl, bl HB⟩
def whole_Add.j0 : Nat → ByteArray → ByteArray → Option (ByteArray)
 | 0, _, _ => none
 | k + 1, x0, x1 => (whole_split.f x0).bind fun bt248 => ((whole_split.f x1).bind fun bt250 => (if (bt248.1 == bt250.1) = true then (none) else (none)))
def whole_Add.f (k : Nat) (a0 : ByteArray) (a1 : ByteArray) : Option (ByteArray) := (wLittle.f a0 18).bind fun bt243 => (if bt243.2 = true then ((wLittle.f a1 18).bind fun bt245 => (if bt245.2 = true then ((whole_Of.f (wrap64 (bt243.1 + bt245.1))).bind fun t247 => (some t247)) else (whole_Add.j0 k a0 a1))) else (whole_Add.j0 k a0 a1))
set_option maxHeartbeats 8000000 in
set_option maxRecDepth 100000 in
theorem whole_Add.calls (k : Nat) (a0 : ByteArray) (a1 : ByteArray) (r : ByteArray) (w : World) (hG : Glob w) (h : whole_Add.f k a0 a1 = some r) :
  Calls Tryz.prog 104 #[.string a0, .string a1] w fun e w' => e = .returned (.string r) ∧ Below w.heap.size w w' := by
 have HG0 := Aside0.mk hG
 clear hG
 have HB := Aside0.mk (Below.refl w.heap.size w)
 have H : ((wLittle.f a0 18).bind fun bt243 => (if bt243.2 = true then ((wLittle.f a1 18).bind fun bt245 => (if bt245.2 = true then ((whole_Of.f (wrap64 (bt243.1 + bt245.1))).bind fun t247 => (some t247)) else (whole_Add.j0 k a0 a1))) else (whole_Add.j0 k a0 a1))) = some r := h
 clear h
 replace H := Option.bind_eq_some_iff.mp H
 obtain ⟨⟨t243, t244⟩, A30, H⟩ := H
 replace H : (if t244 = true then ((wLittle.f a1 18).bind fun bt245 => (if bt245.2 = true then ((whole_Of.f (wrap64 (t243 + bt245.1))).bind fun t247 => (some t247)) else (whole_Add.j0 k a0 a1))) else (whole_Add.j0 k a0 a1)) = some r := H
 have A3 := Aside0.mk A30
 clear A30
 have HC4 := Aside0.mk H
 clear H
 go_enter Tryz.func104, Tryz.ntmps104
 go_upto_if 20 with (first | ((with_reducible refine gate_callee (f := 96) rfl ?_); refine goesM (some 17) Tryz.func96 #[.string a0, .int .i64 18] ?_; (with_reducible refine (wLittle.calls a0 18 t243 t244 _ ?side1 A3.out).mono ?_); (case side1 => exact Glob.below HG0.out (bl HB)); rintro e w5 ⟨rfl, hb⟩; refine ⟨_, rfl, ?_⟩; replace HB := Aside0.mk (below_step (bl HB) hb); (try clear hb); (try clear hb2); (try clear hk); (try clear hi)))
 (try simp only [Act.put, List.setIfInBounds_toArray, List.set_cons_zero, List.set_cons_succ])
 go_cut [] (fun wc => ∃ (kq : Nat), Aside0 (whole_Add.j0 kq a0 a1 = some r) ∧ Aside0 (kq ≤ k) ∧ Aside0 (Below w.heap.size w wc))
 case first =>
  have H := HC4.out
  clear HC4
  by_cases c6 : t244 = true
  ·subst c6
   have H1 : ((wLittle.f a1 18).bind fun bt245 => (if bt245.2 = true then ((whole_Of.f (wrap64 (t243 + bt245.1))).bind fun t247 => (some t247)) else (whole_Add.j0 k a0 a1))) = some r := by rw [if_pos rfl] at H; exact H
   clear H
   have H := H1
   clear H1
   replace H := Option.bind_eq_some_iff.mp H
   obtain ⟨⟨t245, t246⟩, A70, H⟩ := H
   replace H : (if t246 = true then ((whole_Of.f (wrap64 (t243 + t245))).bind fun t247 => (some t247)) else (whole_Add.j0 k a0 a1)) = some r := H
   have A7 := Aside0.mk A70
   clear A70
   by_cases c8 : t246 = true
   ·subst c8
    have H1 : ((whole_Of.f (wrap64 (t243 + t245))).bind fun t247 => (some t247)) = some r := by rw [if_pos rfl] at H; exact H
    clear H
    have H := H1
    clear H1
    replace H := Option.bind_eq_some_iff.mp H
    obtain ⟨t247, A90, H⟩ := H
    replace H : (some t247) = some r := H
    have A9 := Aside0.mk A90
    clear A90
    obtain rfl := Option.some.inj H
    go_wp2_with (first | ((with_reducible refine gate_callee (f := 96) rfl ?_); refine goesM (some 23) Tryz.func96 #[.string a1, .int .i64 18] ?_; (with_reducible refine (wLittle.calls a1 18 t245 true _ ?side1 A7.out).mono ?_); (case side1 => exact Glob.below HG0.out (bl HB)); rintro e w10 ⟨rfl, hb⟩; refine ⟨_, rfl, ?_⟩; replace HB := Aside0.mk (below_step (bl HB) hb); (try clear hb); (try clear hb2); (try clear hk); (try clear hi)) | ((with_reducible refine gate_callee (f := 97) rfl ?_); refine goesM (some 30) Tryz.func97 #[.int .i64 (wrap64 (t243 + t245))] ?_; (with_reducible refine (whole_Of.calls (wrap64 (t243 + t245)) t247 _ ?side1 A9.out).mono ?_); (case side1 => exact Glob.below HG0.out (bl HB)); rintro e w11 ⟨rfl, hb⟩; refine ⟨_, rfl, ?_⟩; replace HB := Aside0.mk (below_step (bl HB) hb); (try clear hb); (try clear hb2); (try clear hk); (try clear hi)))
    go_ret
    exact ⟨rl, bl HB⟩
   ·replace c8 := Bool.eq_false_iff.mpr c8
    subst c8
    have H1 : (whole_Add.j0 k a0 a1) = some r := by rw [if_neg (show ¬ (false = true) by decide)] at H; exact H
    clear H
    have H := H1
    clear H1
    have H' := Aside0.mk H
    clear H
    go_wp2_with (first | ((with_reducible refine gate_callee (f := 96) rfl ?_); refine goesM (some 23) Tryz.func96 #[.string a1, .int .i64 18] ?_; (with_reducible refine (wLittle.calls a1 18 t245 false _ ?side1 A7.out).mono ?_); (case side1 => exact Glob.below HG0.out (bl HB)); rintro e w12 ⟨rfl, hb⟩; refine ⟨_, rfl, ?_⟩; replace HB := Aside0.mk (below_step (bl HB) hb); (try clear hb); (try clear hb2); (try clear hk); (try clear hi)))
    go_meet
    case rel => exact ⟨_, H', ⟨by first | omega | exact Nat.le_refl _⟩, ⟨bl HB⟩⟩
  ·replace c6 := Bool.eq_false_iff.mpr c6
   subst c6
   have H1 : (whole_Add.j0 k a0 a1) = some r := by rw [if_neg (show ¬ (false = true) by decide)] at H; exact H
   clear H
   have H := H1
   clear H1
   have H' := Aside0.mk H
   clear H
   go_wp2
   go_meet
   case rel => exact ⟨_, H', ⟨by first | omega | exact Nat.le_refl _⟩, ⟨bl HB⟩⟩
 case rest =>
  clear HC4
  try clear c1
  try clear p2
  try clear c6
  try clear p6
  try clear c8
  try clear c9
  try clear c10
  obtain ⟨kq, HA, HJ3, HB⟩ := hcut
  cases kq with
  | zero => exact absurd HA.out (by simp [whole_Add.j0])
  | succ kj3 =>
   have H := HA.out
   clear HA
   simp only [whole_Add.j0] at H
   replace H := Option.bind_eq_some_iff.mp H
   obtain ⟨⟨t248, t249⟩, A130, H⟩ := H
   replace H : ((whole_split.f a1).bind fun bt250 => (if (t248 == bt250.1) = true then (none) else (none))) = some r := H
   have A13 := Aside0.mk A130
   clear A130
   replace H := Option.bind_eq_some_iff.mp H
   obtain ⟨⟨t250, t251⟩, A140, H⟩ := H
   replace H : (if (t248 == t250) = true then (none) else (none)) = some r := H
   have A14 := Aside0.mk A140
   clear A140
   by_cases c15 : (t248 == t250) = true
   ·rw [if_pos c15] at H
    exact absurd H (by simp)
   ·rw [if_neg c15] at H
    exact absurd H (by simp)
end Go.Proofs.YtailoobjgbldgaaGreatDoor.P
end
