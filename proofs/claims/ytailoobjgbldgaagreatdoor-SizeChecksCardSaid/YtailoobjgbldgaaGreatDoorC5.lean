/- Part 5 of the proof: functions' contracts and what they lean on. -/
import Derived.Test.YtailoobjgbldgaaGreatDoorC4
import Derived.BigCall
import Derived.BigGuard
import Derived.Lib.AppendIntMem
import Derived.Lib.Hide
import Derived.Lib.ItoaMem
import Derived.Lib.Walk
section
namespace Go.Proofs.YtailoobjgbldgaaGreatDoor.P
open Go Go.RowKit Go.Sort Go.Lib
def goItoa.f (a0 : Int) : Option ByteArray := if -9223372036854775808 ≤ a0 ∧ a0 ≤ 9223372036854775807 then some (txt a0) else none
theorem goItoa.calls (a0 : Int) (r : ByteArray) (w : World) (hG : Glob w) (h : goItoa.f a0 = some r) :
    Calls Tryz.prog 89 #[.int .i64 a0] w fun e w' => e = .returned (.string r) ∧ Below w.heap.size w w' := by
  unfold goItoa.f at h
  split at h
  · rename_i hb
    injection h with h
    subst h
    refine (Tryz.strconv_Itoa a0 hb.1 hb.2 w hG.tab).mono ?_
    rintro e w' ⟨rfl, k, os, rfl⟩
    exact ⟨rfl, Lib.below_grow _ _ (Nat.le_refl _) _ _⟩
  · cases h
set_option maxHeartbeats 6400000 in
set_option maxRecDepth 100000 in
theorem formatUint_in (u : Nat) (hu64 : u < 18446744073709551616) (w : World) (htab : Lib.TabIs Tryz.prog w "internal/strconv.uint64pow10" .u64 Lib.pow10Tab) :
    Calls Tryz.prog 168 #[.int .u64 u, .int .i64 10] w fun e w' => e = .returned (.string ⟨(Lib.decDigits u).toArray⟩) ∧ Below w.heap.size w w' := by
  by_cases hs : u < 100
  · go_enter Tryz.func168, Tryz.ntmps168
    go_wp2_with (go_at_call 169; refine (Tryz.internal_strconv_small u hs _).mono ?_; rintro e w' ⟨rfl, rfl⟩)
    go_ret
    exact ⟨rfl, Below.refl _ _⟩
  · have hu1 : 1 ≤ u := by omega
    have hnd20 : Lib.nDigits u ≤ 20 := by have := Lib.numDigits_eq u hu1 hu64; split at this <;> omega
    have hb3 : Lib.nDigits u ≤ 24 := by omega
    have hal : Tryz.prog.arrayLen 202 = 24 := by simp [Program.arrayLen, Tryz.underlying202]
    have hsl1 : ∀ W, (Instr.sliceAt 202 (.pointer (some ⟨w.heap.size, 0, none⟩)) none (some (.int .i64 (Lib.nDigits u : Int))) none).run Tryz.prog W = .ok (.slice (some ⟨w.heap.size, 0, none⟩) (Lib.nDigits u) 24) W := fun W => by
      rw [run_sliceAt_array_h W 202 ⟨w.heap.size, 0, none⟩ (by simp [Program.arrayLen, Program.elem, Tryz.underlying202]) .i64 (Lib.nDigits u : Int) (by omega) (by rw [hal]; omega)]
      go_simp
    have hH0 := Lib.holds_zero0 w 202 (Lib.nDigits u) (by omega)
    have hfmt := Tryz.internal_strconv_formatBase10 w.heap.size 0 24 u (Array.replicate (Lib.nDigits u) 0) (w.alloc (.cells Lib.zeros24 202)) hH0 (by rw [Array.size_replicate]; exact Lib.lt_pow_nDigits u) hu64 (by rw [Array.size_replicate]; omega)
    rw [Array.size_replicate] at hfmt
    have HH0 := Lib.hid hH0
    clear hH0 hal
    go_enter Tryz.func168, Tryz.ntmps168
    go_wp2_with (first
      | (go_at_call 170; refine (Tryz.internal_strconv_numDigits u hu1 hu64 _ (Lib.tabIs_alloc htab _)).mono ?_; rintro e w' ⟨rfl, rfl⟩))
    go_at_call 171
    refine hfmt.mono ?_
    rintro e w' ⟨rfl, k, v', dk, rfl, hF⟩
    have hcv : (convert 142 9 (.slice (some ⟨w.heap.size, 0, none⟩) (Lib.nDigits u) 24)).run Tryz.prog ((putRow (fun (b : UInt8) => Value.int .u8 (b.toNat : Int)) (w.alloc (.cells Lib.zeros24 202)) w.heap.size 0 dk).drewN k) = .ok (.string ⟨(Lib.decDigits u).toArray⟩) ((putRow (fun (b : UInt8) => Value.int .u8 (b.toNat : Int)) (w.alloc (.cells Lib.zeros24 202)) w.heap.size 0 dk).drewN k) := by
      have h := run_convert_bytes_back (P := Tryz.prog) ((putRow (fun (b : UInt8) => Value.int .u8 (b.toNat : Int)) (w.alloc (.cells Lib.zeros24 202)) w.heap.size 0 dk).drewN k) 142 9 5 ⟨w.heap.size, 0, none⟩ 24 (Lib.decDigits u) Tryz.underlying142 Tryz.underlying5 Tryz.underlying9 (fun j hj => by
        rw [Lib.row_is_numeral hF j hj, Lib.add_plain, World.cell?_drewN]
        exact cell?_putRow (fun (b : UInt8) => Value.int .u8 (b.toNat : Int)) _ w.heap.size 0 _ dk HH0.out (by rw [hF.size, Array.size_replicate]) j (by rw [hF.size]; rw [Lib.decDigits_length] at hj; exact hj))
      rw [Lib.decDigits_length] at h
      exact h
    go_wp2
    go_ret
    obtain ⟨os, eo⟩ := Lib.fin_at w (.cells Lib.zeros24 202) dk k 0
    exact ⟨rfl, by rw [eo]; exact Lib.below_grow _ _ (Nat.le_refl _) _ _⟩
def goFormatUint.f (a0 a1 : Int) : Option ByteArray := if 0 ≤ a0 ∧ a0 < 18446744073709551616 ∧ a1 = 10 then some (txt a0) else none
set_option maxRecDepth 100000 in
theorem goFormatUint.calls (a0 a1 : Int) (r : ByteArray) (w : World) (hG : Glob w) (h : goFormatUint.f a0 a1 = some r) :
    Calls Tryz.prog 146 #[.int .u64 a0, .int .i64 a1] w fun e w' => e = .returned (.string r) ∧ Below w.heap.size w w' := by
  unfold goFormatUint.f at h
  split at h
  · rename_i hb
    obtain ⟨h0, h1, rfl⟩ := hb
    injection h with h
    subst h
    obtain ⟨u, rfl⟩ := Int.eq_ofNat_of_zero_le h0
    have hf := formatUint_in u (by omega) w hG.tab
    go_enter Tryz.func146, Tryz.ntmps146
    go_wp2_with (go_at_call 168; refine hf.mono ?_; rintro e w' ⟨rfl, hb⟩)
    go_ret
    exact ⟨by rw [txt_nonneg]; rfl, hb⟩
  · cases h
theorem bw_below {w w' : World} {T : TypeId} {s : ByteArray} (h : w' = w ∨ w' = Lib.bytesWorld w T s) : Below w.heap.size w w' := by
  rcases h with rfl | rfl
  · exact Below.refl _ _
  · exact Lib.bytesWorld_below _ _ _
def dSmall.f (a0 : ByteArray) : Option (Int × Bool) := (unN a0).bind fun n => if a0.size ≤ 1000000 then (if n < 18446744073709551616 then some ((n : Int), true) else some (0, false)) else none
set_option maxRecDepth 100000 in
theorem dSmall.calls (a0 : ByteArray) (r1 : Int) (r2 : Bool) (w : World) (hG : Glob w) (h : dSmall.f a0 = some (r1, r2)) :
    Calls Tryz.prog 165 #[.string a0] w fun e w' => e = .returned (.tuple #[.int .u64 r1, .bool r2]) ∧ Below w.heap.size w w' := by
  unfold dSmall.f at h
  obtain ⟨n, hn, h1⟩ := Option.bind_eq_some_iff.1 h
  clear h
  obtain rfl := txtN_of_unN hn
  by_cases hsz : (txtN n).size ≤ 1000000
  · rw [if_pos hsz] at h1
    have hp := parseUintB_dec n
    by_cases hlt : n < 18446744073709551616
    · rw [if_pos hlt] at h1 hp
      injection h1 with h
      injection h with e1 e2
      subst e1 e2
      have hc := fun W => Tryz.strconv_ParseUint_10_at64_ok (txtN n) (by omega) n hp W
      go_enter Tryz.func165, Tryz.ntmps165
      go_wp2_with (go_at_call 185; refine (hc _).mono ?_; rintro e w1 ⟨rfl, hb⟩; replace hb := bw_below hb)
      go_ret2
      exact ⟨rfl, hb⟩
    · rw [if_neg hlt] at h1 hp
      injection h1 with h
      injection h with e1 e2
      subst e1 e2
      obtain ⟨tp, p, hr⟩ := hG.rng
      have hc := Tryz.strconv_ParseUint_10_at64_range_var (txtN n) (by omega) hp tp p w hr
      go_enter Tryz.func165, Tryz.ntmps165
      go_wp2_with (go_at_call 185; refine hc.mono ?_; rintro e w1 ⟨N, rfl, _, _, hb⟩)
      go_ret2
      exact ⟨rfl, hb⟩
  · rw [if_neg hsz] at h1; cases h1
def wSmall.f (a0 : ByteArray) : Option (Int × Bool) := (unI a0).bind fun n => if a0.size ≤ 1000000 then (if -9223372036854775808 ≤ n ∧ n ≤ 9223372036854775807 then some (n, true) else some (0, false)) else none
set_option maxRecDepth 100000 in
theorem wSmall.calls (a0 : ByteArray) (r1 : Int) (r2 : Bool) (w : World) (hG : Glob w) (h : wSmall.f a0 = some (r1, r2)) :
    Calls Tryz.prog 110 #[.string a0] w fun e w' => e = .returned (.tuple #[.int .i64 r1, .bool r2]) ∧ Below w.heap.size w w' := by
  unfold wSmall.f at h
  obtain ⟨n, hn, h1⟩ := Option.bind_eq_some_iff.1 h
  clear h
  obtain rfl := txt_of_unI hn
  by_cases hsz : (txt n).size ≤ 1000000
  · rw [if_pos hsz] at h1
    have hp := parseIntB_itoa n
    by_cases hlt : -9223372036854775808 ≤ n ∧ n ≤ 9223372036854775807
    · rw [if_pos hlt] at h1 hp
      injection h1 with h
      injection h with e1 e2
      subst e1 e2
      have hc := fun W => Tryz.strconv_ParseInt_10_at64_ok (txt n) (by omega) n hp W
      go_enter Tryz.func110, Tryz.ntmps110
      go_wp2_with (go_at_call 137; refine (hc _).mono ?_; rintro e w1 ⟨rfl, hb⟩; replace hb : Below w.heap.size w w1 := (by rcases hb with rfl | ⟨t, rfl⟩; exact Below.refl _ _; exact Lib.bytesWorld_below _ _ _))
      go_ret2
      exact ⟨rfl, hb⟩
    · rw [if_neg hlt] at h1 hp
      injection h1 with h
      injection h with e1 e2
      subst e1 e2
      obtain ⟨tp, p, hr⟩ := hG.rng
      have hc := Tryz.strconv_ParseInt_10_at64_range_var (txt n) (by omega) hp tp p w hr
      go_enter Tryz.func110, Tryz.ntmps110
      go_wp2_with (go_at_call 137; refine hc.mono ?_; rintro e w1 ⟨N, rfl, _, _, hb⟩)
      go_ret2
      exact ⟨rfl, hb⟩
  · rw [if_neg hsz] at h1; cases h1
theorem small_of_size {n : Int} (h : (txt n).size ≤ 18) : -9223372036854775808 ≤ n ∧ n ≤ 9223372036854775807 := by
  rcases Int.lt_or_le n 0 with hn | hn
  · rw [txt_size_neg hn] at h
    have := lt_of_nDigits_le (n := n.natAbs) (k := 17) (by omega)
    have e : (10 : Nat) ^ 17 = 100000000000000000 := by decide
    omega
  · rw [txt_size_pos hn] at h
    have := lt_of_nDigits_le (n := n.toNat) (k := 18) (by omega)
    have e : (10 : Nat) ^ 18 = 1000000000000000000 := by decide
    omega
theorem below_drewN' {B : Nat} {w W : World} (h : Below B w W) (n : Nat) : Below B w (W.drewN n) := ⟨h.os, h.tape, h.output, h.size, h.block⟩
def wLittle.f (a0 : ByteArray) (a1 : Int) : Option (Int × Bool) := (unI a0).bind fun n => if (a0.size : Int) > a1 then some (0, false) else if a1 ≤ 18 then some (n, true) else none
set_option maxRecDepth 100000 in
theorem wLittle.calls (a0 : ByteArray) (a1 : Int) (r1 : Int) (r2 : Bool) (w : World) (hG : Glob w) (h : wLittle.f a0 a1 = some (r1, r2)) :
    Calls Tryz.prog 96 #[.string a0, .int .i64 a1] w fun e w' => e = .returned (.tuple #[.int .i64 r1, .bool r2]) ∧ Below w.heap.size w w' := by
  unfold wLittle.f at h
  obtain ⟨n, hn, h1⟩ := Option.bind_eq_some_iff.1 h
  clear h
  obtain rfl := txt_of_unI hn
  by_cases hgt : ((txt n).size : Int) > a1
  · rw [if_pos hgt] at h1
    injection h1 with h
    injection h with e1 e2
    subst e1 e2
    have hgt' : a1 < ((txt n).size : Int) := hgt
    go_enter Tryz.func96, Tryz.ntmps96
    go_wp2
    go_ret2
    exact ⟨rfl, Below.refl _ _⟩
  · rw [if_neg hgt] at h1
    by_cases h18 : a1 ≤ 18
    · rw [if_pos h18] at h1
      injection h1 with h
      injection h with e1 e2
      subst e1 e2
      have hgt' : ((txt n).size : Int) ≤ a1 := by omega
      have hb := small_of_size (n := n) (by omega)
      have hc := fun W => Tryz.strconv_Atoi_ok (txt n) (by omega) n (atoiAll_itoa hb.1 hb.2) W
      clear hb
      go_enter Tryz.func96, Tryz.ntmps96
      go_wp2_with (go_at_call 128; refine (hc _).mono ?_; rintro e w1 ⟨rfl, hb⟩; replace hb : Below w.heap.size w w1 := (by rcases hb with rfl | ⟨t, rfl⟩; exact Below.refl _ _; exact Lib.bytesWorld_below _ _ _))
      go_quiet (fail)
      go_wp2
      go_ret2
      exact ⟨rfl, below_drewN' hb _⟩
    · rw [if_neg h18] at h1; cases h1
def fLittle.f (a0 : ByteArray) : Option (Int × Bool) := (unI a0).bind fun n => if (a0.size : Int) > 9 then some (0, false) else some (n, true)
set_option maxRecDepth 100000 in
theorem fLittle.calls (a0 : ByteArray) (r1 : Int) (r2 : Bool) (w : World) (hG : Glob w) (h : fLittle.f a0 = some (r1, r2)) :
    Calls Tryz.prog 118 #[.string a0] w fun e w' => e = .returned (.tuple #[.int .i64 r1, .bool r2]) ∧ Below w.heap.size w w' := by
  unfold fLittle.f at h
  obtain ⟨n, hn, h1⟩ := Option.bind_eq_some_iff.1 h
  clear h
  obtain rfl := txt_of_unI hn
  by_cases hgt : ((txt n).size : Int) > 9
  · rw [if_pos hgt] at h1
    injection h1 with h
    injection h with e1 e2
    subst e1 e2
    have hgt' : 9 < ((txt n).size : Int) := hgt
    have hgt2 : 9 < (txt n).size := by omega
    clear hgt
    go_enter Tryz.func118, Tryz.ntmps118
    go_wp2
    go_ret2
    exact ⟨rfl, Below.refl _ _⟩
  · rw [if_neg hgt] at h1
    injection h1 with h
    injection h with e1 e2
    subst e1 e2
    have hgt' : ((txt n).size : Int) ≤ 9 := by omega
    have hgt2 : (txt n).size ≤ 9 := by omega
    have hb := small_of_size (n := n) (by omega)
    have hc := fun W => Tryz.strconv_Atoi_ok (txt n) (by omega) n (atoiAll_itoa hb.1 hb.2) W
    clear hb hgt
    go_enter Tryz.func118, Tryz.ntmps118
    go_wp2_with (go_at_call 128; refine (hc _).mono ?_; rintro e w1 ⟨rfl, hb⟩; replace hb : Below w.heap.size w w1 := (by rcases hb with rfl | ⟨t, rfl⟩; exact Below.refl _ _; exact Lib.bytesWorld_below _ _ _))
    go_quiet (fail)
    go_wp2
    go_ret2
    exact ⟨rfl, below_drewN' hb _⟩
end Go.Proofs.YtailoobjgbldgaaGreatDoor.P
end
section
namespace Go.Proofs.YtailoobjgbldgaaGreatDoor.P
open Go Go.RowKit Go.Proofs.YtailoobjgbldgaaGreatDoorW.PrintWords Go.Proofs.YtailoobjgbldgaaGreatDoorW.PrintLast Go.Proofs.YtailoobjgbldgaaGreatDoorW.PrintMore
def goLen.f (a0 : Int) : Option Int := if 0 ≤ a0 ∧ a0 ≤ 18446744073709551615 then some (Lib.bitLen a0.toNat : Int) else none
theorem goLen.calls (a0 r : Int) (w : World) (h : goLen.f a0 = some r) :
    Calls Tryz.prog 181 #[.int .u64 a0] w fun e w' => e = .returned (.int .i64 r) ∧ Drawn0 w w' := by
  unfold goLen.f at h
  by_cases hb : 0 ≤ a0 ∧ a0 ≤ 18446744073709551615
  · rw [if_pos hb] at h
    injection h with h
    subst h
    refine (Tryz.bits_Len a0 w hb.1 hb.2).mono ?_
    rintro e w' ⟨rfl, rfl⟩
    exact ⟨rfl, Drawn0.refl _⟩
  · rw [if_neg hb] at h; cases h
def goMul64.f (a0 a1 : Int) : Option (Int × Int) := if 0 ≤ a0 ∧ a0 < 18446744073709551616 ∧ 0 ≤ a1 ∧ a1 < 18446744073709551616 then some (a0 * a1 / 18446744073709551616, a0 * a1 % 18446744073709551616) else none
theorem goMul64.calls (a0 a1 r1 r2 : Int) (w : World) (h : goMul64.f a0 a1 = some (r1, r2)) :
    Calls Tryz.prog 182 #[.int .u64 a0, .int .u64 a1] w fun e w' => e = .returned (.tuple #[.int .u64 r1, .int .u64 r2]) ∧ Drawn0 w w' := by
  unfold goMul64.f at h
  by_cases hb : 0 ≤ a0 ∧ a0 < 18446744073709551616 ∧ 0 ≤ a1 ∧ a1 < 18446744073709551616
  · rw [if_pos hb] at h
    injection h with h
    injection h with e1 e2
    subst e1 e2
    obtain ⟨h0, h1, h2, h3⟩ := hb
    obtain ⟨x, rfl⟩ := Int.eq_ofNat_of_zero_le h0
    obtain ⟨y, rfl⟩ := Int.eq_ofNat_of_zero_le h2
    refine (Tryz.bits_Mul64 x y (by omega) (by omega) w).mono ?_
    rintro e w' ⟨rfl, rfl⟩
    exact ⟨by simp, Drawn0.refl _⟩
  · rw [if_neg hb] at h; cases h
def goJoin.f (l : List ByteArray) (sep : ByteArray) : Option ByteArray :=
  if l.length ≤ 1000000 ∧ (Lib.join (l.map (·.data.toList)) sep.data.toList).length ≤ 140737488355328 then some ⟨(Lib.join (l.map (·.data.toList)) sep.data.toList).toArray⟩ else none
theorem spot_of_R {α : Type} {d : Kd α} {e : Nat} {w : World} {base : Nat} {ok : Nat → Prop} {A : Option Addr} {n c : Nat} {xs : List α} (h : d.R e w base ok (.slice A n c) xs) : ∀ ad, A = some ad → 0 < n → ad.spot = none ∧ ad.block < w.heap.size := by
  obtain ⟨inner, ho⟩ := Kd.R_own h
  rcases ho.2 with ⟨hv, _⟩ | ⟨g, cap, cur, hv, _, hh, _⟩
  · injection hv with e1 e2 e3
    intro ad _ hp
    omega
  · injection hv with e1 e2 e3
    intro ad ha _
    rw [e1] at ha
    injection ha with ha
    subst ha
    exact ⟨rfl, (Array.getElem?_eq_some_iff.1 hh).1⟩
theorem goJoin.calls (A0 : Option Addr) (c0 : Nat) (l0 : List ByteArray) (a1 r : ByteArray) (w : World) (hr0 : Kd.C Kd.string w A0 l0.length l0) (hc0 : l0.length ≤ c0) (hz0 : ∀ ad, A0 = some ad → 0 < l0.length → ad.spot = none ∧ ad.block < w.heap.size) (h : goJoin.f l0 a1 = some r) :
    Calls Tryz.prog 91 #[.slice A0 l0.length c0, .string a1] w fun e w' => e = .returned (.string r) ∧ Below w.heap.size w w' := by
  unfold goJoin.f at h
  by_cases hb : l0.length ≤ 1000000 ∧ (Lib.join (l0.map (·.data.toList)) a1.data.toList).length ≤ 140737488355328
  · rw [if_pos hb] at h
    injection h with h
    subst h
    rcases Nat.eq_zero_or_pos l0.length with h0 | h0
    · obtain rfl := List.length_eq_zero_iff.1 h0
      refine (Tryz.strings_Join_none A0 c0 a1 w).mono ?_
      rintro e w' ⟨rfl, rfl⟩
      exact ⟨rfl, Below.refl _ _⟩
    · obtain ⟨_, _, hR⟩ := Kd.reads_of_C (enc := Value.string) (d := ByteArray.empty) (h1 := fun _ => rfl) hr0
      obtain ⟨⟨bk, o, sp⟩, rfl, hc⟩ := hR h0
      obtain ⟨hsp, hbk⟩ := hz0 _ rfl h0
      obtain rfl : sp = none := hsp
      refine Tryz.strings_Join bk o c0 l0 a1 w (fun j x hx => ?_) hbk (by omega) hc0 hb.2
      obtain ⟨hj, hx⟩ := List.getElem?_eq_some_iff.1 hx
      have := hc j hj
      rw [Lib.add_plain] at this
      rw [this, List.getD_eq_getElem?_getD, List.getElem?_eq_getElem hj, hx]
      rfl
  · rw [if_neg hb] at h; cases h
end Go.Proofs.YtailoobjgbldgaaGreatDoor.P
end
