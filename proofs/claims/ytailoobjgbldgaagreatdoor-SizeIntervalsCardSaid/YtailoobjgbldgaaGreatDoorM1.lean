/- Part 1 of the proof: functions' contracts and what they lean on. -/
import Derived.Test.YtailoobjgbldgaaGreatDoorM0
import Derived.Lib.ItoaNum
import Derived.Lib.ParseIntB
section
namespace Go.Proofs.YtailoobjgbldgaaGreatDoor.P
open Go.Lib
set_option linter.unusedSimpArgs false
def natVal (l : List UInt8) : Nat := l.foldl (fun a c => 10 * a + (c.toNat - 48)) 0
def isDig (c : UInt8) : Bool := decide (48 ≤ c.toNat) && decide (c.toNat ≤ 57)
def canonN (l : List UInt8) : Bool := l.all isDig && (l.length == 1 || (decide (1 < l.length) && l.head? != some 48))
theorem isDig_iff (c : UInt8) : isDig c = true ↔ 48 ≤ c.toNat ∧ c.toNat ≤ 57 := by simp [isDig]
theorem natVal_snoc (l : List UInt8) (c : UInt8) : natVal (l ++ [c]) = 10 * natVal l + (c.toNat - 48) := by simp [natVal]
theorem natVal_nil : natVal [] = 0 := rfl
theorem toNat_ofNat_small {n : Nat} (h : n < 256) : (UInt8.ofNat n).toNat = n := by simp [Nat.mod_eq_of_lt h]
theorem dec_small {n : Nat} (h : n < 10) : decDigits n = [UInt8.ofNat (48 + n)] := decDigits_one h
theorem dec_big {n : Nat} (h : ¬ n < 10) : decDigits n = decDigits (n / 10) ++ [UInt8.ofNat (48 + n % 10)] := by rw [decDigits, dif_neg h]
theorem natVal_dec (n : Nat) : natVal (decDigits n) = n := by
  induction n using Nat.strongRecOn with
  | _ n ih =>
    by_cases h : n < 10
    · rw [dec_small h, show [UInt8.ofNat (48 + n)] = [] ++ [UInt8.ofNat (48 + n)] from rfl, natVal_snoc, toNat_ofNat_small (by omega), natVal_nil]
      omega
    · rw [dec_big h, natVal_snoc, ih (n / 10) (by omega), toNat_ofNat_small (by omega)]
      omega
theorem dec_ne_nil (n : Nat) : decDigits n ≠ [] := by
  by_cases h : n < 10
  · rw [dec_small h]; simp
  · rw [dec_big h]; simp
theorem dec_digits (n : Nat) : (decDigits n).all isDig = true := by
  induction n using Nat.strongRecOn with
  | _ n ih =>
    by_cases h : n < 10
    · rw [dec_small h]
      simp only [List.all_cons, List.all_nil, Bool.and_true, isDig_iff]
      rw [toNat_ofNat_small (by omega)]; omega
    · rw [dec_big h, List.all_append, ih (n / 10) (by omega)]
      simp only [List.all_cons, List.all_nil, Bool.and_true, Bool.true_and, isDig_iff]
      rw [toNat_ofNat_small (by omega)]; omega
theorem dec_head (n : Nat) (h0 : n ≠ 0) : (decDigits n).head? ≠ some 48 := by
  induction n using Nat.strongRecOn with
  | _ n ih =>
    by_cases h : n < 10
    · rw [dec_small h]
      simp only [List.head?_cons, ne_eq, Option.some.injEq]
      intro e
      have := congrArg UInt8.toNat e
      rw [toNat_ofNat_small (by omega)] at this
      simp at this; omega
    · rw [dec_big h, List.head?_append]
      have := ih (n / 10) (by omega) (by omega)
      cases hh : (decDigits (n / 10)).head? with
      | none => exact absurd (List.head?_eq_none_iff.1 hh) (dec_ne_nil _)
      | some c => rw [hh] at this; simpa using this
theorem canon_dec (n : Nat) : canonN (decDigits n) = true := by
  unfold canonN
  rw [dec_digits, Bool.true_and]
  by_cases h : n < 10
  · rw [dec_small h]; simp
  · have hl : 1 < (decDigits n).length := by
      rw [dec_big h, List.length_append]
      have := List.length_pos_iff.2 (dec_ne_nil (n / 10))
      simp; omega
    have := dec_head n (by omega)
    simp [hl, this]
theorem dec_natVal : ∀ (k : Nat) (l : List UInt8), l.length = k → l.all isDig = true → (l.length = 1 ∨ l.head? ≠ some 48) → l ≠ [] → decDigits (natVal l) = l ∧ (2 ≤ l.length → 1 ≤ natVal l)
  | 0, l, hk, _, _, hn => absurd (List.length_eq_zero_iff.1 hk) hn
  | k + 1, l, hk, hd, hc, hn => by
    rcases List.eq_nil_or_concat l with rfl | ⟨l', c, rfl⟩
    · exact absurd rfl hn
    · rw [List.concat_eq_append] at *
      rw [List.all_append, Bool.and_eq_true] at hd
      obtain ⟨hd1, hd2⟩ := hd
      have hc1 : 48 ≤ c.toNat ∧ c.toNat ≤ 57 := by simpa [isDig] using hd2
      rw [natVal_snoc]
      by_cases h' : l' = []
      · subst h'
        refine ⟨?_, fun h => by simp at h⟩
        rw [natVal_nil, dec_small (by omega)]
        simp only [List.nil_append, List.cons.injEq, and_true]
        rw [show 48 + (10 * 0 + (c.toNat - 48)) = c.toNat from by omega]
        simp
      · have hl : 1 ≤ l'.length := List.length_pos_iff.2 h'
        have hh : l'.head? ≠ some 48 := by
          rcases hc with hc | hc
          · simp at hc; exact absurd hc h'
          · rw [List.head?_append] at hc
            cases hq : l'.head? with
            | none => simp
            | some d => rw [hq] at hc; simpa using hc
        obtain ⟨e, _⟩ := dec_natVal k l' (by simp at hk; omega) hd1 (.inr hh) h'
        have hpos : 1 ≤ natVal l' := by
          rcases Nat.eq_zero_or_pos (natVal l') with h0 | h0
          · exfalso
            rw [h0, dec_small (by decide)] at e
            exact hh (by rw [← e]; rfl)
          · exact h0
        refine ⟨?_, fun _ => by omega⟩
        rw [dec_big (by omega), show (10 * natVal l' + (c.toNat - 48)) / 10 = natVal l' from by omega, e]
        congr 1
        rw [show 48 + (10 * natVal l' + (c.toNat - 48)) % 10 = c.toNat from by omega]
        simp
theorem dec_of_canon {l : List UInt8} (h : canonN l = true) : decDigits (natVal l) = l := by
  unfold canonN at h
  simp only [Bool.and_eq_true, Bool.or_eq_true, beq_iff_eq, decide_eq_true_eq, bne_iff_ne, ne_eq] at h
  obtain ⟨h1, h2⟩ := h
  refine (dec_natVal l.length l rfl h1 (h2.imp id fun h => h.2) ?_).1
  rintro rfl
  simp at h2
def txtN (n : Nat) : ByteArray := ⟨(decDigits n).toArray⟩
def txt (z : Int) : ByteArray := ⟨(itoa z).toArray⟩
theorem txtN_data (n : Nat) : (txtN n).data.toList = decDigits n := rfl
theorem txt_data (z : Int) : (txt z).data.toList = itoa z := rfl
theorem bytes_ext {a b : ByteArray} (h : a.data.toList = b.data.toList) : a = b := by
  cases a; cases b; simp only at h; congr 1; exact Array.toList_inj.1 h
theorem txt_nonneg (n : Nat) : txt (n : Int) = txtN n := by unfold txt txtN itoa; rw [if_neg (by omega)]; simp
theorem itoa_of_neg {z : Int} (h : z < 0) : itoa z = 45 :: decDigits z.natAbs := by unfold itoa; rw [if_pos h]
theorem itoa_of_nonneg {z : Int} (h : 0 ≤ z) : itoa z = decDigits z.toNat := by unfold itoa; rw [if_neg (by omega)]
theorem dec_head_digit (n : Nat) : ∃ c l, decDigits n = c :: l ∧ 48 ≤ c.toNat ∧ c.toNat ≤ 57 := by
  have h := dec_digits n
  cases e : decDigits n with
  | nil => exact absurd e (dec_ne_nil n)
  | cons c l => rw [e] at h; simp only [List.all_cons, Bool.and_eq_true, isDig_iff] at h; exact ⟨c, l, rfl, h.1⟩
def unN (a : ByteArray) : Option Nat := if canonN a.data.toList = true then some (natVal a.data.toList) else none
def unI (a : ByteArray) : Option Int :=
  match a.data.toList with
  | 45 :: l => if canonN l = true ∧ natVal l ≠ 0 then some (-(natVal l : Int)) else none
  | l => if canonN l = true then some (natVal l : Int) else none
theorem txtN_of_unN {a : ByteArray} {n : Nat} (h : unN a = some n) : a = txtN n := by
  unfold unN at h
  split at h
  · rename_i hc
    injection h with h
    subst h
    exact bytes_ext (by rw [txtN_data, dec_of_canon hc])
  · cases h
theorem unI_txt (z : Int) : unI (txt z) = some z := by
  unfold unI
  rw [txt_data]
  rcases Int.lt_or_le z 0 with hz | hz
  · rw [itoa_of_neg hz]
    simp only
    rw [if_pos ⟨canon_dec _, by rw [natVal_dec]; omega⟩, natVal_dec]
    congr 1; omega
  · rw [itoa_of_nonneg hz]
    obtain ⟨c, l, e, h, _⟩ := dec_head_digit z.toNat
    rw [e]
    have hc : c ≠ 45 := by rintro rfl; simp at h
    split
    · rename_i l' e'; injection e' with e1 _; exact absurd e1 hc
    · rw [← e, if_pos (canon_dec _), natVal_dec]
      congr 1; omega
theorem txt_of_unI {a : ByteArray} {z : Int} (h : unI a = some z) : a = txt z := by
  unfold unI at h
  refine bytes_ext ?_
  rw [txt_data]
  split at h
  · rename_i l e
    split at h
    · rename_i hc
      injection h with h
      subst h
      rw [e, itoa_of_neg (by omega)]
      rw [show (-(natVal l : Int)).natAbs = natVal l from by omega, dec_of_canon hc.1]
    · cases h
  · split at h
    · rename_i hc
      injection h with h
      subst h
      rw [itoa_of_nonneg (by omega)]
      rw [show ((natVal a.data.toList : Nat) : Int).toNat = natVal a.data.toList from by omega, dec_of_canon hc]
    · cases h
theorem txtN_size (n : Nat) : (txtN n).size = nDigits n := by
  show (decDigits n).toArray.size = _
  rw [List.size_toArray, decDigits_length]
theorem txt_size_pos {z : Int} (h : 0 ≤ z) : (txt z).size = nDigits z.toNat := by
  obtain ⟨n, rfl⟩ := Int.eq_ofNat_of_zero_le h
  rw [txt_nonneg, txtN_size]; rfl
theorem txt_size_neg {z : Int} (h : z < 0) : (txt z).size = nDigits z.natAbs + 1 := by
  show (itoa z).toArray.size = _
  rw [itoa_of_neg h, List.size_toArray, List.length_cons, decDigits_length]
theorem nDigits_le_of_lt {n k : Nat} (hk : 1 ≤ k) (h : n < 10 ^ k) : nDigits n ≤ k := by
  rcases Nat.lt_or_ge k (nDigits n) with hlt | hge
  · exfalso
    have hp := nDigits_pos n
    by_cases h10 : n < 10
    · rw [nDigits_small h10] at hlt; omega
    · 
      have hb : ∀ m : Nat, 1 ≤ m → 10 ^ (nDigits m - 1) ≤ m := by
        intro m
        induction m using Nat.strongRecOn with
        | _ m ih =>
          intro hm
          by_cases hs : m < 10
          · rw [nDigits_small hs]; simpa using hm
          · rw [nDigits_big hs]
            have := ih (m / 10) (by omega) (by omega)
            have hp' := nDigits_pos (m / 10)
            rw [show nDigits (m / 10) + 1 - 1 = (nDigits (m / 10) - 1) + 1 from by omega, Nat.pow_succ]
            omega
      have := hb n (by omega)
      have h2 : 10 ^ k ≤ 10 ^ (nDigits n - 1) := Nat.pow_le_pow_right (by decide) (by omega)
      omega
  · exact hge
theorem lt_of_nDigits_le {n k : Nat} (h : nDigits n ≤ k) : n < 10 ^ k :=
  Nat.lt_of_lt_of_le (lt_pow_nDigits n) (Nat.pow_le_pow_right (by decide) h)
def valFrom (acc : Nat) (l : List UInt8) : Nat := l.foldl (fun a c => 10 * a + (c.toNat - 48)) acc
theorem valFrom_ge (l : List UInt8) : ∀ acc, acc ≤ valFrom acc l := by
  induction l with
  | nil => intro acc; exact Nat.le_refl _
  | cons c l ih => intro acc; have := ih (10 * acc + (c.toNat - 48)); unfold valFrom at this ⊢; simp only [List.foldl_cons]; omega
theorem valFrom_zero (l : List UInt8) : valFrom 0 l = natVal l := rfl
theorem parseUintM_digits (l : List UInt8) : ∀ acc, l.all isDig = true → parseUintM (2 ^ 64 - 1) acc l = if acc < 2 ^ 64 ∨ l ≠ [] then (if valFrom acc l < 2 ^ 64 then .ok (valFrom acc l) else .range) else .ok acc := by
  induction l with
  | nil => intro acc _; by_cases h : acc < 2 ^ 64 <;> simp [parseUintM, valFrom, h]
  | cons c l ih =>
    intro acc hd
    simp only [List.all_cons, Bool.and_eq_true, isDig_iff] at hd
    obtain ⟨hc, hl⟩ := hd
    have hv : valFrom acc (c :: l) = valFrom (10 * acc + (c.toNat - 48)) l := rfl
    have hge := valFrom_ge l (10 * acc + (c.toNat - 48))
    rw [if_pos (.inr (by simp)), hv]
    simp only [parseUintM]
    rw [if_pos hc]
    by_cases h1 : 1844674407370955162 ≤ acc
    · rw [if_pos h1, if_neg (by omega)]
    · rw [if_neg h1]
      by_cases h2 : 2 ^ 64 - 1 < acc * 10 + (c.toNat - 48)
      · rw [if_pos h2, if_neg (by omega)]
      · rw [if_neg h2, ih _ hl, if_pos (.inl (by omega)), Nat.mul_comm acc 10]
theorem parseUintB_dec (n : Nat) : parseUintB 64 (decDigits n) = if n < 2 ^ 64 then .ok n else .range := by
  unfold parseUintB
  rw [if_neg (dec_ne_nil n), parseUintM_digits _ 0 (dec_digits n), if_pos (.inl (by decide)), valFrom_zero, natVal_dec]
theorem parseUint10_digits (l : List UInt8) : ∀ acc, acc < 2 ^ 64 → l.all isDig = true → parseUint10 acc l = if valFrom acc l < 2 ^ 64 then .ok (valFrom acc l) else .range := by
  induction l with
  | nil => intro acc h _; simp [parseUint10, valFrom, h]
  | cons c l ih =>
    intro acc ha hd
    simp only [List.all_cons, Bool.and_eq_true, isDig_iff] at hd
    obtain ⟨hc, hl⟩ := hd
    have hv : valFrom acc (c :: l) = valFrom (10 * acc + (c.toNat - 48)) l := rfl
    have hge := valFrom_ge l (10 * acc + (c.toNat - 48))
    rw [hv]
    simp only [parseUint10]
    rw [if_pos hc]
    by_cases h1 : 1844674407370955162 ≤ acc
    · rw [if_pos h1, if_neg (by omega)]
    · rw [if_neg h1]
      by_cases h2 : 18446744073709551616 ≤ acc * 10 + (c.toNat - 48)
      · rw [if_pos h2, if_neg (by omega)]
      · rw [if_neg h2, ih _ (by omega) hl, Nat.mul_comm acc 10]
theorem parseMag_dec (n : Nat) : parseMag (decDigits n) = if n < 2 ^ 64 then .ok n else .range := by
  unfold parseMag
  rw [if_neg (dec_ne_nil n), parseUint10_digits _ 0 (by decide) (dec_digits n), valFrom_zero, natVal_dec]
theorem atoiAll_itoa {z : Int} (h0 : -9223372036854775808 ≤ z) (h1 : z ≤ 9223372036854775807) : atoiAll (itoa z) = .ok z := by
  rcases Int.lt_or_le z 0 with hz | hz
  · rw [itoa_of_neg hz]
    unfold atoiAll
    simp only [show (45 : UInt8).toNat = 45 from rfl, or_true, if_true]
    rw [parseMag_dec, if_pos (by omega)]
    simp only [not_true_eq_false, false_and, if_false, true_and]
    rw [if_neg (by omega)]
    congr 1; omega
  · rw [itoa_of_nonneg hz]
    obtain ⟨c, l, e, h2, h3⟩ := dec_head_digit z.toNat
    have hp := parseMag_dec z.toNat
    rw [e] at hp ⊢
    unfold atoiAll
    dsimp only
    rw [if_neg (by omega), hp, if_pos (by omega)]
    dsimp only
    rw [if_neg (by omega), if_neg (by omega), if_neg (by omega)]
    congr 1; omega
theorem parseIntB_itoa (z : Int) : parseIntB 64 (itoa z) = if -9223372036854775808 ≤ z ∧ z ≤ 9223372036854775807 then .ok z else .range := by
  rcases Int.lt_or_le z 0 with hz | hz
  · rw [itoa_of_neg hz]
    unfold parseIntB
    simp only [show (45 : UInt8).toNat = 45 from rfl, or_true, if_true]
    rw [parseUintB_dec]
    by_cases h : z.natAbs < 2 ^ 64
    · rw [if_pos h]
      simp only [not_true_eq_false, false_and, if_false, true_and, if_true]
      by_cases h' : 2 ^ (64 - 1) < z.natAbs
      · rw [if_pos h', if_neg (by omega)]
      · rw [if_neg h', if_pos (by omega)]
        congr 1; omega
    · rw [if_neg h]
      simp only
      rw [if_neg (by omega)]
  · rw [itoa_of_nonneg hz]
    obtain ⟨c, l, e, h2, h3⟩ := dec_head_digit z.toNat
    have hp := parseUintB_dec z.toNat
    rw [e] at hp ⊢
    unfold parseIntB
    simp only
    rw [if_neg (by omega), hp]
    by_cases h : z.toNat < 2 ^ 64
    · rw [if_pos h]
      simp only
      by_cases h' : 2 ^ (64 - 1) ≤ z.toNat
      · rw [if_pos ⟨by omega, h'⟩, if_neg (by omega)]
      · rw [if_neg (by omega), if_neg (by omega), if_neg (by omega), if_pos (by omega)]
        congr 1; omega
    · rw [if_neg h]
      simp only
      rw [if_neg (by omega)]
end Go.Proofs.YtailoobjgbldgaaGreatDoor.P
end
