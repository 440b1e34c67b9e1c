/- Part 1 of the proof: functions' contracts and what they lean on. -/
import Derived.Test.YtailoobjgbldgaaGreatDoorC0
import Derived.Lib.ItoaNum
import Derived.Lib.ParseIntB
section
namespace Go.Proofs.YtailoobjgbldgaaGreatDoor.P
open Go.Lib
set_option linter.unusedSimpArgs false
def natVal (l : List UInt8) : Nat := l.foldl (fun a c => 10 * a + (c.toNat - 48)) 0
def isDig (c : UInt8) : Bool := decide (48 ≤ c.toNat) && decide (c.toNat ≤ 57)
def canonN (l : List UInt8) : Bool := l.all isDig && (l.length == 1 || (decide (1 < l.length) && l.head? != some 48))
theorem isDig_iff (c : UInt8) : isDig c = true ↔ 48 ≤ c.toNat ∧ c.toNat ≤ 57 := by simp [isDig]
theorem natVal_snoc (l : List UInt8) (c : UInt8) : natVal (l ++ [c]) = 10 * natVal l + (c.toNat - 48) := by simp [natVal]
theorem natVal_nil : natVal [] = 0 := rfl
theorem toNat_ofNat_small {n : Nat} (h : n < 256) : (UInt8.ofNat n).toNat = n := by simp [Nat.mod_eq_of_lt h]
theorem dec_small {n : Nat} (h : n < 10) : decDigits n = [UInt8.ofNat (48 + n)] := decDigits_one h
theorem dec_big {n : Nat} (h : ¬ n < 10) : decDigits n = decDigits (n / 10) ++ [UInt8.ofNat (48 + n % 10)] := by rw [decDigits, dif_neg h]
theorem natVal_dec (n : Nat) : natVal (decDigits n) = n := by
  induction n using Nat.strongRecOn with
  | _ n ih =>
    by_cases h : n < 10
    · rw [dec_small h, show [UInt8.ofNat (48 + n)] = [] ++ [UInt8.ofNat (48 + n)] from rfl, natVal_snoc, toNat_ofNat_small (by omega), natVal_nil]
      omega
    · rw [dec_big h, natVal_snoc, ih (n / 10) (by omega), toNat_ofNat_small (by omega)]
      omega
theorem dec_ne_nil (n : Nat) : decDigits n ≠ [] := by
  by_cases h : n < 10
  · rw [dec_small h]; simp
  · rw [dec_big h]; simp
theorem dec_digits (n : Nat) : (decDigits n).all isDig = true := by
  induction n using Nat.strongRecOn with
  | _ n ih =>
    by_cases h : n < 10
    · rw [dec_small h]
      simp only [List.all_cons, List.all_nil, Bool.and_true, isDig_iff]
      rw [toNat_ofNat_small (by omega)]; omega
    · rw [dec_big h, List.all_append, ih (n / 10) (by omega)]
      simp only [List.all_cons, List.all_nil, Bool.and_true, Bool.true_and, isDig_iff]
      rw [toNat_ofNat_small (by omega)]; omega
theorem dec_head (n : Nat) (h0 : n ≠ 0) : (decDigits n).head? ≠ some 48 := by
  induction n using Nat.strongRecOn with
  | _ n ih =>
    by_cases h : n < 10
    · rw [dec_small h]
      simp only [List.head?_cons, ne_eq, Option.some.injEq]
      intro e
      have := congrArg UInt8.toNat e
      rw [toNat_ofNat_small (by omega)] at this
      simp at this; omega
    · rw [dec_big h, List.head?_append]
      have := ih (n / 10) (by omega) (by omega)
      cases hh : (decDigits (n / 10)).head? with
      | none => exact absurd (List.head?_eq_none_iff.1 hh) (dec_ne_nil _)
      | some c => rw [hh] at this; simpa using this
theorem canon_dec (n : Nat) : canonN (decDigits n) = true := by
  unfold canonN
  rw [dec_digits, Bool.true_and]
  by_cases h : n < 10
  · rw [dec_small h]; simp
  · have hl : 1 < (decDigits n).length := by
      rw [dec_big h, List.length_append]
      have := List.length_pos_iff.2 (dec_ne_nil (n / 10))
      simp; omega
    have := dec_head n (by omega)
    simp [hl, this]
theorem dec_natVal : ∀ (k : Nat) (l : List UInt8), l.length = k → l.all isDig = true → (l.length = 1 ∨ l.head? ≠ some 48) → l ≠ [] → decDigits (natVal l) = l ∧ (2 ≤ l.length → 1 ≤ natVal l)
  | 0, l, hk, _, _, hn => absurd (List.length_eq_zero_iff.1 hk) hn
  | k + 1, l, hk, hd, hc, hn => by
    rcases List.eq_nil_or_concat l with rfl | ⟨l', c, rfl⟩
    · exact absurd rfl hn
    · rw [List.concat_eq_append] at *
      rw [List.all_append, Bool.and_eq_true] at hd
      obtain ⟨hd1, hd2⟩ := hd
      have hc1 : 48 ≤ c.toNat ∧ c.toNat ≤ 57 := by simpa [isDig] using hd2
      rw [natVal_snoc]
      by_cases h' : l' = []
      · subst h'
        refine ⟨?_, fun h => by simp at h⟩
        rw [natVal_nil, dec_small (by omega)]
        simp only [List.nil_append, List.cons.injEq, and_true]
        rw [show 48 + (10 * 0 + (c.toNat - 48)) = c.toNat from by omega]
        simp
      · have hl : 1 ≤ l'.length := List.length_pos_iff.2 h'
        have hh : l'.head? ≠ some 48 := by
          rcases hc with hc | hc
          · simp at hc; exact absurd hc h'
          · rw [List.head?_append] at hc
            cases hq : l'.head? with
            | none => simp
            | some d => rw [hq] at hc; simpa using hc
        obtain ⟨e, _⟩ := dec_natVal k l' (by simp at hk; omega) hd1 (.inr hh) h'
        have hpos : 1 ≤ natVal l' := by
          rcases Nat.eq_zero_or_pos (natVal l') with h0 | h0
          · exfalso
            rw [h0, dec_small (by decide)] at e
            exact hh (by rw [← e]; rfl)
          · exact h0
        refine ⟨?_, fun _ => by omega⟩
        rw [dec_big (by omega), show (10 * natVal l' + (c.toNat - 48)) / 10 = natVal l' from by omega, e]
        congr 1
        rw [show 48 + (10 * natVal l' + (c.toNat - 48)) % 10 = c.toNat from by omega]
        simp
theorem dec_of_canon {l : List UInt8} (h : canonN l = true) : decDigits (natVal l) = l := by
  unfold canonN at h
  simp only [Bool.and_eq_true, Bool.or_eq_true, beq_iff_eq, decide_eq_true_eq, bne_iff_ne, ne_eq] at h
  obtain ⟨h1, h2⟩ := h
  refine (dec_natVal l.length l rfl h1 (h2.imp id fun h => h.2) ?_).1
  rintro rfl
  simp at h2
def txtN (n : Nat) : ByteArray := ⟨(decDigits n).toArray⟩
def txt (z : Int) : ByteArray := ⟨(itoa z).toArray⟩
theorem txtN_data (n : Nat) : (txtN n).data.toList = decDigits n := rfl
theorem txt_data (z : Int) : (txt z).data.toList = itoa z := rfl
theorem bytes_ext {a b : ByteArray} (h : a.data.toList = b.data.toList) : a = b := by
  cases a; cases b; simp only at h; congr 1; exact Array.toList_inj.1 h
theorem txt_nonneg (n : Nat) : txt (n : Int) = txtN n := by unfold txt txtN itoa; rw [if_neg (by omega)]; simp
theorem itoa_of_neg {z : Int} (h : z < 0) : itoa z = 45 :: decDigits z.natAbs := by unfold itoa; rw [if_pos h]
theorem itoa_of_nonneg {z : Int} (h : 0 ≤ z) : itoa z = decDigits z.toNat := by unfold itoa; rw [if_neg (by omega)]
theorem dec_head_digit (n : Nat) : ∃ c l, decDigits n = c :: l ∧ 48 ≤ c.toNat ∧ c.toNat ≤ 57 := by
  have h := dec_digits n
  cases e : decDigits n with
  | nil => exact absurd e (dec_ne_nil n)
  | cons c l => rw [e] at h; simp only [List.all_cons, Bool.and_eq_true, isDig_iff] at h; exact ⟨c, l, rfl, h.1⟩
def unN (a : ByteArray) : Option Nat := if canonN a.data.toList = true then some (natVal a.data.toList) else none
def unI (a : ByteArray) : Option Int :=
  match a.data.toList with
  | 45 :: l => if canonN l = true ∧ natVal l ≠ 0 then some (-(natVal l : Int)) else none
  | l => if canonN l = true then some (natVal l : Int) else none
theorem unN_txtN (n : Nat) : unN (txtN n) = some n := by unfold unN; rw [txtN_data, if_pos (canon_dec n), natVal_dec]
theorem txtN_of_unN {a : ByteArray} {n : Nat} (h : unN a = some n) : a = txtN n := by
  unfold unN at h
  split at h
  · rename_i hc
    injection h with h
    subst h
    exact bytes_ext (by rw [txtN_data, dec_of_canon hc])
  · cases h
theorem unI_txt (z : Int) : unI (txt z) = some z := by
  unfold unI
  rw [txt_data]
  rcases Int.lt_or_le z 0 with hz | hz
  · rw [itoa_of_neg hz]
    simp only
    rw [if_pos ⟨canon_dec _, by rw [natVal_dec]; omega⟩, natVal_dec]
    congr 1; omega
  · rw [itoa_of_nonneg hz]
    obtain ⟨c, l, e, h, _⟩ := dec_head_digit z.toNat
    rw [e]
    have hc : c ≠ 45 := by rintro rfl; simp at h
    split
    · rename_i l' e'; injection e' with e1 _; exact absurd e1 hc
    · rw [← e, if_pos (canon_dec _), natVal_dec]
      congr 1; omega
theorem txt_of_unI {a : ByteArray} {z : Int} (h : unI a = some z) : a = txt z := by
  unfold unI at h
  refine bytes_ext ?_
  rw [txt_data]
  split at h
  · rename_i l e
    split at h
    · rename_i hc
      injection h with h
      subst h
      rw [e, itoa_of_neg (by omega)]
      rw [show (-(natVal l : Int)).natAbs = natVal l from by omega, dec_of_canon hc.1]
    · cases h
  · split at h
    · rename_i hc
      injection h with h
      subst h
      rw [itoa_of_nonneg (by omega)]
      rw [show ((natVal a.data.toList : Nat) : Int).toNat = natVal a.data.toList from by omega, dec_of_canon hc]
    · cases h
theorem txtN_size (n : Nat) : (txtN n).size = nDigits n := by
  show (decDigits n).toArray.size = _
  rw [List.size_toArray, decDigits_length]
theorem txt_size_pos {z : Int} (h : 0 ≤ z) : (txt z).size = nDigits z.toNat := by
  obtain ⟨n, rfl⟩ := Int.eq_ofNat_of_zero_le h
  rw [txt_nonneg, txtN_size]; rfl
theorem txt_size_neg {z : Int} (h : z < 0) : (txt z).size = nDigits z.natAbs + 1 := by
  show (itoa z).toArray.size = _
  rw [itoa_of_neg h, List.size_toArray, List.length_cons, decDigits_length]
theorem nDigits_le_of_lt {n k : Nat} (hk : 1 ≤ k) (h : n < 10 ^ k) : nDigits n ≤ k := by
  rcases Nat.lt_or_ge k (nDigits n) with hlt | hge
  · exfalso
    have hp := nDigits_pos n
    by_cases h10 : n < 10
    · rw [nDigits_small h10] at hlt; omega
    · 
      have hb : ∀ m : Nat, 1 ≤ m → 10 ^ (nDigits m - 1) ≤ m := by
        intro m
        induction m using Nat.strongRecOn with
        | _ m ih =>
          intro hm
          by_cases hs : m < 10
          · rw [nDigits_small hs]; simpa using hm
          · rw [nDigits_big hs]
            have := ih (m / 10) (by omega) (by omega)
            have hp' := nDigits_pos (m / 10)
            rw [show nDigits (m / 10) + 1 - 1 = (nDigits (m / 10) - 1) + 1 from by omega, Nat.pow_succ]
            omega
      have := hb n (by omega)
      have h2 : 10 ^ k ≤ 10 ^ (nDigits n - 1) := Nat.pow_le_pow_right (by decide) (by omega)
      omega
  · exact hge
theorem lt_of_nDigits_le {n k : Nat} (h : nDigits n ≤ k) : n < 10 ^ k :=
  Nat.lt_of_lt_of_le (lt_pow_nDigits n) (Nat.pow_le_pow_right (by decide) h)
theorem nDigits_le_iff {n k : Nat} (hk : 1 ≤ k) : nDigits n ≤ k ↔ n < 10 ^ k := ⟨lt_of_nDigits_le, nDigits_le_of_lt hk⟩
def valFrom (acc : Nat) (l : List UInt8) : Nat := l.foldl (fun a c => 10 * a + (c.toNat - 48)) acc
theorem valFrom_ge (l : List UInt8) : ∀ acc, acc ≤ valFrom acc l := by
  induction l with
  | nil => intro acc; exact Nat.le_refl _
  | cons c l ih => intro acc; have := ih (10 * acc + (c.toNat - 48)); unfold valFrom at this ⊢; simp only [List.foldl_cons]; omega
theorem valFrom_zero (l : List UInt8) : valFrom 0 l = natVal l := rfl
theorem parseUintM_digits (l : List UInt8) : ∀ acc, l.all isDig = true → parseUintM (2 ^ 64 - 1) acc l = if acc < 2 ^ 64 ∨ l ≠ [] then (if valFrom acc l < 2 ^ 64 then .ok (valFrom acc l) else .range) else .ok acc := by
  induction l with
  | nil => intro acc _; by_cases h : acc < 2 ^ 64 <;> simp [parseUintM, valFrom, h]
  | cons c l ih =>
    intro acc hd
    simp only [List.all_cons, Bool.and_eq_true, isDig_iff] at hd
    obtain ⟨hc, hl⟩ := hd
    have hv : valFrom acc (c :: l) = valFrom (10 * acc + (c.toNat - 48)) l := rfl
    have hge := valFrom_ge l (10 * acc + (c.toNat - 48))
    rw [if_pos (.inr (by simp)), hv]
    simp only [parseUintM]
    rw [if_pos hc]
    by_cases h1 : 1844674407370955162 ≤ acc
    · rw [if_pos h1, if_neg (by omega)]
    · rw [if_neg h1]
      by_cases h2 : 2 ^ 64 - 1 < acc * 10 + (c.toNat - 48)
      · rw [if_pos h2, if_neg (by omega)]
      · rw [if_neg h2, ih _ hl, if_pos (.inl (by omega)), Nat.mul_comm acc 10]
theorem parseUintB_dec (n : Nat) : parseUintB 64 (decDigits n) = if n < 2 ^ 64 then .ok n else .range := by
  unfold parseUintB
  rw [if_neg (dec_ne_nil n), parseUintM_digits _ 0 (dec_digits n), if_pos (.inl (by decide)), valFrom_zero, natVal_dec]
theorem parseUint10_digits (l : List UInt8) : ∀ acc, acc < 2 ^ 64 → l.all isDig = true → parseUint10 acc l = if valFrom acc l < 2 ^ 64 then .ok (valFrom acc l) else .range := by
  induction l with
  | nil => intro acc h _; simp [parseUint10, valFrom, h]
  | cons c l ih =>
    intro acc ha hd
    simp only [List.all_cons, Bool.and_eq_true, isDig_iff] at hd
    obtain ⟨hc, hl⟩ := hd
    have hv : valFrom acc (c :: l) = valFrom (10 * acc + (c.toNat - 48)) l := rfl
    have hge := valFrom_ge l (10 * acc + (c.toNat - 48))
    rw [hv]
    simp only [parseUint10]
    rw [if_pos hc]
    by_cases h1 : 1844674407370955162 ≤ acc
    · rw [if_pos h1, if_neg (by omega)]
    · rw [if_neg h1]
      by_cases h2 : 18446744073709551616 ≤ acc * 10 + (c.toNat - 48)
      · rw [if_pos h2, if_neg (by omega)]
      · rw [if_neg h2, ih _ (by omega) hl, Nat.mul_comm acc 10]
theorem parseMag_dec (n : Nat) : parseMag (decDigits n) = if n < 2 ^ 64 then .ok n else .range := by
  unfold parseMag
  rw [if_neg (dec_ne_nil n), parseUint10_digits _ 0 (by decide) (dec_digits n), valFrom_zero, natVal_dec]
theorem atoiAll_itoa {z : Int} (h0 : -9223372036854775808 ≤ z) (h1 : z ≤ 9223372036854775807) : atoiAll (itoa z) = .ok z := by
  rcases Int.lt_or_le z 0 with hz | hz
  · rw [itoa_of_neg hz]
    unfold atoiAll
    simp only [show (45 : UInt8).toNat = 45 from rfl, or_true, if_true]
    rw [parseMag_dec, if_pos (by omega)]
    simp only [not_true_eq_false, false_and, if_false, true_and]
    rw [if_neg (by omega)]
    congr 1; omega
  · rw [itoa_of_nonneg hz]
    obtain ⟨c, l, e, h2, h3⟩ := dec_head_digit z.toNat
    have hp := parseMag_dec z.toNat
    rw [e] at hp ⊢
    unfold atoiAll
    dsimp only
    rw [if_neg (by omega), hp, if_pos (by omega)]
    dsimp only
    rw [if_neg (by omega), if_neg (by omega), if_neg (by omega)]
    congr 1; omega
theorem parseIntB_itoa (z : Int) : parseIntB 64 (itoa z) = if -9223372036854775808 ≤ z ∧ z ≤ 9223372036854775807 then .ok z else .range := by
  rcases Int.lt_or_le z 0 with hz | hz
  · rw [itoa_of_neg hz]
    unfold parseIntB
    simp only [show (45 : UInt8).toNat = 45 from rfl, or_true, if_true]
    rw [parseUintB_dec]
    by_cases h : z.natAbs < 2 ^ 64
    · rw [if_pos h]
      simp only [not_true_eq_false, false_and, if_false, true_and, if_true]
      by_cases h' : 2 ^ (64 - 1) < z.natAbs
      · rw [if_pos h', if_neg (by omega)]
      · rw [if_neg h', if_pos (by omega)]
        congr 1; omega
    · rw [if_neg h]
      simp only
      rw [if_neg (by omega)]
  · rw [itoa_of_nonneg hz]
    obtain ⟨c, l, e, h2, h3⟩ := dec_head_digit z.toNat
    have hp := parseUintB_dec z.toNat
    rw [e] at hp ⊢
    unfold parseIntB
    simp only
    rw [if_neg (by omega), hp]
    by_cases h : z.toNat < 2 ^ 64
    · rw [if_pos h]
      simp only
      by_cases h' : 2 ^ (64 - 1) ≤ z.toNat
      · rw [if_pos ⟨by omega, h'⟩, if_neg (by omega)]
      · rw [if_neg (by omega), if_neg (by omega), if_neg (by omega), if_pos (by omega)]
        congr 1; omega
    · rw [if_neg h]
      simp only
      rw [if_neg (by omega)]
end Go.Proofs.YtailoobjgbldgaaGreatDoor.P
end
section
namespace Go.Proofs.YtailoobjgbldgaaGreatDoor.Val
open Go.Proofs.YtailoobjgbldgaaGreatDoor.P
set_option linter.unusedSimpArgs false
set_option linter.unusedVariables false
def val : List Int → Int
  | [] => 0
  | x :: xs => x + 1000000000 * val xs
def pw (k : Nat) : Int := 1000000000 ^ k
def Dig (xs : List Int) : Prop := ∀ x ∈ xs, 0 ≤ x ∧ x < 1000000000
def gt (xs : List Int) (i : Nat) : Int := xs.getD i 0
theorem pw_zero : pw 0 = 1 := rfl
theorem pw_succ (k : Nat) : pw (k + 1) = 1000000000 * pw k := by unfold pw; rw [Int.pow_succ, Int.mul_comm]
theorem pw_pos (k : Nat) : 0 < pw k := by induction k with
  | zero => decide
  | succ k ih => rw [pw_succ]; omega
theorem pw_add (a b : Nat) : pw (a + b) = pw a * pw b := by unfold pw; exact Int.pow_add ..
theorem pw_le {a b : Nat} (h : a ≤ b) : pw a ≤ pw b := by
  obtain ⟨d, rfl⟩ := Nat.exists_eq_add_of_le h
  rw [pw_add]
  have h1 := pw_pos a
  have h2 := pw_pos d
  calc pw a = pw a * 1 := (Int.mul_one _).symm
    _ ≤ pw a * pw d := Int.mul_le_mul_of_nonneg_left (by omega) (by omega)
theorem val_nil : val [] = 0 := rfl
theorem val_cons (x : Int) (xs : List Int) : val (x :: xs) = x + 1000000000 * val xs := rfl
theorem val_append (xs ys : List Int) : val (xs ++ ys) = val xs + pw xs.length * val ys := by
  induction xs with
  | nil => simp [val, pw_zero]
  | cons x xs ih =>
    rw [List.cons_append, val_cons, val_cons, ih, List.length_cons, pw_succ, Int.mul_add, Int.mul_assoc]
    omega
theorem val_snoc (xs : List Int) (v : Int) : val (xs ++ [v]) = val xs + pw xs.length * v := by rw [val_append, val_cons, val_nil]; simp
theorem val_replicate (n : Nat) : val (List.replicate n 0) = 0 := by
  induction n with
  | zero => rfl
  | succ n ih => rw [List.replicate_succ, val_cons, ih]; rfl
theorem gt_cons_zero (x : Int) (xs : List Int) : gt (x :: xs) 0 = x := rfl
theorem gt_cons_succ (x : Int) (xs : List Int) (i : Nat) : gt (x :: xs) (i + 1) = gt xs i := by simp [gt]
theorem gt_eq {xs : List Int} {i : Nat} (h : i < xs.length) : gt xs i = xs[i] := by simp [gt, h]
theorem gt_out {xs : List Int} {i : Nat} (h : xs.length ≤ i) : gt xs i = 0 := by simp [gt, h]
theorem val_set (xs : List Int) : ∀ (i : Nat) (v : Int), i < xs.length → val (xs.set i v) = val xs + (v - gt xs i) * pw i := by
  induction xs with
  | nil => intro i v h; simp at h
  | cons x xs ih =>
    intro i v h
    cases i with
    | zero => rw [List.set_cons_zero, val_cons, val_cons, gt_cons_zero, pw_zero]; omega
    | succ i =>
      rw [List.set_cons_succ, val_cons, val_cons, ih i v (by simpa using h), gt_cons_succ, pw_succ, Int.mul_add]
      have : (v - gt xs i) * (1000000000 * pw i) = 1000000000 * ((v - gt xs i) * pw i) := by rw [← Int.mul_assoc, Int.mul_comm _ 1000000000, Int.mul_assoc]
      omega
theorem gt_set_self {xs : List Int} {i : Nat} (v : Int) (h : i < xs.length) : gt (xs.set i v) i = v := by simp [gt, h]
theorem gt_set_ne {xs : List Int} {i j : Nat} (v : Int) (h : i ≠ j) : gt (xs.set i v) j = gt xs j := by simp [gt, List.getElem?_set_ne h]
theorem Dig.nil : Dig [] := fun _ h => by cases h
theorem Dig.tail {x : Int} {xs : List Int} (h : Dig (x :: xs)) : Dig xs := fun y hy => h y (List.mem_cons_of_mem _ hy)
theorem Dig.head {x : Int} {xs : List Int} (h : Dig (x :: xs)) : 0 ≤ x ∧ x < 1000000000 := h x (List.mem_cons_self ..)
theorem Dig.gt {xs : List Int} (h : Dig xs) (i : Nat) : 0 ≤ gt xs i ∧ gt xs i < 1000000000 := by
  by_cases hi : i < xs.length
  · rw [gt_eq hi]; exact h _ (List.getElem_mem hi)
  · rw [gt_out (by omega)]; decide
theorem Dig.set {xs : List Int} (h : Dig xs) {i : Nat} {v : Int} (hv : 0 ≤ v ∧ v < 1000000000) : Dig (xs.set i v) := fun y hy => by
  rcases List.mem_or_eq_of_mem_set hy with hy | rfl
  · exact h y hy
  · exact hv
theorem Dig.append {xs ys : List Int} (h : Dig xs) (g : Dig ys) : Dig (xs ++ ys) := fun y hy => by
  rcases List.mem_append.1 hy with hy | hy
  · exact h y hy
  · exact g y hy
theorem Dig.take {xs : List Int} (h : Dig xs) (k : Nat) : Dig (xs.take k) := fun y hy => h y (List.mem_of_mem_take hy)
theorem Dig.drop {xs : List Int} (h : Dig xs) (k : Nat) : Dig (xs.drop k) := fun y hy => h y (List.mem_of_mem_drop hy)
theorem Dig.replicate (n : Nat) : Dig (List.replicate n 0) := fun y hy => by rw [List.eq_of_mem_replicate hy]; decide
theorem val_nonneg {xs : List Int} (h : Dig xs) : 0 ≤ val xs := by
  induction xs with
  | nil => decide
  | cons x xs ih => have := ih h.tail; have := h.head; rw [val_cons]; omega
theorem val_lt {xs : List Int} (h : Dig xs) : val xs < pw xs.length := by
  induction xs with
  | nil => decide
  | cons x xs ih => have := ih h.tail; have := h.head; rw [val_cons, List.length_cons, pw_succ]; omega
theorem val_split (xs : List Int) (k : Nat) : val xs = val (xs.take k) + pw (min k xs.length) * val (xs.drop k) := by
  conv => lhs; rw [← List.take_append_drop k xs]
  rw [val_append, List.length_take]
theorem val_split' (xs : List Int) {k : Nat} (h : k ≤ xs.length) : val xs = val (xs.take k) + pw k * val (xs.drop k) := by
  rw [val_split xs k, Nat.min_eq_left h]
theorem val_drop (xs : List Int) (k : Nat) : val (xs.drop k) = gt xs k + 1000000000 * val (xs.drop (k + 1)) := by
  by_cases h : k < xs.length
  · rw [List.drop_eq_getElem_cons h, val_cons, gt_eq h]
  · rw [List.drop_eq_nil_of_le (by omega), List.drop_eq_nil_of_le (by omega), gt_out (by omega)]; rfl
theorem val_take_succ (xs : List Int) (k : Nat) : val (xs.take (k + 1)) = val (xs.take k) + gt xs k * pw k := by
  by_cases h : k < xs.length
  · rw [List.take_succ_eq_append_getElem h, val_append, List.length_take, Nat.min_eq_left (by omega), val_cons, val_nil, gt_eq h, Int.mul_comm]
    simp
  · rw [List.take_of_length_le (by omega), List.take_of_length_le (by omega), gt_out (by omega)]; simp
theorem val_div {xs : List Int} (h : Dig xs) {k : Nat} (hk : k ≤ xs.length) : pw k * val (xs.drop k) ≤ val xs ∧ val xs < pw k * (val (xs.drop k) + 1) := by
  have h1 := val_split' xs hk
  have h2 := val_nonneg (h.take k)
  have h3 := val_lt (h.take k)
  rw [List.length_take, Nat.min_eq_left hk] at h3
  rw [Int.mul_add, Int.mul_one]
  omega
def Trim (xs : List Int) : Prop := xs = [] ∨ gt xs (xs.length - 1) ≠ 0
theorem Trim.ge {xs : List Int} (h : Dig xs) (t : Trim xs) (hn : xs ≠ []) : pw (xs.length - 1) ≤ val xs := by
  rcases t with rfl | t
  · exact absurd rfl hn
  have hl := List.length_pos_iff.2 hn
  have h1 := val_split' xs (k := xs.length - 1) (by omega)
  have h2 := val_drop xs (xs.length - 1)
  rw [show xs.length - 1 + 1 = xs.length by omega, List.drop_length, val_nil] at h2
  have h3 := h.gt (xs.length - 1)
  have h4 := val_nonneg (h.take (xs.length - 1))
  have h5 := pw_pos (xs.length - 1)
  rw [h1, h2]
  have : pw (xs.length - 1) * 1 ≤ pw (xs.length - 1) * (gt xs (xs.length - 1) + 1000000000 * 0) := Int.mul_le_mul_of_nonneg_left (by omega) (by omega)
  omega
def digs (n : Nat) : List Int := if h : n = 0 then [] else ((n % 1000000000 : Nat) : Int) :: digs (n / 1000000000)
theorem digs_zero : digs 0 = [] := by rw [digs, dif_pos rfl]
theorem digs_pos {n : Nat} (h : n ≠ 0) : digs n = ((n % 1000000000 : Nat) : Int) :: digs (n / 1000000000) := by rw [digs, dif_neg h]
theorem digs_dig (n : Nat) : Dig (digs n) := by
  induction n using Nat.strongRecOn with
  | _ n ih =>
    by_cases h : n = 0
    · rw [h, digs_zero]; exact Dig.nil
    · rw [digs_pos h]
      intro y hy
      rcases List.mem_cons.1 hy with rfl | hy
      · omega
      · exact ih (n / 1000000000) (by omega) y hy
theorem val_digs (n : Nat) : val (digs n) = n := by
  induction n using Nat.strongRecOn with
  | _ n ih =>
    by_cases h : n = 0
    · rw [h, digs_zero]; rfl
    · rw [digs_pos h, val_cons, ih (n / 1000000000) (by omega)]; omega
theorem Trim.tail {x : Int} {xs : List Int} (t : Trim (x :: xs)) : Trim xs := by
  rcases t with t | t
  · cases t
  · cases xs with
    | nil => exact .inl rfl
    | cons y ys => right; simpa [gt] using t
theorem digs_of {xs : List Int} (h : Dig xs) (t : Trim xs) : xs = digs (val xs).toNat := by
  induction xs with
  | nil => rw [val_nil]; exact digs_zero.symm
  | cons x xs ih =>
    have e := ih h.tail t.tail
    have h1 := val_nonneg h.tail
    have h2 := h.head
    have hne : (val (x :: xs)).toNat ≠ 0 := by
      have := t.ge h (by simp)
      have := pw_pos ((x :: xs).length - 1)
      omega
    rw [digs_pos hne, val_cons]
    have e1 : (((x + 1000000000 * val xs).toNat % 1000000000 : Nat) : Int) = x := by omega
    have e2 : (x + 1000000000 * val xs).toNat / 1000000000 = (val xs).toNat := by omega
    rw [e1, e2, ← e]
theorem digs_trim (n : Nat) : Trim (digs n) := by
  induction n using Nat.strongRecOn with
  | _ n ih =>
    by_cases h : n = 0
    · rw [h]; exact .inl digs_zero
    · rw [digs_pos h]
      right
      rcases ih (n / 1000000000) (by omega) with e | e
      · by_cases h0 : n / 1000000000 = 0
        · rw [h0, digs_zero]; simp [gt]; omega
        · rw [digs_pos h0] at e; cases e
      · have hl : (digs (n / 1000000000)).length ≠ 0 := by
          intro h0
          rw [List.length_eq_zero_iff] at h0
          rw [h0] at e
          simp [gt] at e
        obtain ⟨m, hm⟩ : ∃ m, (digs (n / 1000000000)).length = m + 1 := ⟨_, (Nat.succ_pred_eq_of_ne_zero hl).symm⟩
        rw [List.length_cons, hm]
        rw [hm] at e
        simpa [gt] using e
theorem digs_length_le {n k : Nat} (h : (n : Int) < pw k) : (digs n).length ≤ k := by
  rcases Nat.lt_or_ge k (digs n).length with hlt | hge
  · exfalso
    have hne : digs n ≠ [] := by intro h0; rw [h0] at hlt; simp at hlt
    have h1 := (digs_trim n).ge (digs_dig n) hne
    rw [val_digs] at h1
    have h2 := pw_le (show k ≤ (digs n).length - 1 by omega)
    omega
  · exact hge
theorem lt_pw_digs (n : Nat) : (n : Int) < pw (digs n).length := by have := val_lt (digs_dig n); rwa [val_digs] at this
theorem digs_nil {n : Nat} (h : digs n = []) : n = 0 := by
  by_cases h0 : n = 0
  · exact h0
  · rw [digs_pos h0] at h; cases h
def strike (xs : List Int) : List Int := digs (val xs).toNat
theorem strike_self {xs : List Int} (h : Dig xs) (t : Trim xs) : strike xs = xs := (digs_of h t).symm
theorem strike_snoc_zero {xs : List Int} : strike (xs ++ [0]) = strike xs := by unfold strike; rw [val_snoc]; simp
theorem val_lt_of_last {xs ys : List Int} (hx : Dig xs) (hy : Dig ys) {k : Nat} (hk : k < xs.length) (hk' : k < ys.length) (h : gt xs k < gt ys k) (he : val (xs.drop (k + 1)) = val (ys.drop (k + 1))) : val xs < val ys := by
  have a := val_split' xs (k := k) (by omega)
  have b := val_split' ys (k := k) (by omega)
  have c := val_drop xs k
  have d := val_drop ys k
  have e := val_lt (hx.take k)
  have f := val_nonneg (hy.take k)
  rw [List.length_take, Nat.min_eq_left (by omega)] at e
  have g : pw k * (val (xs.drop k) + 1) ≤ pw k * val (ys.drop k) := Int.mul_le_mul_of_nonneg_left (by omega) (by have := pw_pos k; omega)
  rw [Int.mul_add, Int.mul_one] at g
  omega
theorem digs_lt_of_length {m n : Nat} (h : (digs m).length < (digs n).length) : m < n := by
  have h1 := lt_pw_digs m
  have hne : digs n ≠ [] := by intro h0; rw [h0] at h; simp at h
  have h2 := (digs_trim n).ge (digs_dig n) hne
  rw [val_digs] at h2
  have h3 := pw_le (show (digs m).length ≤ (digs n).length - 1 by omega)
  omega
end Go.Proofs.YtailoobjgbldgaaGreatDoor.Val
end
section
namespace Go.Proofs.YtailoobjgbldgaaGreatDoor.Val
set_option linter.unusedVariables false
theorem ml {a b c : Int} (h : a ≤ b) (hc : 0 ≤ c) : c * a ≤ c * b := Int.mul_le_mul_of_nonneg_left h hc
theorem guess_start {V D X Y h b1 g : Int} (hX : 0 < X) (hY : 0 < Y) (hV : V < X * Y * (h + 1)) (hh : h + 1 ≤ b1 * (g + 1)) (hD : Y * b1 ≤ D) (hg : 0 ≤ g + 1) : V < X * D * (g + 1) := by
  have hXY : 0 < X * Y := Int.mul_pos hX hY
  have h1 : X * Y * (h + 1) ≤ X * Y * (b1 * (g + 1)) := ml hh (by omega)
  have h2 : X * (g + 1) * (Y * b1) ≤ X * (g + 1) * D := ml hD (Int.mul_nonneg (by omega) hg)
  have h3 : X * Y * (b1 * (g + 1)) = X * (g + 1) * (Y * b1) := by ac_rfl
  have h4 : X * (g + 1) * D = X * D * (g + 1) := by ac_rfl
  omega
theorem guess_great {V D X g : Int} (hX : 0 < X) (hD : 0 < D) (hV : V < X * D * 1000000000) (hg : 1000000000 ≤ g) : V < X * D * g := by
  have h1 : X * D * 1000000000 ≤ X * D * g := ml hg (by have := Int.mul_pos hX hD; omega)
  omega
theorem guess_down {V D X Y b1 b2 h a2 g rest : Int} (hX : 0 < X) (hY : 0 < Y) (hV : V < X * Y * (h * 1000000000 + a2 + 1)) (hD : Y * (b1 * 1000000000 + b2) ≤ D) (hg : 0 ≤ g)
    (hr : g * b1 + rest = h) (hc : rest * 1000000000 + a2 < g * b2) : V < X * D * g := by
  have hXY : 0 < X * Y := Int.mul_pos hX hY
  have h1 : h * 1000000000 + a2 + 1 ≤ g * (b1 * 1000000000 + b2) := by
    have e : g * (b1 * 1000000000 + b2) = (g * b1) * 1000000000 + g * b2 := by rw [Int.mul_add]; congr 1; ac_rfl
    omega
  have h2 := ml (c := X * Y) h1 (by omega)
  have h3 := ml (c := X * g) hD (Int.mul_nonneg (by omega) hg)
  have h4 : X * Y * (g * (b1 * 1000000000 + b2)) = X * g * (Y * (b1 * 1000000000 + b2)) := by ac_rfl
  have h5 : X * g * D = X * D * g := by ac_rfl
  omega
theorem guess_end_far {V D X Y b1 h g rest : Int} (hX : 0 < X) (hY : 0 < Y) (hV : X * Y * h ≤ V) (hD : D ≤ Y * (b1 + 1)) (hD0 : 0 < D) (hg : 0 ≤ g)
    (hr : g * b1 + rest = h) (hgr : g ≤ rest) : X * D * (g - 1) ≤ V := by
  have hXY : 0 < X * Y := Int.mul_pos hX hY
  have h1 := ml (c := X * g) hD (Int.mul_nonneg (by omega) hg)
  have h2 : X * g * (Y * (b1 + 1)) = X * Y * (g * b1 + g) := by grind
  have h3 : X * Y * (g * b1 + g) ≤ X * Y * h := ml (by omega) (by omega)
  have h4 : X * D * (g - 1) = X * g * D - X * D := by grind
  have h5 := Int.mul_pos hX hD0
  omega
theorem guess_end {V D X Y b1 b2 h a2 g rest : Int} (hX : 0 < X) (hY : 0 < Y) (hV : X * Y * (h * 1000000000 + a2) ≤ V) (hD : D ≤ Y * (b1 * 1000000000 + b2 + 1)) (hD2 : Y * 1000000000 ≤ D) (hg : 0 ≤ g) (hgB : g < 1000000000)
    (hr : g * b1 + rest = h) (hc : g * b2 ≤ rest * 1000000000 + a2) : X * D * (g - 1) ≤ V := by
  have hXY : 0 < X * Y := Int.mul_pos hX hY
  have h1 := ml (c := X * g) hD (Int.mul_nonneg (by omega) hg)
  have h2 : X * g * (Y * (b1 * 1000000000 + b2 + 1)) = X * Y * ((g * b1) * 1000000000 + g * b2) + X * (Y * g) := by grind
  have h3 : X * Y * ((g * b1) * 1000000000 + g * b2) ≤ X * Y * (h * 1000000000 + a2) := ml (by omega) (by omega)
  have h4 : Y * g ≤ Y * 1000000000 := ml (by omega) (by omega)
  have h5 : X * (Y * g) ≤ X * D := ml (by omega) (by omega)
  have h6 : X * D * (g - 1) = X * g * D - X * D := by grind
  omega
theorem three {a : List Int} (ha : Dig a) {m : Nat} (hm : m + 2 < a.length) (hV : val a < pw (m + 3)) :
    pw m * ((gt a (m + 2) * 1000000000 + gt a (m + 1)) * 1000000000 + gt a m) ≤ val a ∧ val a < pw m * ((gt a (m + 2) * 1000000000 + gt a (m + 1)) * 1000000000 + gt a m + 1) := by
  have h0 : val (a.drop (m + 3)) = 0 := by
    have h1 := (val_div ha (k := m + 3) (by omega)).1
    have h2 := val_nonneg (ha.drop (m + 3))
    rcases Int.lt_or_le 0 (val (a.drop (m + 3))) with h3 | h3
    · exfalso
      have := ml (c := pw (m + 3)) (show 1 ≤ val (a.drop (m + 3)) by omega) (by have := pw_pos (m + 3); omega)
      omega
    · omega
  have e1 := val_drop a m
  have e2 : val (a.drop (m + 1)) = gt a (m + 1) + 1000000000 * val (a.drop (m + 2)) := val_drop a (m + 1)
  have e3 : val (a.drop (m + 2)) = gt a (m + 2) + 1000000000 * val (a.drop (m + 3)) := val_drop a (m + 2)
  have h1 := val_div ha (k := m) (by omega)
  have e : val (a.drop m) = (gt a (m + 2) * 1000000000 + gt a (m + 1)) * 1000000000 + gt a m := by omega
  rw [e] at h1
  exact h1
theorem drop_zero {a : List Int} (ha : Dig a) {m : Nat} (hm : m ≤ a.length) (hV : val a < pw m) : val (a.drop m) = 0 := by
  have h1 := (val_div ha hm).1
  have h2 := val_nonneg (ha.drop m)
  rcases Int.lt_or_le 0 (val (a.drop m)) with h3 | h3
  · exfalso
    have := ml (c := pw m) (show 1 ≤ val (a.drop m) by omega) (by have := pw_pos m; omega)
    omega
  · omega
theorem lt_of_drop_zero {a : List Int} (ha : Dig a) {m : Nat} (hm : m ≤ a.length) (h : val (a.drop m) = 0) : val a < pw m := by
  have h1 := (val_div ha hm).2
  rw [h] at h1
  simpa using h1
theorem two {b : List Int} (hb : Dig b) {n : Nat} (hn : n + 2 = b.length) :
    pw n * (gt b (n + 1) * 1000000000 + gt b n) ≤ val b ∧ val b < pw n * (gt b (n + 1) * 1000000000 + gt b n + 1) := by
  have e1 := val_drop b n
  have e2 := val_drop b (n + 1)
  rw [show n + 1 + 1 = b.length by omega, List.drop_length, val_nil] at e2
  have h1 := val_div hb (k := n) (by omega)
  have e : val (b.drop n) = gt b (n + 1) * 1000000000 + gt b n := by omega
  rw [e] at h1
  exact h1
theorem one {b : List Int} (hb : Dig b) {n : Nat} (hn : n + 1 = b.length) : pw n * gt b n ≤ val b ∧ val b < pw n * (gt b n + 1) := by
  have e1 := val_drop b n
  rw [hn, List.drop_length, val_nil] at e1
  have h1 := val_div hb (k := n) (by omega)
  rw [show val (b.drop n) = gt b n by omega] at h1
  exact h1
end Go.Proofs.YtailoobjgbldgaaGreatDoor.Val
end
