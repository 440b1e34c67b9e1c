/- Part 11 of the proof: functions' contracts and what they lean on. -/
import Derived.Test.YtailoobjgbldgaaGreatDoorM10
section
namespace Go.Proofs.YtailoobjgbldgaaGreatDoor.Pure
open Go Go.Lib Go.RowKit Go.Proofs.YtailoobjgbldgaaGreatDoor.P Go.Proofs.YtailoobjgbldgaaGreatDoorW.PrintWords Go.Proofs.YtailoobjgbldgaaGreatDoorW.PrintLast Go.Proofs.YtailoobjgbldgaaGreatDoorW.PrintMore
theorem txt_one : txt 1 = (⟨#[49]⟩ : ByteArray) := by
  apply bytes_ext
  rw [txt_data, itoa_of_nonneg (by decide)]
  exact dec_small (by decide)
theorem split_txt (z : Int) : whole_split.f (txt z) = some (decide (z < 0), txtN z.natAbs) := by
  have hpos : 0 < (txt z).size := by
    rcases Int.lt_or_le z 0 with h | h
    · rw [txt_size_neg h]; omega
    · rw [txt_size_pos h]; exact nDigits_pos _
  unfold whole_split.f
  rw [if_pos (by omega), if_pos (by omega)]
  rcases Int.lt_or_le z 0 with h | h
  · have hb : bt (txt z) 0 = 45 := by
      unfold bt
      rw [dif_pos (by simpa using hpos)]
      have : (txt z).data.toList = 45 :: decDigits z.natAbs := by rw [txt_data, itoa_of_neg h]
      have h2 : (txt z).data.toList[0]'(by rw [this]; simp) = 45 := by simp [this]
      have h3 : (txt z)[0]'hpos = 45 := by show (txt z).data[0]'hpos = 45; simpa using h2
      simp [h3]
    rw [if_pos hb, if_pos (by omega), decide_eq_true h]
    congr 2
    apply bytes_ext
    rw [ByteArray.data_extract, txtN_data]
    have : (txt z).data.toList = 45 :: decDigits z.natAbs := by rw [txt_data, itoa_of_neg h]
    have hs : (txt z).size = (decDigits z.natAbs).length + 1 := by
      have e := Lib.size_eq (txt z)
      rw [this] at e
      simp at e
      omega
    simp [this, hs]
  · have hb : bt (txt z) 0 ≠ 45 := by
      unfold bt
      rw [dif_pos (by simpa using hpos)]
      obtain ⟨c, l, e, h1, h2⟩ := dec_head_digit z.toNat
      have : (txt z).data.toList = c :: l := by rw [txt_data, itoa_of_nonneg h, e]
      have h2 : (txt z).data.toList[0]'(by rw [this]; simp) = c := by simp [this]
      have h3 : (txt z)[0]'hpos = c := by show (txt z).data[0]'hpos = c; simpa using h2
      simp only [Int.toNat_zero, h3]
      omega
    rw [if_neg hb, decide_eq_false (by omega)]
    congr 2
    rw [← txt_nonneg]
    congr 1
    omega
theorem abs_txt (z : Int) : whole_Abs.f (txt z) = some (txtN z.natAbs) := by
  unfold whole_Abs.f
  rw [split_txt]
  rfl
theorem sign_one : whole_Sign.f (⟨#[49]⟩ : ByteArray) = some 1 := by decide +kernel
theorem little_txtN {m : Nat} (h : m < 10 ^ 18) : wLittle.f (txtN m) 18 = some ((m : Int), true) := by
  unfold wLittle.f
  rw [← txt_nonneg, unI_txt]
  have : (txt (m : Int)).size ≤ 18 := by rw [txt_size_pos (by omega)]; exact nDigits_le_of_lt (by decide) (by simpa using h)
  simp only [Option.bind_some]
  rw [if_neg (by omega), if_pos (by decide)]
theorem of_txt {z : Int} (h1 : -9223372036854775808 ≤ z) (h2 : z ≤ 9223372036854775807) : whole_Of.f z = some (txt z) := by
  unfold whole_Of.f goItoa.f
  rw [if_pos ⟨h1, h2⟩]
  rfl
theorem gcd_one (k : Nat) (hk : 2 ≤ k) {m : Nat} (_ : m < 10 ^ 18) : whole_gcd.f k (m : Int) 1 = some 1 := by
  obtain ⟨k, rfl⟩ : ∃ j, k = j + 2 := ⟨k - 2, by omega⟩
  simp [whole_gcd.f, whole_gcd.l0]
theorem part_one {k : Nat} (hk : 10 ≤ k) {z : Int} (h1 : -1000 ≤ z) (h2 : z ≤ 1000) : schismalaw13_part.f k z 1 = some (txt z, txt 1) := by
  obtain ⟨k, rfl⟩ : ∃ j, k = j + 3 := ⟨k - 3, by omega⟩
  have hg : whole_Gcd.f (k + 2) (txt z) (txt 1) = some (txt 1) := by
    unfold whole_Gcd.f
    have hz : z.natAbs < 10 ^ 18 := by omega
    rw [abs_txt, abs_txt]
    simp only [Option.bind_some]
    rw [little_txtN hz, little_txtN (by decide)]
    simp only [Option.bind_some, if_true]
    have := gcd_one (k + 2) (by omega) hz
    simp only [Int.natAbs_one, Int.natCast_one] at this ⊢
    rw [this]
    simp only [Option.bind_some]
    rw [of_txt (by decide) (by decide)]
    rfl
  have hl : fraction_lowest.f (k + 3) (txt z) (txt 1) = some (txt z, txt 1) := by
    unfold fraction_lowest.f
    rw [txt_one, sign_one]
    simp only [Option.bind_some]
    rw [if_neg (by decide)]
    rw [fraction_lowest.j0, ← txt_one, hg]
    simp only [Option.bind_some]
    rw [if_pos (by rw [txt_one]; decide +kernel)]
  unfold schismalaw13_part.f fraction_Of.f fraction_New.f
  rw [of_txt (by omega) (by omega), of_txt (by decide) (by decide)]
  simp only [Option.bind_some]
  rw [show whole_Sign.f (txt 1) = some 1 by rw [txt_one]; exact sign_one]
  simp only [Option.bind_some]
  rw [if_neg (by decide), hl]
  rfl
theorem number_of {z : Int} (h1 : -9223372036854775808 ≤ z) (h2 : z ≤ 9223372036854775807) : size_number.f z = some (txt z, txt 1) := by
  unfold size_number.f
  rw [of_txt h1 h2, txt_one]
  rfl
def Ev {α : Type} (n : Nat) (g : Nat → Option α) (v : α) : Prop := ∀ k, n ≤ k → g k = some v
theorem Ev.of_mono {α : Type} {g : Nat → Option α} {v : α} (hm : ∀ k, LeO (g k) (g (k + 1))) {k0 : Nat} (h : g k0 = some v) : Ev k0 g v :=
  fun k hk => by
    obtain ⟨d, rfl⟩ : ∃ d, k = k0 + d := ⟨k - k0, by omega⟩
    clear hk
    induction d with
    | zero => exact h
    | succ d ih => exact hm _ _ ih
theorem Ev.le {α : Type} {n m : Nat} {g : Nat → Option α} {v : α} (h : Ev n g v) (hn : n ≤ m) : Ev m g v := fun k hk => h k (by omega)
theorem Ev.step {α : Type} {n : Nat} {g h : Nat → Option α} {v : α} (hg : Ev n g v) (he : ∀ k, n ≤ k → h (k + 1) = g k) : Ev (n + 1) h v := fun k hk => by
  obtain ⟨j, rfl⟩ : ∃ j, k = j + 1 := ⟨k - 1, by omega⟩
  rw [he j (by omega), hg j (by omega)]
theorem Ev.bind {α β : Type} {n : Nat} {g : Nat → Option α} {h : Nat → α → Option β} {v : α} {u : β} (hg : Ev n g v) (hh : Ev n (fun k => h k v) u) : Ev n (fun k => (g k).bind (h k)) u := fun k hk => by
  show (g k).bind (h k) = some u
  rw [hg k hk]
  exact hh k hk
theorem Ev.const {α : Type} (n : Nat) (v : α) : Ev n (fun _ => some v) v := fun _ _ => rfl
theorem Ev.congr {α : Type} {n : Nat} {g h : Nat → Option α} {v : α} (hg : Ev n g v) (e : ∀ k, h k = g k) : Ev n h v := fun k hk => by rw [e, hg k hk]
theorem rd_nat (l : List Int) (j : Nat) (h : j < l.length) : rd l (j : Int) = l[j] := by simp [rd, h]
theorem wrap_small {j : Nat} (h : j ≤ 1000000) : wrap64 ((j : Int) + 1) = ((j + 1 : Nat) : Int) := by simp [wrap64] <;> omega
theorem wrap_pred {j : Nat} (h : j ≤ 1000000) (hp : 0 < j) : wrap64 ((j : Int) - 1) = ((j - 1 : Nat) : Int) := by simp [wrap64] <;> omega
theorem isPrime_total (n : Int) : ∃ b, Ev 40 (fun k => prime_IsPrime.f k n) b := by
  by_cases h1 : n < 2
  · exact ⟨false, fun k hk => by obtain ⟨j, rfl⟩ : ∃ j, k = j + 1 := ⟨k - 1, by omega⟩; simp [prime_IsPrime.f, prime_IsPrime.j0, h1]⟩
  by_cases h2 : n > 97
  · exact ⟨false, fun k hk => by obtain ⟨j, rfl⟩ : ∃ j, k = j + 1 := ⟨k - 1, by omega⟩; simp [prime_IsPrime.f, prime_IsPrime.j0, h1, h2]⟩
  have hall : ∀ m ∈ List.range 98, (prime_IsPrime.f 40 (m : Int)).isSome = true := by decide +kernel
  have := hall n.toNat (List.mem_range.2 (by omega))
  rw [show ((n.toNat : Nat) : Int) = n by omega] at this
  obtain ⟨b, hb⟩ := Option.isSome_iff_exists.1 this
  exact ⟨b, Ev.of_mono (fun k => prime_IsPrime.mono n k) hb⟩
theorem checkLoop_total (l : List Int) (hl : l.length ≤ 1000) : ∀ (d j : Nat), j + d = l.length → ∃ e, Ev (41 + d) (fun k => prime_Check.l0 k l l (l.length : Int) (j : Int)) e := by
  intro d
  induction d with
  | zero =>
    intro j hj
    refine ⟨0, fun k hk => ?_⟩
    obtain ⟨i, rfl⟩ : ∃ i, k = i + 1 := ⟨k - 1, by omega⟩
    dsimp only
    rw [prime_Check.l0, if_neg (by omega)]
  | succ d ih =>
    intro j hj
    obtain ⟨b, hb⟩ := isPrime_total (rd l (j : Int))
    obtain ⟨e, he⟩ := ih (j + 1) (by omega)
    rw [← wrap_small (by omega)] at he
    cases b with
    | false =>
      dsimp only [Ev] at hb
      refine ⟨25, fun k hk => ?_⟩
      obtain ⟨i, rfl⟩ : ∃ i, k = i + 1 := ⟨k - 1, by omega⟩
      dsimp only
      rw [prime_Check.l0, if_pos (by omega), if_pos (by omega), if_pos (by omega), hb i (by omega)]
      rfl
    | true =>
      dsimp only [Ev] at hb
      by_cases h0 : (j : Int) > 0
      · by_cases hle : rd l (j : Int) ≤ rd l (wrap64 ((j : Int) - 1))
        · refine ⟨6, fun k hk => ?_⟩
          obtain ⟨i, rfl⟩ : ∃ i, k = i + 1 := ⟨k - 1, by omega⟩
          dsimp only
          rw [prime_Check.l0, if_pos (by omega), if_pos (by omega), if_pos (by omega), hb i (by omega)]
          simp only [Option.bind_some, if_true]
          have hw := wrap_pred (j := j) (by omega) (by omega)
          rw [if_pos h0, if_pos (by rw [hw]; omega), if_pos (by rw [hw]; omega), if_pos hle]
        · refine ⟨e, he.step (fun i hi => ?_)⟩
          rw [prime_Check.l0, if_pos (by omega), if_pos (by omega), if_pos (by omega), hb i (by omega)]
          simp only [Option.bind_some, if_true]
          have hw := wrap_pred (j := j) (by omega) (by omega)
          rw [if_pos h0, if_pos (by rw [hw]; omega), if_pos (by rw [hw]; omega), if_neg hle]
      · refine ⟨e, he.step (fun i hi => ?_)⟩
        rw [prime_Check.l0, if_pos (by omega), if_pos (by omega), if_pos (by omega), hb i (by omega)]
        simp only [Option.bind_some, if_true]
        rw [if_neg h0]
theorem check_total (l : List Int) : ∃ e, Ev 50 (fun k => prime_Check.f k l) e ∧ (e = 0 → 0 < l.length ∧ l.length ≤ 6) := by
  by_cases h0 : (l.length : Int) = 0
  · exact ⟨13, (Ev.const 50 13).congr (fun k => by unfold prime_Check.f; rw [if_pos h0]), fun h => by cases h⟩
  by_cases h6 : (l.length : Int) > 6
  · exact ⟨4, (Ev.const 50 4).congr (fun k => by unfold prime_Check.f; rw [if_neg h0, if_pos h6]), fun h => by cases h⟩
  obtain ⟨e, he⟩ := checkLoop_total l (by omega) l.length 0 (by omega)
  exact ⟨e, (he.le (by omega)).congr (fun k => by unfold prime_Check.f; rw [if_neg h0, if_neg h6]; rfl), fun _ => by omega⟩
theorem rowLoop (p r : List Int) (hl : r.length ≤ 1000) : ∀ (d j : Nat), j + d = r.length → ∃ e, Ev (2 + d) (fun k => monzo_CheckAll.l1 k p [r] 1 0 r (r.length : Int) (j : Int)) e ∧ (e = 0 → ∀ i (hi : i < r.length), j ≤ i → -1000 ≤ r[i] ∧ r[i] ≤ 1000) := by
  intro d
  induction d with
  | zero =>
    intro j hj
    refine ⟨0, ?_, fun _ i hi hji => by omega⟩
    intro k hk
    obtain ⟨i, rfl⟩ : ∃ i, k = i + 2 := ⟨k - 2, by omega⟩
    dsimp only
    rw [monzo_CheckAll.l1, if_neg (by omega), monzo_CheckAll.l0, if_neg (by simp [wrap64])]
  | succ d ih =>
    intro j hj
    obtain ⟨e, he, hr⟩ := ih (j + 1) (by omega)
    rw [← wrap_small (by omega)] at he
    have hrd := rd_nat r j (by omega)
    by_cases h1 : rd r (j : Int) > 1000
    · refine ⟨4, fun k hk => ?_, fun h => by cases h⟩
      obtain ⟨i, rfl⟩ : ∃ i, k = i + 1 := ⟨k - 1, by omega⟩
      dsimp only
      rw [monzo_CheckAll.l1, if_pos (by omega), if_pos (by omega), if_pos (by omega), if_pos h1]
    by_cases h2 : rd r (j : Int) < -1000
    · refine ⟨4, fun k hk => ?_, fun h => by cases h⟩
      obtain ⟨i, rfl⟩ : ∃ i, k = i + 1 := ⟨k - 1, by omega⟩
      dsimp only
      rw [monzo_CheckAll.l1, if_pos (by omega), if_pos (by omega), if_pos (by omega), if_neg h1, if_pos h2]
    refine ⟨e, he.step (fun i hi => ?_), fun h0 i hi hji => ?_⟩
    · rw [monzo_CheckAll.l1, if_pos (by omega), if_pos (by omega), if_pos (by omega), if_neg h1, if_neg h2]
    · rcases Nat.eq_or_lt_of_le hji with rfl | hlt
      · rw [hrd] at h1 h2; omega
      · exact hr h0 i hi hlt
theorem monzo_total (p r : List Int) (hl : r.length ≤ 10) : ∃ e, Ev 50 (fun k => monzo_Check.f k p r) e ∧ (e = 0 → r.length = p.length ∧ ∀ i (hi : i < r.length), -1000 ≤ r[i] ∧ r[i] ≤ 1000) ∧ (∀ c, c ≠ 0 → Ev 50 (fun k => prime_Check.f k p) c → e = c) := by
  obtain ⟨c, hc, _⟩ := check_total p
  have hu : ∀ c', Ev 50 (fun k => prime_Check.f k p) c' → c' = c := fun c' h' => by
    have e1 := hc 50 (by omega)
    have e2 := h' 50 (by omega)
    rw [e1] at e2
    exact (Option.some.inj e2).symm
  have hf : ∀ k, monzo_Check.f k p r = (prime_Check.f k p).bind fun t => if t = 0 then monzo_CheckAll.l0 k p [r] 1 0 else some t := fun k => by
    unfold monzo_Check.f monzo_CheckAll.f
    cases prime_Check.f k p with
    | none => rfl
    | some t => by_cases h : t = 0 <;> simp [h]
  by_cases h0 : c = 0
  · subst h0
    by_cases hlen : (r.length : Int) = (p.length : Int)
    · obtain ⟨e, he, hr⟩ := rowLoop p r (by omega) r.length 0 (by omega)
      have he2 : Ev 50 (fun k => monzo_CheckAll.l0 k p [r] 1 0) e := (he.step (h := fun k => monzo_CheckAll.l0 k p [r] 1 0) (fun i _ => by
        rw [monzo_CheckAll.l0, if_pos (by decide), if_pos (by decide), if_pos (by simp), if_pos (show ((rd_L6 [r] 0).length : Int) = (p.length : Int) from hlen)]
        rfl)).le (by omega)
      refine ⟨e, (hc.bind (h := fun k t => if t = 0 then monzo_CheckAll.l0 k p [r] 1 0 else some t) (he2.congr (fun k => by simp))).congr hf, fun h => ⟨by omega, fun i hi => hr h i hi (by omega)⟩, fun c' hne h' => absurd (hu c' h') hne⟩
    · have he2 : Ev 50 (fun k => monzo_CheckAll.l0 k p [r] 1 0) 5 := fun k hk => by
        obtain ⟨i, rfl⟩ : ∃ i, k = i + 1 := ⟨k - 1, by omega⟩
        dsimp only
        rw [monzo_CheckAll.l0, if_pos (by decide), if_pos (by decide), if_pos (by simp), if_neg (show ¬ ((rd_L6 [r] 0).length : Int) = (p.length : Int) from hlen)]
      exact ⟨5, (hc.bind (h := fun k t => if t = 0 then monzo_CheckAll.l0 k p [r] 1 0 else some t) (he2.congr (fun k => by simp))).congr hf, (fun h => absurd h (by decide)), fun c' hne h' => absurd (hu c' h') hne⟩
  · refine ⟨c, (hc.bind (h := fun k t => if t = 0 then monzo_CheckAll.l0 k p [r] 1 0 else some t) ((Ev.const 50 c).congr (fun k => by simp [h0]))).congr hf, fun h => absurd h h0, fun c' _ h' => (hu c' h').symm⟩
def num (z : Int) : S30 := ⟨txt z, txt 1⟩
theorem number_num {z : Int} (h1 : -1000 ≤ z) (h2 : z ≤ 1000) : size_number.f z = some ((num z).f0, (num z).f1) := number_of (by omega) (by omega)
theorem zeroLoop (N : Nat) (hN : N ≤ 10) : ∀ (d j : Nat) (xs : List S30), j + d = N → xs.length = N → (∀ i, i < j → xs[i]? = some (num 0)) → Ev (1 + d) (fun k => size_zero.l0 k xs (N : Int) (j : Int)) (List.replicate N (num 0)) := by
  intro d
  induction d with
  | zero =>
    intro j xs hj hl hx
    intro k hk
    obtain ⟨i, rfl⟩ : ∃ i, k = i + 1 := ⟨k - 1, by omega⟩
    dsimp only
    rw [size_zero.l0, if_neg (by omega)]
    congr 1
    apply List.ext_getElem?
    intro i
    by_cases hi : i < N
    · rw [hx i (by omega), List.getElem?_replicate, if_pos hi]
    · rw [List.getElem?_eq_none (by omega), List.getElem?_eq_none (by simp; omega)]
  | succ d ih =>
    intro j xs hj hl hx
    have h := ih (j + 1) (xs.set j (num 0)) (by omega) (by simpa using hl) (fun i hi => by
      by_cases hij : j = i
      · subst hij; rw [List.getElem?_set_self (by omega)]
      · rw [List.getElem?_set_ne hij]; exact hx i (by omega))
    rw [← wrap_small (by omega)] at h
    refine h.step (fun i _ => ?_)
    rw [size_zero.l0, if_pos (by omega), number_num (by decide) (by decide)]
    simp only [Option.bind_some]
    rw [if_pos (by omega), if_pos (by omega), Int.toNat_natCast]
theorem zero_is {N : Nat} (hN : N ≤ 10) : Ev 50 (fun k => size_zero.f k (N : Int)) (List.replicate N (num 0)) := by
  have h := zeroLoop N hN N 0 (List.replicate N z30) (by omega) (by simp) (fun i hi => by omega)
  refine (h.le (by omega)).congr (fun k => ?_)
  unfold size_zero.f
  rw [if_pos (by omega), if_pos (by rw [Int.toNat_natCast]; omega)]
  simp
theorem Zero_is {p : List Int} (hp : p.length ≤ 10) (hc : Ev 50 (fun k => prime_Check.f k p) 0) : Ev 50 (fun k => size_Zero.f k p) (List.replicate p.length (num 0), 0) :=
  (hc.bind (h := fun k t => if t = 0 then (size_zero.f k (p.length : Int)).bind fun t564 => some (t564, 0) else some ([], t)) (((zero_is hp).bind (h := fun _ t => some (t, 0)) (Ev.const 50 _)).congr (fun k => by rw [if_pos rfl]))).congr (fun k => rfl)
theorem Zero_err {p : List Int} {e : Int} (he : e ≠ 0) (hc : Ev 50 (fun k => prime_Check.f k p) e) : Ev 50 (fun k => size_Zero.f k p) ([], e) :=
  (hc.bind (h := fun k t => if t = 0 then (size_zero.f k (p.length : Int)).bind fun t564 => some (t564, 0) else some ([], t)) ((Ev.const 50 _).congr (fun k => by rw [if_neg he]))).congr (fun k => rfl)
theorem Equave_is {p : List Int} (hp : p.length ≤ 10) (h0 : 0 < p.length) (hc : Ev 50 (fun k => prime_Check.f k p) 0) : Ev 50 (fun k => size_Equave.f k p) ((List.replicate p.length (num 0)).set 0 (num 1), 0) := by
  have h := Zero_is hp hc
  intro k hk
  dsimp only [Ev] at h ⊢
  unfold size_Equave.f
  rw [h k hk]
  simp only [Option.bind_some, if_true]
  rw [number_num (by decide) (by decide)]
  simp only [Option.bind_some]
  rw [if_pos (by simp; omega)]
  rfl
theorem Equave_err {p : List Int} {e : Int} (he : e ≠ 0) (hc : Ev 50 (fun k => prime_Check.f k p) e) : Ev 50 (fun k => size_Equave.f k p) ([], e) := by
  have h := Zero_err he hc
  intro k hk
  dsimp only [Ev] at h ⊢
  unfold size_Equave.f
  rw [h k hk]
  simp only [Option.bind_some]
  rw [if_neg he]
theorem ofLoop (r : List Int) (hr : ∀ i (hi : i < r.length), -1000 ≤ r[i] ∧ r[i] ≤ 1000) (hN : r.length ≤ 10) : ∀ (d j : Nat) (xs : List S30), j + d = r.length → xs.length = r.length → (∀ i (hi : i < r.length), i < j → xs[i]? = some (num r[i])) → Ev (1 + d) (fun k => size_Of.l0 k xs r (r.length : Int) (j : Int)) (r.map num, 0) := by
  intro d
  induction d with
  | zero =>
    intro j xs hj hl hx
    intro k hk
    obtain ⟨i, rfl⟩ : ∃ i, k = i + 1 := ⟨k - 1, by omega⟩
    dsimp only
    rw [size_Of.l0, if_neg (by omega)]
    congr 2
    apply List.ext_getElem?
    intro i
    by_cases hi : i < r.length
    · rw [hx i hi (by omega), List.getElem?_map, List.getElem?_eq_getElem hi]; rfl
    · rw [List.getElem?_eq_none (by omega), List.getElem?_eq_none (by simp; omega)]
  | succ d ih =>
    intro j xs hj hl hx
    have hjl : j < r.length := by omega
    have h := ih (j + 1) (xs.set j (num r[j])) (by omega) (by simpa using hl) (fun i hi hij => by
      by_cases hij2 : j = i
      · subst hij2; rw [List.getElem?_set_self (by omega)]
      · rw [List.getElem?_set_ne hij2]; exact hx i hi (by omega))
    rw [← wrap_small (by omega)] at h
    refine h.step (fun i _ => ?_)
    obtain ⟨b1, b2⟩ := hr j hjl
    rw [size_Of.l0, if_pos (by omega), if_pos (by omega), if_pos (by omega), rd_nat r j hjl, number_num b1 b2]
    simp only [Option.bind_some]
    rw [if_pos (by omega), Int.toNat_natCast]
theorem Of_is {p r : List Int} (hp : p.length ≤ 10) (hm : Ev 50 (fun k => monzo_Check.f k p r) 0) (hl : r.length = p.length) (hr : ∀ i (hi : i < r.length), -1000 ≤ r[i] ∧ r[i] ≤ 1000) : Ev 50 (fun k => size_Of.f k p r) (r.map num, 0) := by
  have h := ofLoop r hr (by omega) r.length 0 (List.replicate p.length (num 0)) (by omega) (by simp; omega) (fun i hi h => by omega)
  have h := h.le (show 1 + r.length ≤ 50 by omega)
  exact (hm.bind (h := fun k t => if t = 0 then (size_zero.f k (p.length : Int)).bind fun t582 => size_Of.l0 k t582 r (r.length : Int) 0 else some ([], t)) (((zero_is hp).bind (h := fun k t => size_Of.l0 k t r (r.length : Int) 0) h).congr (fun k => by rw [if_pos rfl]))).congr (fun k => rfl)
theorem Of_err {p r : List Int} {e : Int} (he : e ≠ 0) (hm : Ev 50 (fun k => monzo_Check.f k p r) e) : Ev 50 (fun k => size_Of.f k p r) ([], e) :=
  (hm.bind (h := fun k t => if t = 0 then (size_zero.f k (p.length : Int)).bind fun t582 => size_Of.l0 k t582 r (r.length : Int) 0 else some ([], t)) ((Ev.const 50 _).congr (fun k => by rw [if_neg he]))).congr (fun k => rfl)
theorem rd_num (xs : List S30) (j : Nat) (h : j < xs.length) : rd_T30 xs (j : Int) = xs[j] := by simp [rd_T30, h]
theorem lastLoop (r : List Int) (hr : ∀ i (hi : i < r.length), -1000 ≤ r[i] ∧ r[i] ≤ 1000) (hN : r.length ≤ 10) : ∀ (d j : Nat), j + d = r.length → Ev (11 + d) (fun k => schismalaw13_SizeIntervals.l1 k r (r.map num) (j : Int)) true := by
  intro d
  induction d with
  | zero =>
    intro j hj
    intro k hk
    obtain ⟨i, rfl⟩ : ∃ i, k = i + 1 := ⟨k - 1, by omega⟩
    dsimp only
    rw [schismalaw13_SizeIntervals.l1, if_neg (by omega)]
  | succ d ih =>
    intro j hj
    have hjl : j < r.length := by omega
    have h := ih (j + 1) (by omega)
    rw [← wrap_small (by omega)] at h
    refine h.step (fun i hi => ?_)
    obtain ⟨b1, b2⟩ := hr j hjl
    rw [schismalaw13_SizeIntervals.l1, if_pos (by omega), if_pos (by omega), if_pos (by simp; omega), rd_nat r j hjl, part_one (by omega) b1 b2, rd_num _ j (by simpa using hjl)]
    simp [num]
theorem firstLoop (p r : List Int) (s : List S30) (e : Int) (hN : p.length ≤ 10) (v : Bool) (hend : Ev 50 (fun k => (monzo_Check.f k p r).bind fun t613 => (if t613 = 0 then (if e = 0 then (schismalaw13_SizeIntervals.j4 k r s ((s.length : Int) != (r.length : Int))) else (schismalaw13_SizeIntervals.j4 k r s true)) else (if (s.length : Int) = 0 then (some (e == t613)) else (some false)))) v) :
    ∀ (d j : Nat), j + d = p.length → Ev (51 + d) (fun k => schismalaw13_SizeIntervals.l0 k p r (List.replicate p.length (num 0)) ((List.replicate p.length (num 0)).set 0 (num 1)) s e (j : Int)) v := by
  intro d
  induction d with
  | zero =>
    intro j hj
    refine hend.step (fun i _ => ?_)
    rw [schismalaw13_SizeIntervals.l0, if_neg (by omega)]
  | succ d ih =>
    intro j hj
    have hjl : j < p.length := by omega
    have h := ih (j + 1) (by omega)
    rw [← wrap_small (by omega)] at h
    refine h.step (fun i hi => ?_)
    rw [schismalaw13_SizeIntervals.l0, if_pos (by omega), if_pos (by omega), if_pos (by simp; omega), part_one (by omega) (by decide) (by decide), rd_num _ j (by simpa using hjl)]
    simp only [Option.bind_some]
    rw [List.getElem_replicate, if_neg (by simp [num])]
    by_cases h0 : (j : Int) > 0
    · rw [if_pos h0, if_pos (by simp; omega), rd_num _ j (by simpa using hjl), List.getElem_set_ne (by omega), List.getElem_replicate]
      rw [if_neg (by simp [num])]
    · rw [if_neg h0]
set_option maxRecDepth 100000 in
theorem known_true : schismalaw13_known.f 300 = some true := by decide +kernel
set_option maxRecDepth 100000 in
theorem known_true' : schismalaw13_known.f 299 = some true := by decide +kernel
theorem SizeIntervals : schismalaw13_SizeIntervals.Pure := by
  intro p r _ _ _ _ _ _
  refine ⟨300, ?_⟩
  have hj0 : schismalaw13_SizeIntervals.j0 300 p r true = some true := by
    rw [schismalaw13_SizeIntervals.j0, if_pos rfl, known_true']
    rfl
  unfold schismalaw13_SizeIntervals.f
  rw [known_true]
  simp only [Option.bind_some, if_true]
  by_cases hp : (p.length : Int) > 8
  · rw [if_pos hp]
    exact hj0
  rw [if_neg hp]
  by_cases hr : (r.length : Int) > 10
  · rw [decide_eq_true hr]
    exact hj0
  rw [decide_eq_false hr]
  suffices h : Ev 200 (fun k => schismalaw13_SizeIntervals.j0 k p r false) true from h 300 (by decide)
  obtain ⟨c, hc, hlen⟩ := check_total p
  obtain ⟨m, hm, hm0, hmc⟩ := monzo_total p r (by omega)
  have hs : ∃ s, Ev 50 (fun k => size_Of.f k p r) (s, m) ∧ (m ≠ 0 → s = []) ∧ (m = 0 → s = r.map num ∧ r.length = p.length ∧ ∀ i (hi : i < r.length), -1000 ≤ r[i] ∧ r[i] ≤ 1000) := by
    by_cases h : m = 0
    · subst h
      obtain ⟨e1, e2⟩ := hm0 rfl
      exact ⟨_, Of_is (by omega) hm e1 e2, fun h => absurd rfl h, fun _ => ⟨rfl, e1, e2⟩⟩
    · exact ⟨_, Of_err h hm, fun _ => rfl, fun h' => absurd h' h⟩
  obtain ⟨s, hs, hsn, hsz⟩ := hs
  by_cases h0 : c = 0
  · subst h0
    obtain ⟨l1, l2⟩ := hlen rfl
    have hZ := Zero_is (by omega) hc
    have hE := Equave_is (by omega) l1 hc
    have hend : Ev 50 (fun k => (monzo_Check.f k p r).bind fun t613 => (if t613 = 0 then (if m = 0 then (schismalaw13_SizeIntervals.j4 k r s ((s.length : Int) != (r.length : Int))) else (schismalaw13_SizeIntervals.j4 k r s true)) else (if (s.length : Int) = 0 then (some (m == t613)) else (some false)))) true := by
      refine hm.bind (h := fun k t613 => (if t613 = 0 then (if m = 0 then (schismalaw13_SizeIntervals.j4 k r s ((s.length : Int) != (r.length : Int))) else (schismalaw13_SizeIntervals.j4 k r s true)) else (if (s.length : Int) = 0 then (some (m == t613)) else (some false)))) ?_
      by_cases h : m = 0
      · obtain ⟨e1, e2, e3⟩ := hsz h
        have hl := lastLoop r e3 (by omega) r.length 0 (by omega)
        have hj4 : Ev 50 (fun k => schismalaw13_SizeIntervals.j4 k r s ((s.length : Int) != (r.length : Int))) true := (hl.le (show 11 + r.length ≤ 49 by omega)).step (fun i _ => by
          rw [schismalaw13_SizeIntervals.j4, if_neg (by rw [e1]; simp), e1]
          rfl)
        exact hj4.congr (fun k => by rw [if_pos h, if_pos h])
      · exact (Ev.const 50 true).congr (fun k => by rw [if_neg h, if_pos (by rw [hsn h]; rfl)]; simp)
    have hloop := firstLoop p r s m (by omega) true hend p.length 0 (by omega)
    have hj2 : Ev 70 (fun k => schismalaw13_SizeIntervals.j2 k p r (List.replicate p.length (num 0)) ((List.replicate p.length (num 0)).set 0 (num 1)) s m false) true := (hloop.le (show 51 + p.length ≤ 69 by omega)).step (fun i _ => by
      rw [schismalaw13_SizeIntervals.j2, if_neg (by decide)]
      rfl)
    have hj1 : Ev 71 (fun k => schismalaw13_SizeIntervals.j1 k p r (List.replicate p.length (num 0)) 0 ((List.replicate p.length (num 0)).set 0 (num 1)) 0 s m 0) true := hj2.step (fun i hi => by
      rw [schismalaw13_SizeIntervals.j1, if_pos rfl, if_pos rfl, if_pos rfl, if_pos (by simp), if_pos (by simp), if_pos (by simp; omega), part_one (by omega) (by decide) (by decide)]
      simp only [Option.bind_some]
      congr 1
      have : rd_T30 ((List.replicate p.length (num 0)).set 0 (num 1)) 0 = num 1 := by
        have := rd_num ((List.replicate p.length (num 0)).set 0 (num 1)) 0 (by simpa using l1)
        simpa using this
      rw [this]
      simp [num])
    exact Ev.le (((hZ.le (show 50 ≤ 71 by decide)).bind (h := fun k bt591 => ((size_Equave.f k p).bind fun bt595 => ((size_Of.f k p r).bind fun bt599 => ((prime_Check.f k p).bind fun t603 => (schismalaw13_SizeIntervals.j1 k p r bt591.1 bt591.2 bt595.1 bt595.2 bt599.1 bt599.2 t603))))) ((hE.le (show 50 ≤ 71 by decide)).bind (h := fun k bt595 => ((size_Of.f k p r).bind fun bt599 => ((prime_Check.f k p).bind fun t603 => (schismalaw13_SizeIntervals.j1 k p r _ _ bt595.1 bt595.2 bt599.1 bt599.2 t603)))) ((hs.le (show 50 ≤ 71 by decide)).bind (h := fun k bt599 => ((prime_Check.f k p).bind fun t603 => (schismalaw13_SizeIntervals.j1 k p r _ _ _ _ bt599.1 bt599.2 t603))) ((hc.le (show 50 ≤ 71 by decide)).bind (h := fun k t603 => (schismalaw13_SizeIntervals.j1 k p r _ _ _ _ _ _ t603)) hj1)))).step (fun i _ => by rw [schismalaw13_SizeIntervals.j0, if_neg (by decide)])) (by decide)
  · have hZ := Zero_err h0 hc
    have hE := Equave_err h0 hc
    obtain rfl := hmc c h0 hc
    have hj1 : Ev 71 (fun k => schismalaw13_SizeIntervals.j1 k p r [] m [] m s m m) true := fun k hk => by
      obtain ⟨i, rfl⟩ : ∃ i, k = i + 1 := ⟨k - 1, by omega⟩
      dsimp only
      rw [schismalaw13_SizeIntervals.j1, if_neg h0, if_pos (by rw [hsn h0]; simp [wrap64]), if_pos rfl, if_pos rfl]
      simp
    exact Ev.le (((hZ.le (show 50 ≤ 71 by decide)).bind (h := fun k bt591 => ((size_Equave.f k p).bind fun bt595 => ((size_Of.f k p r).bind fun bt599 => ((prime_Check.f k p).bind fun t603 => (schismalaw13_SizeIntervals.j1 k p r bt591.1 bt591.2 bt595.1 bt595.2 bt599.1 bt599.2 t603))))) ((hE.le (show 50 ≤ 71 by decide)).bind (h := fun k bt595 => ((size_Of.f k p r).bind fun bt599 => ((prime_Check.f k p).bind fun t603 => (schismalaw13_SizeIntervals.j1 k p r _ _ bt595.1 bt595.2 bt599.1 bt599.2 t603)))) ((hs.le (show 50 ≤ 71 by decide)).bind (h := fun k bt599 => ((prime_Check.f k p).bind fun t603 => (schismalaw13_SizeIntervals.j1 k p r _ _ _ _ bt599.1 bt599.2 t603))) ((hc.le (show 50 ≤ 71 by decide)).bind (h := fun k t603 => (schismalaw13_SizeIntervals.j1 k p r _ _ _ _ _ _ t603)) hj1)))).step (fun i _ => by rw [schismalaw13_SizeIntervals.j0, if_neg (by decide)])) (by decide)
end Go.Proofs.YtailoobjgbldgaaGreatDoor.Pure
end
