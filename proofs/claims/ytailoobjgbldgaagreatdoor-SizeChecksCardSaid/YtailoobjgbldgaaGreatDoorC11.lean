/- The law SizeChecks holds of the given program, as its tied card says it: for any list of at most 8 primes and any two sizes of at most 8 coefficients with numbers of at most 45 digits, Check and CheckAll return OK or the first error, and so do the functions with a size; Equal compares coefficients. Conditions: none beyond those that the given statement itself names. The parts before this text hold the functions' contracts. -/
import Derived.Test.YtailoobjgbldgaaGreatDoorC10
import Derived.ChangeOld
import Derived.LaidMore
import Derived.SevenTiedAt
import Derived.Stop.Joined
import Derived.Test.YtailoobjgbldgaaGreatDoorCards
import Derived.Test.YtailoobjgbldgaaGreatDoorRows
import Derived.Test.YtailoobjgbldgaaGreatDoorTie
namespace Go.Proofs.YtailoobjgbldgaaGreatDoor.LawSizeChecks
open Go Go.ChangeShapes Go.WideShapes Go.ChangeAt Go.RowKit Go.Proofs.YtailoobjgbldgaaGreatDoor
open Go.ChangeMaps (open_string shut_string)
set_option linter.unusedVariables false
theorem own : ownKnob Tryz.prog.godebug = none := by kernel_rfl
theorem laidOut : laidOutB Tryz.prog = true := by kernel_rfl
theorem iface_of_trod {H : Type} {enc : TypeId × Value → H} {P : Program} {w : World} {base : Nat} {sp : Nat → Bool} {fuel : Nat} {t : TypeId} {m : Array (String × TypeId)} {nm : String} {d : DataW H} {cs : List Value} {p : List MemPlace}
    (ht : P.underlying t = some (.interface m)) (h : DataW.trod enc P w base sp false fuel t cs = some (.iface nm d, p)) : ∃ u v, cs = [.iface u v] := by
  cases fuel with
  | zero => simp [DataW.trod] at h
  | succ fuel =>
    unfold DataW.trod at h
    rw [ht] at h
    split at h <;> simp_all
theorem door_met (os : Os) (args : Array Value) : laidMetH Tryz.prog Rows.sizeChecksRow.laid ((World.doorLaid Tryz.prog 62 os).forCall (fun _ _ => 0) ⟨#[], args, []⟩).memory :=
  laidMetH_of_parts3 (fuel := 8) (laidMet_of_run' 8 (by kernel_rfl) (by kernel_rfl)) (by kernel_rfl) (by kernel_rfl)
theorem gTab : Tryz.prog.globalNamed "internal/strconv.uint64pow10" = some 0 := by kernel_rfl
theorem gErr : Tryz.prog.globalNamed "strconv.ErrRange" = some 3 := by kernel_rfl
theorem tTab : (Tryz.prog.globals[0]?).map (·.type) = some 221 := by kernel_rfl
theorem tErr : (Tryz.prog.globals[3]?).map (·.type) = some 160 := by kernel_rfl
theorem of_laid {W : World} (h : laidMetH Tryz.prog Rows.sizeChecksRow.laid W) : P.Glob W := by
  rw [MakeChecks.laidMetH_plain _ _ _ (by kernel_rfl)] at h
  obtain ⟨ps, ⟨g0, t0, cs0, f0, p0, q0, _, _, _, _, ⟨g1, t1, cs1, f1, p1, q1, _, _, _, _, ⟨g2, t2, cs2, f2, p2, q2, hg2, ht2, hv2, hd2, ⟨g3, t3, cs3, f3, p3, q3, hg3, ht3, hv3, hd3, _, _⟩, _⟩, _⟩, _⟩, _, _⟩ := h
  obtain rfl := Option.some.inj (gTab.symm.trans hg2)
  obtain rfl := Option.some.inj (gErr.symm.trans hg3)
  obtain rfl := Option.some.inj (tTab.symm.trans ht2)
  obtain rfl := Option.some.inj (tErr.symm.trans ht3)
  refine ⟨?_, ?_⟩
  · unfold Lib.TabIs
    rw [hv2, ← Lib.cells_of_tab Tryz.underlying221 Tryz.underlying112 (by kernel_rfl) (by kernel_rfl) (show DataW.trod _ Tryz.prog W 0 _ false f2 221 cs2.toList = some (Lib.tabData .u64 Lib.pow10Tab, p2) from hd2)]
  · obtain ⟨u, v, hc⟩ := iface_of_trod Tryz.underlying160 hd3
    exact ⟨u, v, by rw [hv3]; congr 1; apply Array.ext'; rw [hc]⟩
def IsRow (k : IntKind) (w : World) (a : Option Addr) (len cap : Nat) (zs : List Int) : Prop :=
  (a = none ∧ len = 0 ∧ cap = 0 ∧ zs = []) ∨
  ∃ x, a = some x ∧ len ≤ cap ∧ cap ≤ maxLen ∧ zs.length = cap ∧ (∀ i, i < zs.length → w.cell? (x.add i) = some (.int k (zs.getD i 0))) ∧ ∀ n ∈ zs, (Lit.int k n).wf = true
set_option maxRecDepth 100000 in
theorem lifted (os : Os) (started : os.Started) (H : Type) (enc : TypeId × Value → H) :
    ReturnsInHanded {} Tryz.checked os 11 .any (fun w args => (Rows.sizeChecksSpec.pre enc Tryz.prog Tryz.f11 [] false w args ∧ laidMetH Tryz.prog Rows.sizeChecksRow.laid w) ∧ sizedMet enc Tryz.prog Tryz.f11 (OpenSpec.ofChange Rows.sizeChecksSpec) false w args)
      (Rows.sizeChecksSpec.post enc Tryz.prog Tryz.f11 false true false false) := by
  refine returnsInHanded_of_change_and (C := Tryz.checked) (X := fun w _ => laidMetH Tryz.prog Rows.sizeChecksRow.laid w) (fun _ _ _ hh h => h.of_heap hh) own started (by kernel_rfl) Tryz.func11
    (ChangeSpec.witness_shaped (enc := enc) (C := Tryz.checked) (os := os) (X := fun w _ => laidMetH Tryz.prog Rows.sizeChecksRow.laid w) false (World.doorLaid Tryz.prog 62 os) #[.slice none 0 0, .slice none 0 0, .slice none 0 0] 8 rfl (World.shaped_of_RefB (by kernel_rfl) (by kernel_rfl)) (by kernel_rfl) (by kernel_rfl) (by kernel_rfl) (door_met os _)) ?_
  intro W base args ds gs before hval0 hW hcnd hsz0 hL _
  have hsz : (DataW.weightsEach Tryz.prog (Tryz.f11.params.toList ++ Rows.sizeChecksSpec.plain.varTypes Tryz.prog) (ds ++ gs)).all (· ≤ reachBytes) = true := hsz0
  have hval : ∀ (j : Nat) t v, Tryz.f11.params[j]? = some t → args[j]? = some v → Value.okWide Tryz.prog W .any base t v := hval0
  have hW' := hW
  obtain ⟨p, q, hA0, hV, rfl, hfz, hnd⟩ := hW
  have hA : DataW.TrodAll enc Tryz.prog W 0 (fun _ => true) true Tryz.f11.params.toList args.toList ds p := hA0
  rw [Tryz.params11] at hA hval hsz
  obtain ⟨v0, vs0, d0, ds0, p0, q0, hargs, rfl, rfl, h0, r0⟩ := trodAll_cons hA
  obtain ⟨v1, vs1, d1, ds1, p1, q1, rfl, rfl, rfl, h1, r1⟩ := trodAll_cons r0
  obtain ⟨v2, vs2, d2, ds2, p2, q2, rfl, rfl, rfl, h2, r2⟩ := trodAll_cons r1
  obtain ⟨rfl, rfl, rfl⟩ := trodAll_nil r2
  obtain rfl : args = #[v0, v1, v2] := by cases args; simp_all
  obtain ⟨rfl, rfl⟩ := trodVars_none hV
  obtain ⟨a0, len0, cap0, rfl⟩ := okWide_slice Tryz.underlying26 (hval 0 26 v0 rfl rfl)
  have k0 := h0
  have lt0 : ∀ x ∈ p0, x.block < W.heap.size := by obtain ⟨m, hm⟩ := k0; exact DataW.trod_lt m _ _ _ hm
  obtain ⟨z0, w0⟩ : ∃ zs, IsRow .i64 W a0 len0 cap0 zs := by
    obtain ⟨fuel, hf⟩ := h0
    rcases open_ints Tryz.underlying26 Tryz.underlying3 (by kernel_rfl) hf with ⟨hcs, _⟩ | ⟨x, l, c, zs, hcs, _, hl, hm, hz, _, hcell, hwz⟩
    · simp [Value.cells] at hcs
      obtain ⟨rfl, rfl, rfl⟩ := hcs
      exact ⟨[], .inl ⟨rfl, rfl, rfl, rfl⟩⟩
    · simp [Value.cells] at hcs
      obtain ⟨rfl, rfl, rfl⟩ := hcs
      exact ⟨zs, .inr ⟨_, rfl, hl, hm, by simpa using hz, hcell, hwz⟩⟩
  have y0 : len0 * 8 ≤ 140737488351232 := YtailoobjgbldgaaGreatDoorW.PrintWords.sized_ints hsz (j := 0) (t := 26) rfl rfl Tryz.underlying26 Tryz.underlying3 (by kernel_rfl) (by kernel_rfl) h0
  obtain ⟨a1, len1, cap1, rfl⟩ := okWide_slice Tryz.underlying34 (hval 1 34 v1 rfl rfl)
  have k1 := h1
  have lt1 : ∀ x ∈ p1, x.block < W.heap.size := by obtain ⟨m, hm⟩ := k1; exact DataW.trod_lt m _ _ _ hm
  obtain ⟨x1, e1, c1, s1⟩ : ∃ xs : List P.S30, xs.length = len1 ∧ len1 ≤ cap1 ∧ YtailoobjgbldgaaGreatDoorW.PrintWords.Kd.C P.k30 W a1 len1 xs := by
    obtain ⟨fuel, hf⟩ := h1
    exact P.open_pairs Tryz.underlying34 (show DataW.trod enc Tryz.prog W 0 _ _ fuel 34 [.slice a1 len1 cap1] = some _ from hf)
  subst e1
  obtain ⟨a2, len2, cap2, rfl⟩ := okWide_slice Tryz.underlying34 (hval 2 34 v2 rfl rfl)
  have k2 := h2
  have lt2 : ∀ x ∈ p2, x.block < W.heap.size := by obtain ⟨m, hm⟩ := k2; exact DataW.trod_lt m _ _ _ hm
  obtain ⟨x2, e2, c2, s2⟩ : ∃ xs : List P.S30, xs.length = len2 ∧ len2 ≤ cap2 ∧ YtailoobjgbldgaaGreatDoorW.PrintWords.Kd.C P.k30 W a2 len2 xs := by
    obtain ⟨fuel, hf⟩ := h2
    exact P.open_pairs Tryz.underlying34 (show DataW.trod enc Tryz.prog W 0 _ _ fuel 34 [.slice a2 len2 cap2] = some _ from hf)
  subst e2
  have hG := of_laid hL
  clear hA0 hval0 hsz0 hsz hL
  obtain ⟨l0, rfl, hr0, hm0, hw0, hc0⟩ := YtailoobjgbldgaaGreatDoorW.PrintWords.ReadsInt.ofRowC w0
  obtain ⟨k, hk⟩ := Pure.SizeChecks l0 x1 x2
  refine (P.schismalaw13_SizeChecks.calls k _ _ l0 (fun _ => True) _ _ x1 (fun _ => True) _ _ x2 true W hG (YtailoobjgbldgaaGreatDoorW.PrintWords.Kd.C_of_reads (d := (0 : Int)) (h1 := fun _ => rfl) hr0) hc0 (P.V_of_C c1 s1) (P.V_of_C c2 s2) hk).mono fun e W' ⟨he, bel⟩ => ?_
  subst he
  exact ⟨_, rfl, _, _, _, [], _, [], hW', trodAll_mk1 (shut_bool Tryz.underlying4 _), (trodAll_cons_mk (Below.trod laidOut (by kernel_rfl) (of_decide_eq_true (by kernel_rfl)) k0 bel lt0) (trodAll_cons_mk (Below.trod laidOut (by kernel_rfl) (of_decide_eq_true (by kernel_rfl)) k1 bel lt1) (trodAll_cons_mk (Below.trod laidOut (by kernel_rfl) (of_decide_eq_true (by kernel_rfl)) k2 bel lt2) trodAll_mk0))), rfl, bel.frame _, fun h => by cases h⟩
theorem over : Rows.SizeChecksSaid :=
  OpenClaim.holds_of_wide 11 Tryz.f11 rfl rfl rfl rfl rfl rfl rfl ⟨rfl, rfl, rfl, rfl, rfl⟩ rfl rfl rfl rfl rfl (by kernel_rfl) Tryz.func11 (by kernel_rfl)
    (of_decide_eq_true (by kernel_rfl)) (by unfold Func.isWrapper; first | (rw [if_pos (by decide +kernel)]; kernel_rfl) | (rw [if_neg (by decide +kernel)]; exact ⟨rfl, rfl⟩))
    (fun os started H enc _ => lifted os started H enc)
end Go.Proofs.YtailoobjgbldgaaGreatDoor.LawSizeChecks
namespace Go.Proofs.YtailoobjgbldgaaGreatDoor
open Go
theorem sizeChecks_card_holds : Rows.SizeChecksCardSaid :=
  Claim7.holds_tied_plain_at .later [] [.data, .data, .data, .sentinel, .sentinel] true (true, "9d0d2a1671fb7254a0d6cd7f535de0290e91414b206b40d6b5ae62423c22e5c1") true
    LawSizeChecks.over (fun _ h => by cases h) (by kernel_rfl) (fun _ h => by cases h) sizeChecks_row_tie rfl ⟨rfl, rfl⟩ (by kernel_rfl) rfl
    (fun f fn hf hfn => by
      obtain rfl : f = 11 := Option.some.inj ((show Tryz.prog.funcNamed "schisma/schismalaw13.SizeChecks" = some 11 by kernel_rfl).symm.trans hf) |>.symm
      obtain rfl : fn = Tryz.f11 := (Option.some.inj (Tryz.func11.symm.trans hfn)).symm
      exact ⟨by kernel_rfl, fun j t ht => by
        rw [Tryz.params11] at ht
        have hm : t ∈ [26, 34, 34] := by simpa using Array.mem_of_getElem? ht
        have hall : ([26, 34, 34].all fun u => !Tryz.prog.wantsStandIn u) = true := by kernel_rfl
        exact (show Tryz.prog.wantsStandIn t = false by simpa using List.all_eq_true.1 hall t hm)⟩)
    (by kernel_rfl)
#print axioms sizeChecks_card_holds
end Go.Proofs.YtailoobjgbldgaaGreatDoor
