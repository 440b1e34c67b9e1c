/- Part 7 of the proof: functions' contracts and what they lean on. -/
import Derived.Test.YtailoobjgbldgaaGreatDoorM6
section
namespace Go.Proofs.YtailoobjgbldgaaGreatDoor.P
open Go.RowKit Go.Proofs.YtailoobjgbldgaaGreatDoorW.PrintWords Go.Proofs.YtailoobjgbldgaaGreatDoorW.PrintLast Go.Proofs.YtailoobjgbldgaaGreatDoorW.PrintMore
attribute [local go_sem] max2_int min2_int max_two min_two max_three min_three max_four min_four   
set_option linter.unusedVariables false
set_option linter.unusedSimpArgs false
mutual
def fraction_Add.j0 : Nat → Bool → ByteArray → ByteArray → ByteArray → ByteArray → Option (ByteArray × ByteArray)
 | 0, _, _, _, _, _ => none
 | k + 1, x18, x253000, x253001, x254000, x254001 => if x18 = true then ((whole_Add.f k x253000 x254000).bind fun t255 => (some (t255, (⟨#[49]⟩ : ByteArray)))) else ((fraction_both.f x253000 x253001).bind fun bt256 => (fraction_Add.j1 k bt256.1 bt256.2.1 bt256.2.2 x253000 x253001 x254000 x254001))
def fraction_Add.j1 : Nat → Int → Int → Bool → ByteArray → ByteArray → ByteArray → ByteArray → Option (ByteArray × ByteArray)
 | 0, _, _, _, _, _, _, _ => none
 | k + 1, x5, x6, x7, x253000, x253001, x254000, x254001 => if x7 = true then ((fraction_both.f x254000 x254001).bind fun bt259 => (if bt259.2.2 = true then ((fraction_of.f k (wrap64 ((wrap64 (x5 * bt259.2.1)) + (wrap64 (bt259.1 * x6)))) (wrap64 (x6 * bt259.2.1))).bind fun bt262 => (some (bt262.1, bt262.2))) else (fraction_Add.j2 k x253000 x253001 x254000 x254001))) else (fraction_Add.j2 k x253000 x253001 x254000 x254001)
def fraction_Add.j2 : Nat → ByteArray → ByteArray → ByteArray → ByteArray → Option (ByteArray × ByteArray)
 | 0, _, _, _, _ => none
 | k + 1, x253000, x253001, x254000, x254001 => (whole_Mul.f k x253000 x254001).bind fun t264 => ((whole_Mul.f k x254000 x253001).bind fun t265 => ((whole_Add.f k t264 t265).bind fun t266 => ((whole_Mul.f k x253001 x254001).bind fun t267 => ((fraction_lowest.f k t266 t267).bind fun bt268 => (some (bt268.1, bt268.2))))))
end
def fraction_Add.f (k : Nat) (a0_0 : ByteArray) (a0_1 : ByteArray) (a1_0 : ByteArray) (a1_1 : ByteArray) : Option (ByteArray × ByteArray) := if a0_1.toList = ([49] : List UInt8) then (fraction_Add.j0 k (a1_1.toList == ([49] : List UInt8)) a0_0 a0_1 a1_0 a1_1) else (fraction_Add.j0 k false a0_0 a0_1 a1_0 a1_1)
def fraction_Add.T8 : Bool × List (List Nat × List Nat) := (true, [([], []), ([0], [0]), ([], []), ([2], [2]), ([1, 3], [1, 3]), ([], []), ([5], [5]), ([], []), ([7], [7]), ([6, 8, 4], [6, 8]), ([4, 9, 9], [4, 9]), ([], []), ([11], [11]), ([], []), ([13], [13]), ([12, 14, 10], [12, 14]), ([10, 15, 15], [10, 15]), ([16, 16, 0, 1, 2, 3, 4, 5, 6, 7, 8, 9, 10, 11, 12, 13, 14, 15, 16], [16])])
def fraction_Add.B8 : List Nat := [0, 1, 0, 4, 15, 0, 32, 0, 128, 511, 1023, 0, 2048, 0, 8192, 32767, 65535, 131071]
theorem fraction_Add.tab8 : rtab .any (opsOf Tryz.f60 8) = fraction_Add.T8 := by kernel_rfl
theorem fraction_Add.bits8 : waitsOk fraction_Add.T8.2 fraction_Add.B8 = true := by kernel_rfl
set_option maxHeartbeats 8000000 in
set_option maxRecDepth 100000 in
theorem fraction_Add.calls (k : Nat) (a0_0 : ByteArray) (a0_1 : ByteArray) (a1_0 : ByteArray) (a1_1 : ByteArray) (r1 : ByteArray) (r2 : ByteArray) (w : World) (hG : Glob w) (h : fraction_Add.f k a0_0 a0_1 a1_0 a1_1 = some (r1, r2)) :
  Calls Tryz.prog 60 #[.agg #[.string a0_0, .string a0_1], .agg #[.string a1_0, .string a1_1]] w fun e w' => e = .returned (.agg #[.string r1, .string r2]) ∧ Below w.heap.size w w' := by
 have hu30 := Tryz.underlying30
 have HG0 := Aside0.mk hG
 clear hG
 have HB := Aside0.mk (Below.refl w.heap.size w)
 have H : (if a0_1.toList = ([49] : List UInt8) then (fraction_Add.j0 k (a1_1.toList == ([49] : List UInt8)) a0_0 a0_1 a1_0 a1_1) else (fraction_Add.j0 k false a0_0 a0_1 a1_0 a1_1)) = some (r1, r2) := h
 clear h
 have HC3 := Aside0.mk H
 clear H
 go_enter Tryz.func60, Tryz.ntmps60
 go_upto_region 1 with (first | ((with_reducible refine gate_dst (N := 2) rfl ?_); refine boxM (N := 2) #[.string a0_0, .string a0_1] 30 ?_; intro gb252 hg w4 hbox hb; have BK252 := Aside0.mk (hbox); have GW252 := Aside0.mk ((by rw [hg]; exact (below_size (bl HB)) : w.heap.size ≤ gb252)); have GE252 := Aside0.mk ((by rw [hg]; exact (below_size (bl HB)) : w.heap.size ≤ gb252)); replace HB := Aside0.mk (below_step (bl HB) hb); clear hb hbox hg) | ((with_reducible refine gate_dst (N := 3) rfl ?_); refine boxM (N := 3) #[.string a1_0, .string a1_1] 30 ?_; intro gb253 hg w5 hbox hb; have BK253 := Aside0.mk (hbox); have GW253 := Aside0.mk ((by rw [hg]; exact (below_size (bl HB)) : w.heap.size ≤ gb253)); have GE253 := Aside0.mk ((by rw [hg]; exact (below_size (bl HB)) : w.heap.size ≤ gb253)); replace HB := Aside0.mk (below_step (bl HB) hb); have NB252_253 := Aside0.mk ((by rw [hg]; exact Nat.ne_of_lt (blk_lt (g := gb252) (o := .cells #[.string a0_0, .string a0_1] 30 (0, 0)) (bk BK252)) : gb252 ≠ gb253)); have NB253_252 := Aside0.mk ((by rw [hg]; exact Nat.ne_of_gt (blk_lt (g := gb252) (o := .cells #[.string a0_0, .string a0_1] 30 (0, 0)) (bk BK252)) : gb253 ≠ gb252)); replace BK252 := Aside0.mk (blk_below (g := gb252) (o := .cells #[.string a0_0, .string a0_1] 30 (0, 0)) (bk BK252) hb); clear hb hbox hg) | ((with_reducible refine gate_dst (N := 4) rfl ?_); refine boxM (N := 4) #[.string (⟨#[]⟩ : ByteArray), .string (⟨#[]⟩ : ByteArray)] 30 ?_; intro gb254 hg w6 hbox hb; have BK254 := Aside0.mk (hbox); have GW254 := Aside0.mk ((by rw [hg]; exact (below_size (bl HB)) : w.heap.size ≤ gb254)); have GE254 := Aside0.mk ((by rw [hg]; exact (below_size (bl HB)) : w.heap.size ≤ gb254)); replace HB := Aside0.mk (below_step (bl HB) hb); have NB252_254 := Aside0.mk ((by rw [hg]; exact Nat.ne_of_lt (blk_lt (g := gb252) (o := .cells #[.string a0_0, .string a0_1] 30 (0, 0)) (bk BK252)) : gb252 ≠ gb254)); have NB254_252 := Aside0.mk ((by rw [hg]; exact Nat.ne_of_gt (blk_lt (g := gb252) (o := .cells #[.string a0_0, .string a0_1] 30 (0, 0)) (bk BK252)) : gb254 ≠ gb252)); replace BK252 := Aside0.mk (blk_below (g := gb252) (o := .cells #[.string a0_0, .string a0_1] 30 (0, 0)) (bk BK252) hb); have NB253_254 := Aside0.mk ((by rw [hg]; exact Nat.ne_of_lt (blk_lt (g := gb253) (o := .cells #[.string a1_0, .string a1_1] 30 (0, 0)) (bk BK253)) : gb253 ≠ gb254)); have NB254_253 := Aside0.mk ((by rw [hg]; exact Nat.ne_of_gt (blk_lt (g := gb253) (o := .cells #[.string a1_0, .string a1_1] 30 (0, 0)) (bk BK253)) : gb254 ≠ gb253)); replace BK253 := Aside0.mk (blk_below (g := gb253) (o := .cells #[.string a1_0, .string a1_1] 30 (0, 0)) (bk BK253) hb); clear hb hbox hg))
 (try simp only [Act.put, List.setIfInBounds_toArray, List.set_cons_zero, List.set_cons_succ])
 go_cut [18] (fun v18 wc => ∃ (kq : Nat) (x18_2 : Bool), v18 = .bool x18_2 ∧ Aside0 (fraction_Add.j0 kq x18_2 a0_0 a0_1 a1_0 a1_1 = some (r1, r2)) ∧ Aside0 (kq ≤ k) ∧ Aside0 (wc.heap[gb252]? = some (.cells #[.string a0_0, .string a0_1] 30 (0, 0))) ∧ Aside0 (wc.heap[gb253]? = some (.cells #[.string a1_0, .string a1_1] 30 (0, 0))) ∧ Aside0 (wc.heap[gb254]? = some (.cells #[.string (⟨#[]⟩ : ByteArray), .string (⟨#[]⟩ : ByteArray)] 30 (0, 0))) ∧ Aside0 (Below w.heap.size w wc))
 case first =>
  have H := HC3.out
  clear HC3
  by_cases c7 : a0_1.toList = ([49] : List UInt8)
  ·rw [if_pos c7] at H
   have c7b0 : (a0_1.toList == ([49] : List UInt8)) = true := beq_iff_eq.mpr c7
   have c7b1 : (a0_1.toList != ([49] : List UInt8)) = false := bne_eq_false_iff_eq.mpr c7
   clear c7
   (first | rw [c7b0] | (simp only [i64_w, i32_w]; rw [c7b0]) | skip)
   have H' := Aside0.mk H
   clear H
   have hnb8 := NB252_253.out
   have hnc8 := NB253_252.out
   have hnb9 := NB252_254.out
   have hnc9 := NB254_252.out
   have hcz10_0 : w6.cell? ⟨gb252, 0, none⟩ = some (.string a0_0) := (blk_cell BK252.out 0).trans rfl
   have hcz10_1 : w6.cell? ⟨gb252, 1, none⟩ = some (.string a0_1) := (blk_cell BK252.out 1).trans rfl
   have hfz10_0 := blk_frozen BK252.out 0
   have hfz10_1 := blk_frozen BK252.out 1
   have hnb11 := NB253_254.out
   have hnc11 := NB254_253.out
   have hcz12_0 : w6.cell? ⟨gb253, 0, none⟩ = some (.string a1_0) := (blk_cell BK253.out 0).trans rfl
   have hcz12_1 : w6.cell? ⟨gb253, 1, none⟩ = some (.string a1_1) := (blk_cell BK253.out 1).trans rfl
   have hfz12_0 := blk_frozen BK253.out 0
   have hfz12_1 := blk_frozen BK253.out 1
   go_wp2
   go_meet
   case rel => exact ⟨_, ((a1_1.toList == ([49] : List UInt8))), rs, H', ⟨by first | omega | exact Nat.le_refl _⟩, ⟨bk BK252⟩, ⟨bk BK253⟩, ⟨bk BK254⟩, ⟨bl HB⟩⟩
  ·rw [if_neg c7] at H
   have c7b0 : (a0_1.toList == ([49] : List UInt8)) = false := beq_eq_false_iff_ne.mpr c7
   have c7b1 : (a0_1.toList != ([49] : List UInt8)) = true := bne_iff_ne.mpr c7
   (first | rw [c7b0] | (simp only [i64_w, i32_w]; rw [c7b0]) | skip)
   have H' := Aside0.mk H
   clear H
   have hnb13 := NB252_253.out
   have hnc13 := NB253_252.out
   have hnb14 := NB252_254.out
   have hnc14 := NB254_252.out
   have hcz15_0 : w6.cell? ⟨gb252, 0, none⟩ = some (.string a0_0) := (blk_cell BK252.out 0).trans rfl
   have hcz15_1 : w6.cell? ⟨gb252, 1, none⟩ = some (.string a0_1) := (blk_cell BK252.out 1).trans rfl
   have hfz15_0 := blk_frozen BK252.out 0
   have hfz15_1 := blk_frozen BK252.out 1
   go_wp2
   go_meet
   case rel => exact ⟨_, (false), rs, H', ⟨by first | omega | exact Nat.le_refl _⟩, ⟨bk BK252⟩, ⟨bk BK253⟩, ⟨bk BK254⟩, ⟨bl HB⟩⟩
 case rest =>
  clear HC3
  try clear c1
  try clear p2
  try clear c6
  try clear c7
  try clear c7b0
  try clear c7b1
  try clear c8
  try clear c9
  try clear c11
  try clear c13
  try clear c14
  try clear hcz10_0
  try clear hcz10_1
  try clear hcz12_0
  try clear hcz12_1
  try clear hcz15_0
  try clear hcz15_1
  try clear hfz10_0
  try clear hfz10_1
  try clear hfz12_0
  try clear hfz12_1
  try clear hfz15_0
  try clear hfz15_1
  obtain ⟨kq, x18_2, rfl, HA, HJ2, BK252, BK253, BK254, HB⟩ := hcut
  cases kq with
  | zero => exact absurd HA.out (by simp [fraction_Add.j0])
  | succ kj2 =>
   have H := HA.out
   clear HA
   simp only [fraction_Add.j0] at H
   by_cases c16 : x18_2 = true
   ·subst c16
    have H1 : ((whole_Add.f kj2 a0_0 a1_0).bind fun t255 => (some (t255, (⟨#[49]⟩ : ByteArray)))) = some (r1, r2) := by rw [if_pos rfl] at H; exact H
    clear H
    have H := H1
    clear H1
    replace H := Option.bind_eq_some_iff.mp H
    obtain ⟨t255, A170, H⟩ := H
    replace H : (some (t255, (⟨#[49]⟩ : ByteArray))) = some (r1, r2) := H
    have A17 := Aside0.mk A170
    clear A170
    simp only [Option.some.injEq, Prod.mk.injEq] at H
    obtain ⟨rfl, rfl⟩ := H
    have hnb18 := NB252_253.out
    have hnc18 := NB253_252.out
    have hnb19 := NB252_254.out
    have hnc19 := NB254_252.out
    have hcz20_0 : wc.cell? ⟨gb252, 0, none⟩ = some (.string a0_0) := (blk_cell BK252.out 0).trans rfl
    have hcz20_1 : wc.cell? ⟨gb252, 1, none⟩ = some (.string a0_1) := (blk_cell BK252.out 1).trans rfl
    have hfz20_0 := blk_frozen BK252.out 0
    have hfz20_1 := blk_frozen BK252.out 1
    have hnb21 := NB253_254.out
    have hnc21 := NB254_253.out
    have hcz22_0 : wc.cell? ⟨gb253, 0, none⟩ = some (.string a1_0) := (blk_cell BK253.out 0).trans rfl
    have hcz22_1 : wc.cell? ⟨gb253, 1, none⟩ = some (.string a1_1) := (blk_cell BK253.out 1).trans rfl
    have hfz22_0 := blk_frozen BK253.out 0
    have hfz22_1 := blk_frozen BK253.out 1
    go_wp2_with (first | ((with_reducible refine gate_callee (f := 104) rfl ?_); refine goesM (some 23) Tryz.func104 #[.string a0_0, .string a1_0] ?_; (with_reducible refine (whole_Add.calls kj2 a0_0 a1_0 t255 _ ?side1 A17.out).mono ?_); (case side1 => exact Glob.below HG0.out (bl HB)); rintro e w23 ⟨rfl, hb⟩; refine ⟨_, rfl, ?_⟩; replace BK252 := Aside0.mk (blk_below (g := gb252) (o := .cells #[.string a0_0, .string a0_1] 30 (0, 0)) (bk BK252) hb); replace BK253 := Aside0.mk (blk_below (g := gb253) (o := .cells #[.string a1_0, .string a1_1] 30 (0, 0)) (bk BK253) hb); replace BK254 := Aside0.mk (blk_below (g := gb254) (o := .cells #[.string (⟨#[]⟩ : ByteArray), .string (⟨#[]⟩ : ByteArray)] 30 (0, 0)) (bk BK254) hb); replace HB := Aside0.mk (below_step (bl HB) hb); (try clear hb); (try clear hb2); (try clear hk); (try clear hi); have hcz24_0 : w23.cell? ⟨gb254, 0, none⟩ = some (.string (⟨#[]⟩ : ByteArray)) := (blk_cell BK254.out 0).trans rfl; have hcz24_1 : w23.cell? ⟨gb254, 1, none⟩ = some (.string (⟨#[]⟩ : ByteArray)) := (blk_cell BK254.out 1).trans rfl; have hfz24_0 := blk_frozen BK254.out 0; have hfz24_1 := blk_frozen BK254.out 1))
    refine bodyPost_ret (results_cell_row rfl _ _ gb254 30 #[.string t255, .string (⟨#[49]⟩ : ByteArray)] (0, 0) _ rfl (by (with_reducible repeat (first | refine blk_drewN ?_ _ | refine blk_drew ?_ | refine blk_alloc ?_ _)); refine blk_put (cs := #[.string t255, .string (⟨#[]⟩ : ByteArray)]) ?_ 1 _ rfl; (with_reducible repeat (first | refine blk_drewN ?_ _ | refine blk_drew ?_ | refine blk_alloc ?_ _)); refine blk_put (cs := #[.string (⟨#[]⟩ : ByteArray), .string (⟨#[]⟩ : ByteArray)]) ?_ 0 _ rfl; (with_reducible repeat (first | refine blk_drewN ?_ _ | refine blk_drew ?_ | refine blk_alloc ?_ _)); exact BK254.out) Tryz.underlying30 rfl (by kernel_rfl)) rfl ?_
    exact ⟨rl, bl HB⟩
   ·replace c16 := Bool.eq_false_iff.mpr c16
    subst c16
    have H1 : ((fraction_both.f a0_0 a0_1).bind fun bt256 => (fraction_Add.j1 kj2 bt256.1 bt256.2.1 bt256.2.2 a0_0 a0_1 a1_0 a1_1)) = some (r1, r2) := by rw [if_neg (show ¬ (false = true) by decide)] at H; exact H
    clear H
    have H := H1
    clear H1
    have HC25 := Aside0.mk H
    clear H
    go_upto_region 3 with (fail)
    go_cut [5, 6, 7] (fun v5 v6 v7 wc => ∃ (kq : Nat) (x5_24 : Int) (x6_24 : Int) (x7_24 : Bool), v5 = .int .i64 x5_24 ∧ v6 = .int .i64 x6_24 ∧ v7 = .bool x7_24 ∧ Aside0 (fraction_Add.j1 kq x5_24 x6_24 x7_24 a0_0 a0_1 a1_0 a1_1 = some (r1, r2)) ∧ Aside0 (kq ≤ kj2) ∧ Aside0 (wc.heap[gb252]? = some (.cells #[.string a0_0, .string a0_1] 30 (0, 0))) ∧ Aside0 (wc.heap[gb253]? = some (.cells #[.string a1_0, .string a1_1] 30 (0, 0))) ∧ Aside0 (wc.heap[gb254]? = some (.cells #[.string (⟨#[]⟩ : ByteArray), .string (⟨#[]⟩ : ByteArray)] 30 (0, 0))) ∧ Aside0 (Below w.heap.size w wc))
    case first =>
     have H := HC25.out
     clear HC25
     replace H := Option.bind_eq_some_iff.mp H
     obtain ⟨⟨t256, t257, t258⟩, A260, H⟩ := H
     replace H : (fraction_Add.j1 kj2 t256 t257 t258 a0_0 a0_1 a1_0 a1_1) = some (r1, r2) := H
     have A26 := Aside0.mk A260
     clear A260
     have H' := Aside0.mk H
     clear H
     have hnb27 := NB252_253.out
     have hnc27 := NB253_252.out
     have hnb28 := NB252_254.out
     have hnc28 := NB254_252.out
     have hcz29_0 : wc.cell? ⟨gb252, 0, none⟩ = some (.string a0_0) := (blk_cell BK252.out 0).trans rfl
     have hcz29_1 : wc.cell? ⟨gb252, 1, none⟩ = some (.string a0_1) := (blk_cell BK252.out 1).trans rfl
     have hfz29_0 := blk_frozen BK252.out 0
     have hfz29_1 := blk_frozen BK252.out 1
     go_wp2_with (first | ((with_reducible refine gate_callee (f := 79) rfl ?_); refine goesM (some 27) Tryz.func79 #[.agg #[.string a0_0, .string a0_1]] ?_; (with_reducible refine (fraction_both.calls a0_0 a0_1 t256 t257 t258 _ ?side1 A26.out).mono ?_); (case side1 => exact Glob.below HG0.out (bl HB)); rintro e w30 ⟨rfl, hb⟩; refine ⟨_, rfl, ?_⟩; replace BK252 := Aside0.mk (blk_below (g := gb252) (o := .cells #[.string a0_0, .string a0_1] 30 (0, 0)) (bk BK252) hb); replace BK253 := Aside0.mk (blk_below (g := gb253) (o := .cells #[.string a1_0, .string a1_1] 30 (0, 0)) (bk BK253) hb); replace BK254 := Aside0.mk (blk_below (g := gb254) (o := .cells #[.string (⟨#[]⟩ : ByteArray), .string (⟨#[]⟩ : ByteArray)] 30 (0, 0)) (bk BK254) hb); replace HB := Aside0.mk (below_step (bl HB) hb); (try clear hb); (try clear hb2); (try clear hk); (try clear hi)))
     go_meet
     case rel => exact ⟨_, (t256), (t257), (t258), rs, rs, rs, H', ⟨by have := HJ2.out; first | omega | exact Nat.le_refl _⟩, ⟨bk BK252⟩, ⟨bk BK253⟩, ⟨bk BK254⟩, ⟨bl HB⟩⟩
    case rest =>
     clear HC25
     try clear c1
     try clear c2
     try clear p2
     try clear c6
     try clear c7
     try clear c7b0
     try clear c7b1
     try clear c8
     try clear c9
     try clear c10
     try clear c11
     try clear c13
     try clear c14
     try clear c16
     try clear c18
     try clear c19
     try clear c21
     try clear c27
     try clear c28
     try clear hcz10_0
     try clear hcz10_1
     try clear hcz12_0
     try clear hcz12_1
     try clear hcz15_0
     try clear hcz15_1
     try clear hcz20_0
     try clear hcz20_1
     try clear hcz22_0
     try clear hcz22_1
     try clear hcz24_0
     try clear hcz24_1
     try clear hcz29_0
     try clear hcz29_1
     try clear hfz10_0
     try clear hfz10_1
     try clear hfz12_0
     try clear hfz12_1
     try clear hfz15_0
     try clear hfz15_1
     try clear hfz20_0
     try clear hfz20_1
     try clear hfz22_0
     try clear hfz22_1
     try clear hfz24_0
     try clear hfz24_1
     try clear hfz29_0
     try clear hfz29_1
     try clear p2
     obtain ⟨kq, x5_24, x6_24, x7_24, rfl, rfl, rfl, HA, HJ24, BK252, BK253, BK254, HB⟩ := hcut
     cases kq with
     | zero => exact absurd HA.out (by simp [fraction_Add.j1])
     | succ kj24 =>
      have H := HA.out
      clear HA
      simp only [fraction_Add.j1] at H
      have HC31 := Aside0.mk H
      clear H
      go_upto_if 31 with (fail)
      go_cut [] (fun wc => ∃ (kq : Nat) (x255000_30 : ByteArray) (x255001_30 : ByteArray), Aside0 (fraction_Add.j2 kq a0_0 a0_1 a1_0 a1_1 = some (r1, r2)) ∧ Aside0 (kq ≤ kj24) ∧ Aside0 (wc.heap[gb252]? = some (.cells #[.string a0_0, .string a0_1] 30 (0, 0))) ∧ Aside0 (wc.heap[gb253]? = some (.cells #[.string a1_0, .string a1_1] 30 (0, 0))) ∧ Aside0 (wc.heap[gb254]? = some (.cells #[.string x255000_30, .string x255001_30] 30 (0, 0))) ∧ Aside0 (Below w.heap.size w wc))
      case first =>
       have H := HC31.out
       clear HC31
       by_cases c32 : x7_24 = true
       ·subst c32
        have H1 : ((fraction_both.f a1_0 a1_1).bind fun bt259 => (if bt259.2.2 = true then ((fraction_of.f kj24 (wrap64 ((wrap64 (x5_24 * bt259.2.1)) + (wrap64 (bt259.1 * x6_24)))) (wrap64 (x6_24 * bt259.2.1))).bind fun bt262 => (some (bt262.1, bt262.2))) else (fraction_Add.j2 kj24 a0_0 a0_1 a1_0 a1_1))) = some (r1, r2) := by rw [if_pos rfl] at H; exact H
        clear H
        have H := H1
        clear H1
        replace H := Option.bind_eq_some_iff.mp H
        obtain ⟨⟨t259, t260, t261⟩, A330, H⟩ := H
        replace H : (if t261 = true then ((fraction_of.f kj24 (wrap64 ((wrap64 (x5_24 * t260)) + (wrap64 (t259 * x6_24)))) (wrap64 (x6_24 * t260))).bind fun bt262 => (some (bt262.1, bt262.2))) else (fraction_Add.j2 kj24 a0_0 a0_1 a1_0 a1_1)) = some (r1, r2) := H
        have A33 := Aside0.mk A330
        clear A330
        by_cases c34 : t261 = true
        ·subst c34
         have H1 : ((fraction_of.f kj24 (wrap64 ((wrap64 (x5_24 * t260)) + (wrap64 (t259 * x6_24)))) (wrap64 (x6_24 * t260))).bind fun bt262 => (some (bt262.1, bt262.2))) = some (r1, r2) := by rw [if_pos rfl] at H; exact H
         clear H
         have H := H1
         clear H1
         replace H := Option.bind_eq_some_iff.mp H
         obtain ⟨⟨t262, t263⟩, A350, H⟩ := H
         replace H : (some (t262, t263)) = some (r1, r2) := H
         have A35 := Aside0.mk A350
         clear A350
         simp only [Option.some.injEq, Prod.mk.injEq] at H
         obtain ⟨rfl, rfl⟩ := H
         have hnb36 := NB253_252.out
         have hnc36 := NB252_253.out
         have hnb37 := NB253_254.out
         have hnc37 := NB254_253.out
         have hcz38_0 : wc.cell? ⟨gb253, 0, none⟩ = some (.string a1_0) := (blk_cell BK253.out 0).trans rfl
         have hcz38_1 : wc.cell? ⟨gb253, 1, none⟩ = some (.string a1_1) := (blk_cell BK253.out 1).trans rfl
         have hfz38_0 := blk_frozen BK253.out 0
         have hfz38_1 := blk_frozen BK253.out 1
         go_wp2_with (first | ((with_reducible refine gate_callee (f := 79) rfl ?_); refine goesM (some 34) Tryz.func79 #[.agg #[.string a1_0, .string a1_1]] ?_; (with_reducible refine (fraction_both.calls a1_0 a1_1 t259 t260 true _ ?side1 A33.out).mono ?_); (case side1 => exact Glob.below HG0.out (bl HB)); rintro e w39 ⟨rfl, hb⟩; refine ⟨_, rfl, ?_⟩; replace BK252 := Aside0.mk (blk_below (g := gb252) (o := .cells #[.string a0_0, .string a0_1] 30 (0, 0)) (bk BK252) hb); replace BK253 := Aside0.mk (blk_below (g := gb253) (o := .cells #[.string a1_0, .string a1_1] 30 (0, 0)) (bk BK253) hb); replace BK254 := Aside0.mk (blk_below (g := gb254) (o := .cells #[.string (⟨#[]⟩ : ByteArray), .string (⟨#[]⟩ : ByteArray)] 30 (0, 0)) (bk BK254) hb); replace HB := Aside0.mk (below_step (bl HB) hb); (try clear hb); (try clear hb2); (try clear hk); (try clear hi)) | ((with_reducible refine gate_callee (f := 80) rfl ?_); refine goesM (some 49) Tryz.func80 #[.int .i64 (wrap64 ((wrap64 (x5_24 * t260)) + (wrap64 (t259 * x6_24)))), .int .i64 (wrap64 (x6_24 * t260))] ?_; (with_reducible refine (fraction_of.calls kj24 (wrap64 ((wrap64 (x5_24 * t260)) + (wrap64 (t259 * x6_24)))) (wrap64 (x6_24 * t260)) t262 t263 _ ?side1 A35.out).mono ?_); (case side1 => exact Glob.below HG0.out (bl HB)); rintro e w40 ⟨rfl, hb⟩; refine ⟨_, rfl, ?_⟩; replace BK252 := Aside0.mk (blk_below (g := gb252) (o := .cells #[.string a0_0, .string a0_1] 30 (0, 0)) (bk BK252) hb); replace BK253 := Aside0.mk (blk_below (g := gb253) (o := .cells #[.string a1_0, .string a1_1] 30 (0, 0)) (bk BK253) hb); replace BK254 := Aside0.mk (blk_below (g := gb254) (o := .cells #[.string (⟨#[]⟩ : ByteArray), .string (⟨#[]⟩ : ByteArray)] 30 (0, 0)) (bk BK254) hb); replace HB := Aside0.mk (below_step (bl HB) hb); (try clear hb); (try clear hb2); (try clear hk); (try clear hi); have hnb41 := NB254_252.out; have hnc41 := NB252_254.out; have hcz42_0 : w40.cell? ⟨gb254, 0, none⟩ = some (.string (⟨#[]⟩ : ByteArray)) := (blk_cell BK254.out 0).trans rfl; have hcz42_1 : w40.cell? ⟨gb254, 1, none⟩ = some (.string (⟨#[]⟩ : ByteArray)) := (blk_cell BK254.out 1).trans rfl; have hfz42_0 := blk_frozen BK254.out 0; have hfz42_1 := blk_frozen BK254.out 1))
         refine bodyPost_ret (results_cell_row rfl _ _ gb254 30 #[.string t262, .string t263] (0, 0) _ rfl (by (with_reducible repeat (first | refine blk_drewN ?_ _ | refine blk_drew ?_ | refine blk_alloc ?_ _)); refine blk_put (cs := #[.string t262, .string (⟨#[]⟩ : ByteArray)]) ?_ 1 _ rfl; (with_reducible repeat (first | refine blk_drewN ?_ _ | refine blk_drew ?_ | refine blk_alloc ?_ _)); refine blk_put (cs := #[.string (⟨#[]⟩ : ByteArray), .string (⟨#[]⟩ : ByteArray)]) ?_ 0 _ rfl; (with_reducible repeat (first | refine blk_drewN ?_ _ | refine blk_drew ?_ | refine blk_alloc ?_ _)); exact BK254.out) Tryz.underlying30 rfl (by kernel_rfl)) rfl ?_
         exact ⟨rl, bl HB⟩
        ·replace c34 := Bool.eq_false_iff.mpr c34
         subst c34
         have H1 : (fraction_Add.j2 kj24 a0_0 a0_1 a1_0 a1_1) = some (r1, r2) := by rw [if_neg (show ¬ (false = true) by decide)] at H; exact H
         clear H
         have H := H1
         clear H1
         have H' := Aside0.mk H
         clear H
         have hnb43 := NB253_252.out
         have hnc43 := NB252_253.out
         have hnb44 := NB253_254.out
         have hnc44 := NB254_253.out
         have hcz45_0 : wc.cell? ⟨gb253, 0, none⟩ = some (.string a1_0) := (blk_cell BK253.out 0).trans rfl
         have hcz45_1 : wc.cell? ⟨gb253, 1, none⟩ = some (.string a1_1) := (blk_cell BK253.out 1).trans rfl
         have hfz45_0 := blk_frozen BK253.out 0
         have hfz45_1 := blk_frozen BK253.out 1
         go_wp2_with (first | ((with_reducible refine gate_callee (f := 79) rfl ?_); refine goesM (some 34) Tryz.func79 #[.agg #[.string a1_0, .string a1_1]] ?_; (with_reducible refine (fraction_both.calls a1_0 a1_1 t259 t260 false _ ?side1 A33.out).mono ?_); (case side1 => exact Glob.below HG0.out (bl HB)); rintro e w46 ⟨rfl, hb⟩; refine ⟨_, rfl, ?_⟩; replace BK252 := Aside0.mk (blk_below (g := gb252) (o := .cells #[.string a0_0, .string a0_1] 30 (0, 0)) (bk BK252) hb); replace BK253 := Aside0.mk (blk_below (g := gb253) (o := .cells #[.string a1_0, .string a1_1] 30 (0, 0)) (bk BK253) hb); replace BK254 := Aside0.mk (blk_below (g := gb254) (o := .cells #[.string (⟨#[]⟩ : ByteArray), .string (⟨#[]⟩ : ByteArray)] 30 (0, 0)) (bk BK254) hb); replace HB := Aside0.mk (below_step (bl HB) hb); (try clear hb); (try clear hb2); (try clear hk); (try clear hi)))
         go_meet
         case rel => exact ⟨_, ((⟨#[]⟩ : ByteArray)), ((⟨#[]⟩ : ByteArray)), H', ⟨by have := HJ2.out; have := HJ24.out; first | omega | exact Nat.le_refl _⟩, ⟨bk BK252⟩, ⟨bk BK253⟩, ⟨bk BK254⟩, ⟨bl HB⟩⟩
       ·replace c32 := Bool.eq_false_iff.mpr c32
        subst c32
        have H1 : (fraction_Add.j2 kj24 a0_0 a0_1 a1_0 a1_1) = some (r1, r2) := by rw [if_neg (show ¬ (false = true) by decide)] at H; exact H
        clear H
        have H := H1
        clear H1
        have H' := Aside0.mk H
        clear H
        go_wp2
        go_meet
        case rel => exact ⟨_, ((⟨#[]⟩ : ByteArray)), ((⟨#[]⟩ : ByteArray)), H', ⟨by have := HJ2.out; have := HJ24.out; first | omega | exact Nat.le_refl _⟩, ⟨bk BK252⟩, ⟨bk BK253⟩, ⟨bk BK254⟩, ⟨bl HB⟩⟩
      case rest =>
       clear HC31
       try clear c1
       try clear c2
       try clear p2
       try clear c3
       try clear c4
       try clear c6
       try clear p6
       try clear c7
       try clear c7b0
       try clear c7b1
       try clear c8
       try clear c9
       try clear c10
       try clear c11
       try clear c13
       try clear c14
       try clear c16
       try clear c18
       try clear c19
       try clear c21
       try clear c27
       try clear c28
       try clear c32
       try clear c34
       try clear c36
       try clear c37
       try clear c41
       try clear c43
       try clear c44
       try clear hcz10_0
       try clear hcz10_1
       try clear hcz12_0
       try clear hcz12_1
       try clear hcz15_0
       try clear hcz15_1
       try clear hcz20_0
       try clear hcz20_1
       try clear hcz22_0
       try clear hcz22_1
       try clear hcz24_0
       try clear hcz24_1
       try clear hcz29_0
       try clear hcz29_1
       try clear hcz38_0
       try clear hcz38_1
       try clear hcz42_0
       try clear hcz42_1
       try clear hcz45_0
       try clear hcz45_1
       try clear hfz10_0
       try clear hfz10_1
       try clear hfz12_0
       try clear hfz12_1
       try clear hfz15_0
       try clear hfz15_1
       try clear hfz20_0
       try clear hfz20_1
       try clear hfz22_0
       try clear hfz22_1
       try clear hfz24_0
       try clear hfz24_1
       try clear hfz29_0
       try clear hfz29_1
       try clear hfz38_0
       try clear hfz38_1
       try clear hfz42_0
       try clear hfz42_1
       try clear hfz45_0
       try clear hfz45_1
       try clear p2
       obtain ⟨kq, x255000_30, x255001_30, HA, HJ30, BK252, BK253, BK254, HB⟩ := hcut
       cases kq with
       | zero => exact absurd HA.out (by simp [fraction_Add.j2])
       | succ kj30 =>
        have H := HA.out
        clear HA
        simp only [fraction_Add.j2] at H
        replace H := Option.bind_eq_some_iff.mp H
        obtain ⟨t264, A470, H⟩ := H
        replace H : ((whole_Mul.f kj30 a1_0 a0_1).bind fun t265 => ((whole_Add.f kj30 t264 t265).bind fun t266 => ((whole_Mul.f kj30 a0_1 a1_1).bind fun t267 => ((fraction_lowest.f kj30 t266 t267).bind fun bt268 => (some (bt268.1, bt268.2)))))) = some (r1, r2) := H
        have A47 := Aside0.mk A470
        clear A470
        replace H := Option.bind_eq_some_iff.mp H
        obtain ⟨t265, A480, H⟩ := H
        replace H : ((whole_Add.f kj30 t264 t265).bind fun t266 => ((whole_Mul.f kj30 a0_1 a1_1).bind fun t267 => ((fraction_lowest.f kj30 t266 t267).bind fun bt268 => (some (bt268.1, bt268.2))))) = some (r1, r2) := H
        have A48 := Aside0.mk A480
        clear A480
        replace H := Option.bind_eq_some_iff.mp H
        obtain ⟨t266, A490, H⟩ := H
        replace H : ((whole_Mul.f kj30 a0_1 a1_1).bind fun t267 => ((fraction_lowest.f kj30 t266 t267).bind fun bt268 => (some (bt268.1, bt268.2)))) = some (r1, r2) := H
        have A49 := Aside0.mk A490
        clear A490
        replace H := Option.bind_eq_some_iff.mp H
        obtain ⟨t267, A500, H⟩ := H
        replace H : ((fraction_lowest.f kj30 t266 t267).bind fun bt268 => (some (bt268.1, bt268.2))) = some (r1, r2) := H
        have A50 := Aside0.mk A500
        clear A500
        replace H := Option.bind_eq_some_iff.mp H
        obtain ⟨⟨t268, t269⟩, A510, H⟩ := H
        replace H : (some (t268, t269)) = some (r1, r2) := H
        have A51 := Aside0.mk A510
        clear A510
        simp only [Option.some.injEq, Prod.mk.injEq] at H
        obtain ⟨rfl, rfl⟩ := H
        try go_wp2
        replace BK252 := Aside0.mk (blk_drew BK252.out)
        replace BK253 := Aside0.mk (blk_drew BK253.out)
        replace BK254 := Aside0.mk (blk_drew BK254.out)
        replace HB := Aside0.mk (below_drew1 HB.out)
        refine start_ (n := 18) (S := fun w' => w'.cell? ⟨gb252, 0, none⟩ = some (.string a0_0) ∧ w'.cell? ⟨gb252, 1, none⟩ = some (.string a0_1) ∧ w'.cell? ⟨gb253, 0, none⟩ = some (.string a1_0) ∧ w'.cell? ⟨gb253, 1, none⟩ = some (.string a1_1)) (ds := []) #[false, false, false, false, false, false, false, false, false, false, false, false, false, false, false, false, false, false] (by kernel_rfl) rfl rfl ⟨(blk_cell BK252.out 0).trans rfl, (blk_cell BK252.out 1).trans rfl, (blk_cell BK253.out 0).trans rfl, (blk_cell BK253.out 1).trans rfl⟩ (fun hHeld => ?_); refine with_tabW fraction_Add.tab8 fraction_Add.bits8 (fun HT_ HW_ => ?_)
        generalize wc.drew = w52 at BK252 BK253 BK254 HB hHeld ⊢
        refine purM (i := 0) (N := some 50) #[true, false, false, false, false, false, false, false, false, false, false, false, false, false, false, false, false, false] ?_
        refine purM (i := 2) (N := some 52) #[true, false, true, false, false, false, false, false, false, false, false, false, false, false, false, false, false, false] ?_
        refine purM (i := 5) (N := some 55) #[true, false, true, false, false, true, false, false, false, false, false, false, false, false, false, false, false, false] ?_
        refine purM (i := 7) (N := some 57) #[true, false, true, false, false, true, false, true, false, false, false, false, false, false, false, false, false, false] ?_
        refine purM (i := 11) (N := some 61) #[true, false, true, false, false, true, false, true, false, false, false, true, false, false, false, false, false, false] ?_
        refine purM (i := 13) (N := some 63) #[true, false, true, false, false, true, false, true, false, false, false, true, false, true, false, false, false, false] ?_
        refine take_ (i := 1) (N := some 51) (v := ?_) (a' := ?_) #[true, true, true, false, false, true, false, true, false, false, false, true, false, true, false, false, false, false] rfl rfl (take_ofW HT_.out HW_.out (by kernel_rfl)) (fun _ _ _ h => h) (Or.inl ⟨by rfl, ?_⟩) hHeld ?_ ?_
        rotate_left
        ·rintro w' ⟨s0, s1, s2, s3⟩
         go_simp
         with_reducible rfl
        rotate_left
        ·simp only [Act.put, List.setIfInBounds_toArray, List.set_cons_zero, List.set_cons_succ, i64_w, i32_w]
         rfl
        refine take_ (i := 3) (N := some 53) (v := ?_) (a' := ?_) #[true, true, true, true, false, true, false, true, false, false, false, true, false, true, false, false, false, false] rfl rfl (take_ofW HT_.out HW_.out (by kernel_rfl)) (fun _ _ _ h => h) (Or.inl ⟨by rfl, ?_⟩) hHeld ?_ ?_
        rotate_left
        ·rintro w' ⟨s0, s1, s2, s3⟩
         go_simp
         with_reducible rfl
        rotate_left
        ·simp only [Act.put, List.setIfInBounds_toArray, List.set_cons_zero, List.set_cons_succ, i64_w, i32_w]
         rfl
        refine take_ (i := 6) (N := some 56) (v := ?_) (a' := ?_) #[true, true, true, true, false, true, true, true, false, false, false, true, false, true, false, false, false, false] rfl rfl (take_ofW HT_.out HW_.out (by kernel_rfl)) (fun _ _ _ h => h) (Or.inl ⟨by rfl, ?_⟩) hHeld ?_ ?_
        rotate_left
        ·rintro w' ⟨s0, s1, s2, s3⟩
         go_simp
         with_reducible rfl
        rotate_left
        ·simp only [Act.put, List.setIfInBounds_toArray, List.set_cons_zero, List.set_cons_succ, i64_w, i32_w]
         rfl
        refine take_ (i := 8) (N := some 58) (v := ?_) (a' := ?_) #[true, true, true, true, false, true, true, true, true, false, false, true, false, true, false, false, false, false] rfl rfl (take_ofW HT_.out HW_.out (by kernel_rfl)) (fun _ _ _ h => h) (Or.inl ⟨by rfl, ?_⟩) hHeld ?_ ?_
        rotate_left
        ·rintro w' ⟨s0, s1, s2, s3⟩
         go_simp
         with_reducible rfl
        rotate_left
        ·simp only [Act.put, List.setIfInBounds_toArray, List.set_cons_zero, List.set_cons_succ, i64_w, i32_w]
         rfl
        refine take_ (i := 12) (N := some 62) (v := ?_) (a' := ?_) #[true, true, true, true, false, true, true, true, true, false, false, true, true, true, false, false, false, false] rfl rfl (take_ofW HT_.out HW_.out (by kernel_rfl)) (fun _ _ _ h => h) (Or.inl ⟨by rfl, ?_⟩) hHeld ?_ ?_
        rotate_left
        ·rintro w' ⟨s0, s1, s2, s3⟩
         go_simp
         with_reducible rfl
        rotate_left
        ·simp only [Act.put, List.setIfInBounds_toArray, List.set_cons_zero, List.set_cons_succ, i64_w, i32_w]
         rfl
        refine take_ (i := 14) (N := some 64) (v := ?_) (a' := ?_) #[true, true, true, true, false, true, true, true, true, false, false, true, true, true, true, false, false, false] rfl rfl (take_ofW HT_.out HW_.out (by kernel_rfl)) (fun _ _ _ h => h) (Or.inl ⟨by rfl, ?_⟩) hHeld ?_ ?_
        rotate_left
        ·rintro w' ⟨s0, s1, s2, s3⟩
         go_simp
         with_reducible rfl
        rotate_left
        ·simp only [Act.put, List.setIfInBounds_toArray, List.set_cons_zero, List.set_cons_succ, i64_w, i32_w]
         rfl
        refine one_ (i := 4) (N := some 54) #[true, true, true, true, true, true, true, true, true, false, false, true, true, true, true, false, false, false] rfl rfl (one_of HT_.out (by kernel_rfl)) (by decide) (fun K hK => ?_)
        refine goesR Tryz.func82 #[.string a0_0, .string a1_1] ?_
        with_reducible refine (whole_Mul.calls kj30 a0_0 a1_1 t264 _ ?side1 A47.out).mono ?_
        (case side1 => exact Glob.below HG0.out (bl HB))
        rintro e w53 ⟨rfl, hb⟩
        refine ⟨_, rfl, ?_⟩
        replace BK252 := Aside0.mk (blk_below (g := gb252) (o := .cells #[.string a0_0, .string a0_1] 30 (0, 0)) (bk BK252) hb)
        replace BK253 := Aside0.mk (blk_below (g := gb253) (o := .cells #[.string a1_0, .string a1_1] 30 (0, 0)) (bk BK253) hb)
        replace BK254 := Aside0.mk (blk_below (g := gb254) (o := .cells #[.string x255000_30, .string x255001_30] 30 (0, 0)) (bk BK254) hb)
        replace HB := Aside0.mk (below_step (bl HB) hb)
        (try clear hb)
        (try clear hb2)
        (try clear hk)
        (try clear hi)
        refine hK.out _ _ ⟨(blk_cell BK252.out 0).trans rfl, (blk_cell BK252.out 1).trans rfl, (blk_cell BK253.out 0).trans rfl, (blk_cell BK253.out 1).trans rfl⟩ (fun hHeld => ?_)
        clear hK K
        refine norm_ (a' := ?_) ?_ ?_
        rotate_left
        ·show Act.put _ (some 54) _ = _
         simp only [Act.put, List.setIfInBounds_toArray, List.set_cons_zero, List.set_cons_succ, i64_w, i32_w]
         rfl
        refine one_ (i := 9) (N := some 59) #[true, true, true, true, true, true, true, true, true, true, false, true, true, true, true, false, false, false] rfl rfl (one_of HT_.out (by kernel_rfl)) (by decide) (fun K hK => ?_)
        refine goesR Tryz.func82 #[.string a1_0, .string a0_1] ?_
        with_reducible refine (whole_Mul.calls kj30 a1_0 a0_1 t265 _ ?side1 A48.out).mono ?_
        (case side1 => exact Glob.below HG0.out (bl HB))
        rintro e w54 ⟨rfl, hb⟩
        refine ⟨_, rfl, ?_⟩
        replace BK252 := Aside0.mk (blk_below (g := gb252) (o := .cells #[.string a0_0, .string a0_1] 30 (0, 0)) (bk BK252) hb)
        replace BK253 := Aside0.mk (blk_below (g := gb253) (o := .cells #[.string a1_0, .string a1_1] 30 (0, 0)) (bk BK253) hb)
        replace BK254 := Aside0.mk (blk_below (g := gb254) (o := .cells #[.string x255000_30, .string x255001_30] 30 (0, 0)) (bk BK254) hb)
        replace HB := Aside0.mk (below_step (bl HB) hb)
        (try clear hb)
        (try clear hb2)
        (try clear hk)
        (try clear hi)
        refine hK.out _ _ ⟨(blk_cell BK252.out 0).trans rfl, (blk_cell BK252.out 1).trans rfl, (blk_cell BK253.out 0).trans rfl, (blk_cell BK253.out 1).trans rfl⟩ (fun hHeld => ?_)
        clear hK K
        refine norm_ (a' := ?_) ?_ ?_
        rotate_left
        ·show Act.put _ (some 59) _ = _
         simp only [Act.put, List.setIfInBounds_toArray, List.set_cons_zero, List.set_cons_succ, i64_w, i32_w]
         rfl
        refine one_ (i := 10) (N := some 60) #[true, true, true, true, true, true, true, true, true, true, true, true, true, true, true, false, false, false] rfl rfl (one_of HT_.out (by kernel_rfl)) (by decide) (fun K hK => ?_)
        refine goesR Tryz.func104 #[.string t264, .string t265] ?_
        with_reducible refine (whole_Add.calls kj30 t264 t265 t266 _ ?side1 A49.out).mono ?_
        (case side1 => exact Glob.below HG0.out (bl HB))
        rintro e w55 ⟨rfl, hb⟩
        refine ⟨_, rfl, ?_⟩
        replace BK252 := Aside0.mk (blk_below (g := gb252) (o := .cells #[.string a0_0, .string a0_1] 30 (0, 0)) (bk BK252) hb)
        replace BK253 := Aside0.mk (blk_below (g := gb253) (o := .cells #[.string a1_0, .string a1_1] 30 (0, 0)) (bk BK253) hb)
        replace BK254 := Aside0.mk (blk_below (g := gb254) (o := .cells #[.string x255000_30, .string x255001_30] 30 (0, 0)) (bk BK254) hb)
        replace HB := Aside0.mk (below_step (bl HB) hb)
        (try clear hb)
        (try clear hb2)
        (try clear hk)
        (try clear hi)
        refine hK.out _ _ ⟨(blk_cell BK252.out 0).trans rfl, (blk_cell BK252.out 1).trans rfl, (blk_cell BK253.out 0).trans rfl, (blk_cell BK253.out 1).trans rfl⟩ (fun hHeld => ?_)
        clear hK K
        refine norm_ (a' := ?_) ?_ ?_
        rotate_left
        ·show Act.put _ (some 60) _ = _
         simp only [Act.put, List.setIfInBounds_toArray, List.set_cons_zero, List.set_cons_succ, i64_w, i32_w]
         rfl
        refine one_ (i := 15) (N := some 65) #[true, true, true, true, true, true, true, true, true, true, true, true, true, true, true, true, false, false] rfl rfl (one_of HT_.out (by kernel_rfl)) (by decide) (fun K hK => ?_)
        refine goesR Tryz.func82 #[.string a0_1, .string a1_1] ?_
        with_reducible refine (whole_Mul.calls kj30 a0_1 a1_1 t267 _ ?side1 A50.out).mono ?_
        (case side1 => exact Glob.below HG0.out (bl HB))
        rintro e w56 ⟨rfl, hb⟩
        refine ⟨_, rfl, ?_⟩
        replace BK252 := Aside0.mk (blk_below (g := gb252) (o := .cells #[.string a0_0, .string a0_1] 30 (0, 0)) (bk BK252) hb)
        replace BK253 := Aside0.mk (blk_below (g := gb253) (o := .cells #[.string a1_0, .string a1_1] 30 (0, 0)) (bk BK253) hb)
        replace BK254 := Aside0.mk (blk_below (g := gb254) (o := .cells #[.string x255000_30, .string x255001_30] 30 (0, 0)) (bk BK254) hb)
        replace HB := Aside0.mk (below_step (bl HB) hb)
        (try clear hb)
        (try clear hb2)
        (try clear hk)
        (try clear hi)
        refine hK.out _ _ ⟨(blk_cell BK252.out 0).trans rfl, (blk_cell BK252.out 1).trans rfl, (blk_cell BK253.out 0).trans rfl, (blk_cell BK253.out 1).trans rfl⟩ (fun hHeld => ?_)
        clear hK K
        refine norm_ (a' := ?_) ?_ ?_
        rotate_left
        ·show Act.put _ (some 65) _ = _
         simp only [Act.put, List.setIfInBounds_toArray, List.set_cons_zero, List.set_cons_succ, i64_w, i32_w]
         rfl
        refine one_ (i := 16) (N := some 66) #[true, true, true, true, true, true, true, true, true, true, true, true, true, true, true, true, true, false] rfl rfl (one_of HT_.out (by kernel_rfl)) (by decide) (fun K hK => ?_)
        refine goesR Tryz.func81 #[.string t266, .string t267] ?_
        with_reducible refine (fraction_lowest.calls kj30 t266 t267 t268 t269 _ ?side1 A51.out).mono ?_
        (case side1 => exact Glob.below HG0.out (bl HB))
        rintro e w57 ⟨rfl, hb⟩
        refine ⟨_, rfl, ?_⟩
        replace BK252 := Aside0.mk (blk_below (g := gb252) (o := .cells #[.string a0_0, .string a0_1] 30 (0, 0)) (bk BK252) hb)
        replace BK253 := Aside0.mk (blk_below (g := gb253) (o := .cells #[.string a1_0, .string a1_1] 30 (0, 0)) (bk BK253) hb)
        replace BK254 := Aside0.mk (blk_below (g := gb254) (o := .cells #[.string x255000_30, .string x255001_30] 30 (0, 0)) (bk BK254) hb)
        replace HB := Aside0.mk (below_step (bl HB) hb)
        (try clear hb)
        (try clear hb2)
        (try clear hk)
        (try clear hi)
        refine hK.out _ _ ⟨(blk_cell BK252.out 0).trans rfl, (blk_cell BK252.out 1).trans rfl, (blk_cell BK253.out 0).trans rfl, (blk_cell BK253.out 1).trans rfl⟩ (fun hHeld => ?_)
        clear hK K
        refine norm_ (a' := ?_) ?_ ?_
        rotate_left
        ·show Act.put _ (some 66) _ = _
         simp only [Act.put, List.setIfInBounds_toArray, List.set_cons_zero, List.set_cons_succ, i64_w, i32_w]
         rfl
        refine one_ (i := 17) (N := none) #[true, true, true, true, true, true, true, true, true, true, true, true, true, true, true, true, true, true] rfl rfl (one_of HT_.out (by kernel_rfl)) (by decide) (fun K hK => ?_)
        have hs58 : w57.cell? ⟨gb254, 0, none⟩ = some (.string x255000_30) := (blk_cell BK254.out 0).trans rfl
        have hfs58 := blk_frozen BK254.out 0
        have hns58_0 := NB252_254.out
        have hns58_1 := NB253_254.out
        have hms58_0 := NB254_252.out
        have hms58_1 := NB254_253.out
        have hs59 : w57.cell? ⟨gb254, 1, none⟩ = some (.string x255001_30) := (blk_cell BK254.out 1).trans rfl
        have hfs59 := blk_frozen BK254.out 1
        have hns59_0 := NB252_254.out
        have hns59_1 := NB253_254.out
        have hms59_0 := NB254_252.out
        have hms59_1 := NB254_253.out
        refine skip_ (w1 := ?_) (by rfl) rfl ?_ ?_
        rotate_left
        ·go_simp
         rfl
        refine hK.out _ _ ⟨((cell_far (p := ⟨gb254, _, none⟩) NB252_254.out _).trans (((cell_far (p := ⟨gb254, _, none⟩) NB252_254.out _).trans (hHeld.1)))), ((cell_far (p := ⟨gb254, _, none⟩) NB252_254.out _).trans (((cell_far (p := ⟨gb254, _, none⟩) NB252_254.out _).trans (hHeld.2.1)))), ((cell_far (p := ⟨gb254, _, none⟩) NB253_254.out _).trans (((cell_far (p := ⟨gb254, _, none⟩) NB253_254.out _).trans (hHeld.2.2.1)))), ((cell_far (p := ⟨gb254, _, none⟩) NB253_254.out _).trans (((cell_far (p := ⟨gb254, _, none⟩) NB253_254.out _).trans (hHeld.2.2.2))))⟩ (fun hHeld => ?_)
        clear hK K
        refine done_ (done_of HT_.out (by kernel_rfl)) ?_
        try go_wp2
        refine bodyPost_ret (results_cell_row rfl _ _ gb254 30 #[.string t268, .string t269] (0, 0) _ rfl (by (with_reducible repeat (first | refine blk_drewN ?_ _ | refine blk_drew ?_ | refine blk_alloc ?_ _)); refine blk_put (cs := #[.string t268, .string x255001_30]) ?_ 1 _ rfl; (with_reducible repeat (first | refine blk_drewN ?_ _ | refine blk_drew ?_ | refine blk_alloc ?_ _)); refine blk_put (cs := #[.string x255000_30, .string x255001_30]) ?_ 0 _ rfl; (with_reducible repeat (first | refine blk_drewN ?_ _ | refine blk_drew ?_ | refine blk_alloc ?_ _)); exact BK254.out) Tryz.underlying30 rfl (by kernel_rfl)) rfl ?_
        exact ⟨rl, bl HB⟩
def size_number.f (a0 : Int) : Option (ByteArray × ByteArray) := (whole_Of.f a0).bind fun t271 => (some (t271, (⟨#[49]⟩ : ByteArray)))
set_option maxHeartbeats 8000000 in
set_option maxRecDepth 100000 in
theorem size_number.calls (a0 : Int) (r1 : ByteArray) (r2 : ByteArray) (w : World) (hG : Glob w) (h : size_number.f a0 = some (r1, r2)) :
  Calls Tryz.prog 65 #[.int .i64 a0] w fun e w' => e = .returned (.agg #[.string r1, .string r2]) ∧ Below w.heap.size w w' := by
 have hu30 := Tryz.underlying30
 have HG0 := Aside0.mk hG
 clear hG
 have HB := Aside0.mk (Below.refl w.heap.size w)
 have H : ((whole_Of.f a0).bind fun t271 => (some (t271, (⟨#[49]⟩ : ByteArray)))) = some (r1, r2) := h
 clear h
 replace H := Option.bind_eq_some_iff.mp H
 obtain ⟨t271, A20, H⟩ := H
 replace H : (some (t271, (⟨#[49]⟩ : ByteArray))) = some (r1, r2) := H
 have A2 := Aside0.mk A20
 clear A20
 simp only [Option.some.injEq, Prod.mk.injEq] at H
 obtain ⟨rfl, rfl⟩ := H
 go_enter Tryz.func65, Tryz.ntmps65
 go_wp2_with (first | ((with_reducible refine gate_dst (N := 2) rfl ?_); refine boxM (N := 2) #[.string (⟨#[]⟩ : ByteArray), .string (⟨#[]⟩ : ByteArray)] 30 ?_; intro gb270 hg w3 hbox hb; have BK270 := Aside0.mk (hbox); have GW270 := Aside0.mk ((by rw [hg]; exact (below_size (bl HB)) : w.heap.size ≤ gb270)); have GE270 := Aside0.mk ((by rw [hg]; exact (below_size (bl HB)) : w.heap.size ≤ gb270)); replace HB := Aside0.mk (below_step (bl HB) hb); clear hb hbox hg) | ((with_reducible refine gate_callee (f := 97) rfl ?_); refine goesM (some 4) Tryz.func97 #[.int .i64 a0] ?_; (with_reducible refine (whole_Of.calls a0 t271 _ ?side1 A2.out).mono ?_); (case side1 => exact Glob.below HG0.out (bl HB)); rintro e w4 ⟨rfl, hb⟩; refine ⟨_, rfl, ?_⟩; replace BK270 := Aside0.mk (blk_below (g := gb270) (o := .cells #[.string (⟨#[]⟩ : ByteArray), .string (⟨#[]⟩ : ByteArray)] 30 (0, 0)) (bk BK270) hb); replace HB := Aside0.mk (below_step (bl HB) hb); (try clear hb); (try clear hb2); (try clear hk); (try clear hi); have hcz5_0 : w4.cell? ⟨gb270, 0, none⟩ = some (.string (⟨#[]⟩ : ByteArray)) := (blk_cell BK270.out 0).trans rfl; have hcz5_1 : w4.cell? ⟨gb270, 1, none⟩ = some (.string (⟨#[]⟩ : ByteArray)) := (blk_cell BK270.out 1).trans rfl; have hfz5_0 := blk_frozen BK270.out 0; have hfz5_1 := blk_frozen BK270.out 1))
 refine bodyPost_ret (results_cell_row rfl _ _ gb270 30 #[.string t271, .string (⟨#[49]⟩ : ByteArray)] (0, 0) _ rfl (by (with_reducible repeat (first | refine blk_drewN ?_ _ | refine blk_drew ?_ | refine blk_alloc ?_ _)); refine blk_put (cs := #[.string t271, .string (⟨#[]⟩ : ByteArray)]) ?_ 1 _ rfl; (with_reducible repeat (first | refine blk_drewN ?_ _ | refine blk_drew ?_ | refine blk_alloc ?_ _)); refine blk_put (cs := #[.string (⟨#[]⟩ : ByteArray), .string (⟨#[]⟩ : ByteArray)]) ?_ 0 _ rfl; (with_reducible repeat (first | refine blk_drewN ?_ _ | refine blk_drew ?_ | refine blk_alloc ?_ _)); exact BK270.out) Tryz.underlying30 rfl (by kernel_rfl)) rfl ?_
 exact ⟨rl, bl HB⟩
end Go.Proofs.YtailoobjgbldgaaGreatDoor.P
end
section
namespace Go.Proofs.YtailoobjgbldgaaGreatDoor.P
open Go.RowKit Go.Proofs.YtailoobjgbldgaaGreatDoorW.PrintWords Go.Proofs.YtailoobjgbldgaaGreatDoorW.PrintLast Go.Proofs.YtailoobjgbldgaaGreatDoorW.PrintMore
attribute [local go_sem] max2_int min2_int max_two min_two max_three min_three max_four min_four   
set_option linter.unusedVariables false
set_option linter.unusedSimpArgs false
def size_zero.l0 : Nat → List (S30) → Int → Int → Option ((List (S30)))
 | 0, _, _, _ => none
 | k + 1, x3, x8, x9 => if x9 < x8 then ((size_number.f 0).bind fun bt275 => (if 0 ≤ x9 then (if x9 < (x3.length : Int) then (size_zero.l0 k (x3.set (x9 : Int).toNat (⟨bt275.1, bt275.2⟩ : S30)) x8 (wrap64 (x9 + 1))) else (none)) else (none))) else (some x3)
def size_zero.f (k : Nat) (a0 : Int) : Option ((List (S30))) := if 0 ≤ a0 then (if (a0 : Int).toNat ≤ 8796093022208 then ((some (List.replicate (a0 : Int).toNat z30 : List (S30))).bind fun y272 => (size_zero.l0 k y272 (y272.length : Int) 0)) else (none)) else (none)
set_option maxHeartbeats 8000000 in
set_option maxRecDepth 100000 in
theorem size_zero.calls (k : Nat) (a0 : Int) (r : List (S30)) (w : World) (hG : Glob w) (h : size_zero.f k a0 = some r) :
  Calls Tryz.prog 83 #[.int .i64 a0] w fun e w' => ∃ v0_ : Value, e = .returned (v0_) ∧ Kd.R k30 30 w' w.heap.size (fun _ => True) v0_ r ∧ Below w.heap.size w w' := by
 have hu30 := Tryz.underlying30
 have HG0 := Aside0.mk hG
 clear hG
 have HB := Aside0.mk (Below.refl w.heap.size w)
 have H : (if 0 ≤ a0 then (if (a0 : Int).toNat ≤ 8796093022208 then ((some (List.replicate (a0 : Int).toNat z30 : List (S30))).bind fun y272 => (size_zero.l0 k y272 (y272.length : Int) 0)) else (none)) else (none)) = some r := h
 clear h
 by_cases c2 : 0 ≤ a0
 ·rw [if_pos c2] at H
  have c2b0 := eq_true c2
  have c2b1 : decide (0 ≤ a0) = true := decide_eq_true c2
  clear c2
  by_cases c3 : (a0 : Int).toNat ≤ 8796093022208
  ·rw [if_pos c3] at H
   have c3b0 := eq_true c3
   have c3b1 : decide ((a0 : Int).toNat ≤ 8796093022208) = true := decide_eq_true c3
   clear c3
   obtain ⟨y272, hy272⟩ : ∃ y_ : List (S30), y_ = (List.replicate (a0 : Int).toNat z30) := ⟨_, rfl⟩
   replace H : (size_zero.l0 k y272 (y272.length : Int) 0) = some r := by first | (rw [hy272]; with_reducible exact H) | (have H2_ := (Option.bind_some _ _).symm.trans H; rw [hy272]; with_reducible exact H2_) | (have H2_ := (Option.bind_some _ _).symm.trans H; with_reducible exact H2_) | with_reducible exact H | (rw [hy272]; exact H) | exact H
   have Ny272 := Aside0.mk hy272
   clear hy272
   have H' := Aside0.mk H
   clear H
   go_enter Tryz.func83, Tryz.ntmps83
   go_wp2_with (first | ((with_reducible refine gate_dst (N := 6) rfl ?_); refine Kd.R_make k30 _ 30 rfl (N := 6) rfl 34 _ _ rfl a0 rfl rfl Tryz.underlying34 (.agg #[(.string ⟨#[]⟩), (.string ⟨#[]⟩)]) 32 info30 rfl (by decide) (by omega) z30 (ok := fun _ => True) (okp := fun _ => True) (k30_mkM _ _ _ z30 ) (fun _ hk => hk) trivial (of_decide_eq_true (by first | (with_reducible assumption) | assumption)) (Nat.le_trans (Nat.mul_le_mul_right _ (of_decide_eq_true (by first | (with_reducible assumption) | assumption) : a0.toNat ≤ 8796093022208)) (by omega)) (Below.refl _ _) (Nat.le_refl _) ?_; intro v273 w4 ho5 hb hg_ hnew_; clear hg_ hnew_; (first | rw [← Ny272.out] at ho5 | (simp only [Int.reduceToNat] at ho5; rw [← Ny272.out] at ho5)); have HO274 := Aside0.mk (Kd.R_lower ho5 (below_size (bl HB))); replace HB := Aside0.mk (below_step (bl HB) hb); clear hb ho5; obtain ⟨Ao6, co6, eo6⟩ := Kd.R_slice HO274.out; subst eo6))
   go_loopg [9] k (fun kq v9 w' => ∃ (x3_1 : List (S30)) (x9_1 : Int), v9 = .int .i64 x9_1 ∧ Aside0 (size_zero.l0 kq x3_1 (y272.length : Int) x9_1 = some r) ∧ Aside0 (kq ≤ k) ∧ Aside0 (Kd.R k30 30 w' w.heap.size (fun _ => True) (.slice Ao6 y272.length co6) x3_1) ∧ Aside0 (Below w.heap.size w w'))
   case atStart => exact ⟨(y272), (0), rs, H', ⟨Nat.le_refl _⟩, ⟨kr HO274⟩, ⟨bl HB⟩⟩
   case round =>
    clear H'
    try clear c2
    try clear c2b0
    try clear c2b1
    try clear p2
    try clear c3
    try clear c3b0
    try clear c3b1
    obtain ⟨x3_1, x9_1, rfl, HA, HK1, HO_3, HB⟩ := hrel
    have hl3_1 := (Kd.R_reads' HO_3.out).1
    rw [hl3_1] at HO_3
    (try simp only [hl3_1])
    cases gk with
    | zero => exact absurd HA.out (by simp [size_zero.l0])
    | succ k1 =>
     have H := HA.out
     clear HA
     simp only [size_zero.l0] at H
     by_cases c7 : x9_1 < (y272.length : Int)
     ·rw [if_pos c7] at H
      have c7b0 : decide (x9_1 < (y272.length : Int)) = true := decide_eq_true c7
      (try (have c7h := c7b0; rw [hl3_1] at c7h))
      clear c7
      replace H := Option.bind_eq_some_iff.mp H
      obtain ⟨⟨t275, t276⟩, A80, H⟩ := H
      replace H : (if 0 ≤ x9_1 then (if x9_1 < (x3_1.length : Int) then (size_zero.l0 k1 (x3_1.set (x9_1 : Int).toNat (⟨t275, t276⟩ : S30)) (y272.length : Int) (wrap64 (x9_1 + 1))) else (none)) else (none)) = some r := H
      have A8 := Aside0.mk A80
      clear A80
      by_cases c9 : 0 ≤ x9_1
      ·rw [if_pos c9] at H
       have c9b0 : decide (0 ≤ x9_1) = true := decide_eq_true c9
       clear c9
       by_cases c10 : x9_1 < (x3_1.length : Int)
       ·rw [if_pos c10] at H
        have c10b0 : decide (x9_1 < (x3_1.length : Int)) = true := decide_eq_true c10
        (try (have c10h := c10b0; rw [hl3_1] at c10h))
        clear c10
        obtain ⟨y277, hy277⟩ : ∃ y_ : List (S30), y_ = (x3_1.set (x9_1 : Int).toNat (⟨t275, t276⟩ : S30)) := ⟨_, rfl⟩
        replace H : (size_zero.l0 k1 y277 (y272.length : Int) (wrap64 (x9_1 + 1))) = some r := by first | (rw [hy277]; with_reducible exact H) | (have H2_ := (Option.bind_some _ _).symm.trans H; rw [hy277]; with_reducible exact H2_) | (have H2_ := (Option.bind_some _ _).symm.trans H; with_reducible exact H2_) | with_reducible exact H | (rw [hy277]; exact H) | exact H
        have Ny277 := Aside0.mk hy277
        clear hy277
        have H' := Aside0.mk H
        clear H
        go_wp2_with (first | ((with_reducible refine gate_callee (f := 65) rfl ?_); refine goesM (some 14) Tryz.func65 #[.int .i64 0] ?_; (with_reducible refine (size_number.calls 0 t275 t276 _ ?side1 A8.out).mono ?_); (case side1 => exact Glob.below HG0.out (bl HB)); rintro e w12 ⟨rfl, hb⟩; refine ⟨_, rfl, ?_⟩; replace HO_3 := Aside0.mk (Kd.R_below (kr HO_3) hb); replace HB := Aside0.mk (below_step (bl HB) hb); (try clear hb); (try clear hb2); (try clear hk); (try clear hi); have p11 : 0 ≤ (x9_1 : Int) := of_decide_eq_true (by first | (with_reducible assumption) | assumption); have q11 : (x9_1 : Int) < ((x3_1.length : Int) : Int) := of_decide_eq_true (by first | (with_reducible assumption) | assumption); obtain ⟨go11, co11, eo11, gb11, gl11, cl11, HG11⟩ := Kd.R_form HO_3.out (by omega); (first | cases eo11 | (injection eo11 with ea_ en_ ec_; (first | subst ea_ | (injection ea_ with ea_; subst ea_)); subst ec_; clear en_)); have GB11 := Aside0.mk gb11; have GG11 := Aside0.mk HG11; clear gb11 gl11 HG11; obtain ⟨ce11, hcl11, hM11, hcc11, hfr11⟩ := Kd.R_elem HO_3.out z30 (x9_1 : Int) p11 q11; obtain rfl := k30_openM hM11; have hx11_0 : w12.cell? ⟨go11, (x9_1 : Int).toNat * 2, none⟩ = some (.string ((rd_T30 x3_1 x9_1).f0)) := hcc11 0 _ rfl; have hx11_1 : w12.cell? ⟨go11, (x9_1 : Int).toNat * 2 + 1, none⟩ = some (.string ((rd_T30 x3_1 x9_1).f1)) := hcc11 1 _ rfl; have hf11_0 : w12.frozen? ⟨go11, (x9_1 : Int).toNat * 2, none⟩ = false := hfr11 0; have hf11_1 : w12.frozen? ⟨go11, (x9_1 : Int).toNat * 2 + 1, none⟩ = false := hfr11 1; clear hcl11 hcc11 hfr11 hM11; replace p11 := eq_true p11; replace q11 := eq_true q11; have HX13 := Aside0.mk (show Kd.R k30 30 w12 w.heap.size (fun _ => True) (.slice (some ⟨go11, 0, none⟩) x3_1.length co6) x3_1 from (kr HO_3)); obtain ⟨ce13, hcl13, hM13, hcc13, hfr13⟩ := Kd.R_elem HX13.out z30 (x9_1 : Int) (of_decide_eq_true (by first | (with_reducible assumption) | assumption)) (by have h_ : (x9_1 : Int) < ((x3_1.length : Int) : Int) := of_decide_eq_true (by first | (with_reducible assumption) | assumption); first | exact h_ | (have e_ := (Kd.R_reads' HO_3.out).1; omega) | simpa using h_); obtain rfl := k30_openM hM13; have HP13 := Kd.R_seg HX13.out (x9_1 : Int) (of_decide_eq_true (by first | (with_reducible assumption) | assumption)) (by have h_ : (x9_1 : Int) < ((x3_1.length : Int) : Int) := of_decide_eq_true (by first | (with_reducible assumption) | assumption); first | exact h_ | (have e_ := (Kd.R_reads' HO_3.out).1; omega) | simpa using h_) (seg := [.string t275, .string t276]) (j := 0) hcl13 hcc13 (show 2 ≤ 2 from by decide) (x' := (⟨t275, t276⟩ : S30)) (k30_mkM _ _ _ (⟨t275, t276⟩ : S30) ) (fun _ hk => hk); have hx13_0 := hcc13 0 _ rfl; (try simp only [show (k30).sz = 2 from rfl, Nat.mul_one, Nat.add_zero] at hx13_0); have hf13_0 := hfr13 0; (try simp only [show (k30).sz = 2 from rfl, Nat.mul_one, Nat.add_zero] at hf13_0); have hx13_1 := hcc13 1 _ rfl; (try simp only [show (k30).sz = 2 from rfl, Nat.mul_one, Nat.add_zero] at hx13_1); have hf13_1 := hfr13 1; (try simp only [show (k30).sz = 2 from rfl, Nat.mul_one, Nat.add_zero] at hf13_1); clear hcl13 hcc13 hfr13 hM13) | ((with_reducible refine gate_store (t := 30) (p := 15) rfl ?_); refine store_event (t := 30) (p := 15) (v := ?vo_w14) (w1 := ((w12.setCell ⟨go11, (x9_1 : Int).toNat * 2, none⟩ (.string t275)).setCell ⟨go11, (x9_1 : Int).toNat * 2 + 1, none⟩ (.string t276))) ?hg ?ho ?hn ?hr ?_; (case ho => rfl); (case hg => rfl); (case hn => rfl); (case hr => first | (go_simp; done) | (go_simp; rfl)); intro w14 hw; have hg : w12.grownBy w14 (some go11) := (by rw [hw]; exact HP13.2); have hp_ : Kd.R k30 30 w14 w.heap.size (fun _ => True) (.slice (some ⟨go11, 0, none⟩) x3_1.length co6) y277 := (by rw [hw, Ny277.out]; exact HP13.1); clear HP13; replace HO_3 := Aside0.mk (hp_); replace HB := Aside0.mk ((by rw [hw]; exact below_set (below_set (HB.out) GB11.out) GB11.out : Below w.heap.size w w14)); clear hg hw hp_))
        (try simp only [← hl3_1])
        go_roundg k1
        case measure => have := HK1.out; omega
        case rel => exact ⟨(y277), (wrap64 (x9_1 + 1)), rs, H', ⟨by have := HK1.out; omega⟩, ⟨by (try simp only [hl3_1]); (with_reducible repeat (first | apply Kd.R_alloc | apply Kd.R_drewN | apply Kd.R_drew)); exact HO_3.out⟩, ⟨bl HB⟩⟩
       ·rw [if_neg c10] at H
        exact absurd H (by simp)
      ·rw [if_neg c9] at H
       exact absurd H (by simp)
     ·rw [if_neg c7] at H
      have c7b0 : decide (x9_1 < (y272.length : Int)) = false := decide_eq_false c7
      (try (have c7h := c7b0; rw [hl3_1] at c7h))
      clear c7
      obtain rfl := Option.some.inj H
      go_wp2
      go_ret
      exact ⟨_, rl, kr HO_3, bl HB⟩
  ·rw [if_neg c3] at H
   exact absurd H (by simp)
 ·rw [if_neg c2] at H
  exact absurd H (by simp)
mutual
def size_sum.l0 : Nat → List (S30) → List (S30) → List (List (S30)) → Int → Int → Option ((List (S30)))
 | 0, _, _, _, _, _ => none
 | k + 1, x2, x7, x14, x15, x16 => if x16 < x15 then (if 0 ≤ x16 then (if x16 < (x14.length : Int) then (size_sum.l1 k x2 x7 x16 x14 x15 x16 (rd_L5 x14 x16) ((rd_L5 x14 x16).length : Int) 0) else (none)) else (none)) else (some x7)
def size_sum.l1 : Nat → List (S30) → List (S30) → Int → List (List (S30)) → Int → Int → List (S30) → Int → Int → Option ((List (S30)))
 | 0, _, _, _, _, _, _, _, _, _ => none
 | k + 1, x2, x7, x8, x14, x15, x16, x21, x22, x23 => if x23 < x22 then (if 0 ≤ x23 then (if x23 < (x21.length : Int) then (if x23 < (x7.length : Int) then (if 0 ≤ x8 then (if x8 < (x2.length : Int) then ((fraction_Mul.f k ((rd_T30 x21 x23).f0) ((rd_T30 x21 x23).f1) ((rd_T30 x2 x8).f0) ((rd_T30 x2 x8).f1)).bind fun bt286 => ((fraction_Add.f k ((rd_T30 x7 x23).f0) ((rd_T30 x7 x23).f1) bt286.1 bt286.2).bind fun bt288 => (size_sum.l1 k x2 (x7.set (x23 : Int).toNat (⟨bt288.1, bt288.2⟩ : S30)) x8 x14 x15 x16 x21 x22 (wrap64 (x23 + 1))))) else (none)) else (none)) else (none)) else (none)) else (none)) else (size_sum.l0 k x2 x7 x14 x15 (wrap64 (x16 + 1)))
end
def size_sum.f (k : Nat) (a0 : Int) (l1 : List (List (S30))) (l2 : List (S30)) : Option ((List (S30))) := (size_zero.f k a0).bind fun t278 => (size_sum.l0 k l2 t278 l1 (l1.length : Int) 0)
def size_sum.T8 : Bool × List (List Nat × List Nat) := (true, [([], []), ([], []), ([], []), ([], []), ([2, 3], [2, 3]), ([4], [4]), ([], []), ([], []), ([], []), ([7, 8], [7, 8]), ([9], [9]), ([6, 10], [6, 10]), ([5, 11, 11], [5, 11]), ([0, 1, 0, 1, 2, 3, 4, 5, 6, 7, 8, 9, 10, 11, 12], [0, 1]), ([13, 12, 12, 0, 1, 2, 3, 4, 5, 6, 7, 8, 9, 10, 11, 12], [12, 13])])
def size_sum.B8 : List Nat := [0, 0, 0, 0, 12, 28, 0, 0, 0, 384, 896, 1984, 4092, 8191, 16383]
theorem size_sum.tab8 : rtab .any (opsOf Tryz.f59 8) = size_sum.T8 := by kernel_rfl
theorem size_sum.bits8 : waitsOk size_sum.T8.2 size_sum.B8 = true := by kernel_rfl
set_option maxHeartbeats 8000000 in
set_option maxRecDepth 100000 in
theorem size_sum.calls (k : Nat) (a0 : Int) (A1 : Option Addr) (c1 : Nat) (l1 : List (List (S30))) (A2 : Option Addr) (c2 : Nat) (l2 : List (S30)) (r : List (S30)) (w : World) (hG : Glob w) (hr1 : Kd.C (Kd.slice 30 k30) w A1 l1.length l1) (hc1 : l1.length ≤ c1) (hr2 : Kd.C k30 w A2 l2.length l2) (hc2 : l2.length ≤ c2) (h : size_sum.f k a0 l1 l2 = some r) :
  Calls Tryz.prog 59 #[.int .i64 a0, .slice A1 l1.length c1, .slice A2 l2.length c2] w fun e w' => ∃ v0_ : Value, e = .returned (v0_) ∧ Kd.R k30 30 w' w.heap.size (fun _ => True) v0_ r ∧ Below w.heap.size w w' := by
 have hu30 := Tryz.underlying30
 have HR1 := Aside0.mk hr1
 have HC1 := Aside0.mk hc1
 clear hr1 hc1
 have HR2 := Aside0.mk hr2
 have HC2 := Aside0.mk hc2
 clear hr2 hc2
 have HG0 := Aside0.mk hG
 clear hG
 have HB := Aside0.mk (Below.refl w.heap.size w)
 have H : ((size_zero.f k a0).bind fun t278 => (size_sum.l0 k l2 t278 l1 (l1.length : Int) 0)) = some r := h
 clear h
 replace H := Option.bind_eq_some_iff.mp H
 obtain ⟨t278, A40, H⟩ := H
 replace H : (size_sum.l0 k l2 t278 l1 (l1.length : Int) 0) = some r := H
 have A4 := Aside0.mk A40
 clear A40
 have H' := Aside0.mk H
 clear H
 go_enter Tryz.func59, Tryz.ntmps59
 go_wp2_with (first | ((with_reducible refine gate_callee (f := 83) rfl ?_); refine goesM (some 13) Tryz.func83 #[.int .i64 a0] ?_; (with_reducible refine (size_zero.calls k a0 t278 _ ?side1 A4.out).mono ?_); (case side1 => exact Glob.below HG0.out (bl HB)); rintro e w5 ⟨v279, rfl, ho0, hb⟩; refine ⟨_, rfl, ?_⟩; have HO280 := Aside0.mk (Kd.R_lower ho0 (below_size (bl HB))); replace HB := Aside0.mk (below_step (bl HB) hb); (try clear hb); (try clear hb2); (try clear hk); (try clear hi); (try clear ho0)))
 go_loopg [16] k (fun kq v16 w' => ∃ (x7_1 : List (S30)) (x16_1 : Int), v16 = .int .i64 x16_1 ∧ Aside0 (size_sum.l0 kq l2 x7_1 l1 (l1.length : Int) x16_1 = some r) ∧ Aside0 (kq ≤ k) ∧ Aside0 (Kd.R k30 30 w' w.heap.size (fun _ => True) v279 x7_1) ∧ Aside0 (Below w.heap.size w w'))
 case atStart => exact ⟨(t278), (0), rs, H', ⟨Nat.le_refl _⟩, ⟨kr HO280⟩, ⟨bl HB⟩⟩
 case round =>
  clear H'
  try clear c1
  try clear c2
  try clear p2
  try clear c5
  obtain ⟨x7_1, x16_1, rfl, HA, HK1, HO_7, HB⟩ := hrel
  cases gk with
  | zero => exact absurd HA.out (by simp [size_sum.l0])
  | succ k1 =>
   have H := HA.out
   clear HA
   simp only [size_sum.l0] at H
   by_cases c6 : x16_1 < (l1.length : Int)
   ·rw [if_pos c6] at H
    have c6b0 : decide (x16_1 < (l1.length : Int)) = true := decide_eq_true c6
    clear c6
    by_cases c7 : 0 ≤ x16_1
    ·rw [if_pos c7] at H
     have c7b0 : decide (0 ≤ x16_1) = true := decide_eq_true c7
     clear c7
     by_cases c8 : x16_1 < (l1.length : Int)
     ·rw [if_pos c8] at H
      have c8b0 : decide (x16_1 < (l1.length : Int)) = true := decide_eq_true c8
      clear c8
      have H' := Aside0.mk H
      clear H
      have p281 : 0 ≤ (x16_1 : Int) := of_decide_eq_true (by first | (with_reducible assumption) | assumption)
      have q281 : x16_1 < (l1.length : Int) := of_decide_eq_true (by first | (with_reducible assumption) | assumption)
      obtain ⟨ad281, A281_0, c281_0, e281, hx281_0, hl281_0, hi281_0⟩ := at_L5 HR1.out x16_1 p281 q281
      cases e281
      replace hx281_0 := (HB.out.cell (World.block_lt_of_cell? w _ hx281_0)).trans hx281_0
      have HR281_0 := Aside0.mk hi281_0
      have HC281_0 := Aside0.mk hl281_0
      clear hi281_0 hl281_0
      replace p281 := eq_true p281
      replace q281 := eq_true q281
      go_wp2
      go_loopg [23] k1 (fun kq v23 w' => ∃ (x7_2 : List (S30)) (x23_2 : Int), v23 = .int .i64 x23_2 ∧ Aside0 (size_sum.l1 kq l2 x7_2 x16_1 l1 (l1.length : Int) x16_1 (rd_L5 l1 x16_1) ((rd_L5 l1 x16_1).length : Int) x23_2 = some r) ∧ Aside0 (kq ≤ k1) ∧ Aside0 (Kd.R k30 30 w' w.heap.size (fun _ => True) v279 x7_2) ∧ Aside0 (Below w.heap.size w w'))
      case atStart => exact ⟨(x7_1), (0), rs, H', ⟨Nat.le_refl _⟩, ⟨kr HO_7⟩, ⟨bl HB⟩⟩
      case round =>
       clear H'
       try clear c1
       try clear c2
       try clear p2
       try clear q2
       try clear hx2
       try clear c5
       try clear c6
       try clear c6b0
       try clear c7
       try clear c7b0
       try clear c8
       try clear c8b0
       try clear hx281_0
       try clear p2
       try clear p281
       try clear q281
       obtain ⟨x7_2, x23_2, rfl, HA, HK2, HO_7, HB⟩ := hrel
       cases gk with
       | zero => exact absurd HA.out (by simp [size_sum.l1])
       | succ k2 =>
        have H := HA.out
        clear HA
        simp only [size_sum.l1] at H
        by_cases c9 : x23_2 < ((rd_L5 l1 x16_1).length : Int)
        ·rw [if_pos c9] at H
         have c9b0 : decide (x23_2 < ((rd_L5 l1 x16_1).length : Int)) = true := decide_eq_true c9
         clear c9
         by_cases c10 : 0 ≤ x23_2
         ·rw [if_pos c10] at H
          have c10b0 : decide (0 ≤ x23_2) = true := decide_eq_true c10
          clear c10
          by_cases c11 : x23_2 < ((rd_L5 l1 x16_1).length : Int)
          ·rw [if_pos c11] at H
           have c11b0 : decide (x23_2 < ((rd_L5 l1 x16_1).length : Int)) = true := decide_eq_true c11
           clear c11
           by_cases c12 : x23_2 < (x7_2.length : Int)
           ·rw [if_pos c12] at H
            have c12b0 : decide (x23_2 < (x7_2.length : Int)) = true := decide_eq_true c12
            clear c12
            by_cases c13 : 0 ≤ x16_1
            ·rw [if_pos c13] at H
             have c13b0 : decide (0 ≤ x16_1) = true := decide_eq_true c13
             clear c13
             by_cases c14 : x16_1 < (l2.length : Int)
             ·rw [if_pos c14] at H
              have c14b0 : decide (x16_1 < (l2.length : Int)) = true := decide_eq_true c14
              clear c14
              replace H := Option.bind_eq_some_iff.mp H
              obtain ⟨⟨t286, t287⟩, A150, H⟩ := H
              replace H : ((fraction_Add.f k2 ((rd_T30 x7_2 x23_2).f0) ((rd_T30 x7_2 x23_2).f1) t286 t287).bind fun bt288 => (size_sum.l1 k2 l2 (x7_2.set (x23_2 : Int).toNat (⟨bt288.1, bt288.2⟩ : S30)) x16_1 l1 (l1.length : Int) x16_1 (rd_L5 l1 x16_1) ((rd_L5 l1 x16_1).length : Int) (wrap64 (x23_2 + 1)))) = some r := H
              have A15 := Aside0.mk A150
              clear A150
              replace H := Option.bind_eq_some_iff.mp H
              obtain ⟨⟨t288, t289⟩, A160, H⟩ := H
              replace H : (size_sum.l1 k2 l2 (x7_2.set (x23_2 : Int).toNat (⟨t288, t289⟩ : S30)) x16_1 l1 (l1.length : Int) x16_1 (rd_L5 l1 x16_1) ((rd_L5 l1 x16_1).length : Int) (wrap64 (x23_2 + 1))) = some r := H
              have A16 := Aside0.mk A160
              clear A160
              obtain ⟨y290, hy290⟩ : ∃ y_ : List (S30), y_ = (x7_2.set (x23_2 : Int).toNat (⟨t288, t289⟩ : S30)) := ⟨_, rfl⟩
              replace H : (size_sum.l1 k2 l2 y290 x16_1 l1 (l1.length : Int) x16_1 (rd_L5 l1 x16_1) ((rd_L5 l1 x16_1).length : Int) (wrap64 (x23_2 + 1))) = some r := by first | (rw [hy290]; with_reducible exact H) | (have H2_ := (Option.bind_some _ _).symm.trans H; rw [hy290]; with_reducible exact H2_) | (have H2_ := (Option.bind_some _ _).symm.trans H; with_reducible exact H2_) | with_reducible exact H | (rw [hy290]; exact H) | exact H
              have Ny290 := Aside0.mk hy290
              clear hy290
              have H' := Aside0.mk H
              clear H
              have p282 : 0 ≤ (x23_2 : Int) := of_decide_eq_true (by first | (with_reducible assumption) | assumption)
              have q282 : x23_2 < ((rd_L5 l1 x16_1).length : Int) := of_decide_eq_true (by first | (with_reducible assumption) | assumption)
              obtain ⟨ad282, e282, hx282_0, hx282_1⟩ := at_T30 HR281_0.out x23_2 p282 q282
              cases e282
              replace hx282_0 := (HB.out.cell (World.block_lt_of_cell? w _ hx282_0)).trans hx282_0
              replace hx282_1 := (HB.out.cell (World.block_lt_of_cell? w _ hx282_1)).trans hx282_1
              replace p282 := eq_true p282
              replace q282 := eq_true q282
              try go_wp2_with (first | ((with_reducible refine gate_dst (N := 11) rfl ?_); refine boxM (N := 11) #[.string (⟨#[]⟩ : ByteArray), .string (⟨#[]⟩ : ByteArray)] 30 ?_; intro gb283 hg w18 hbox hb; replace HO_7 := Aside0.mk (Kd.R_below (Kd.R_elderB (kr HO_7) gb283 (Nat.le_of_eq hg.symm)) hb); have BK283 := Aside0.mk (hbox); have GW283 := Aside0.mk ((by rw [hg]; exact (below_size (bl HB)) : w.heap.size ≤ gb283)); have GE283 := Aside0.mk ((by rw [hg]; exact (below_size (bl HB)) : w.heap.size ≤ gb283)); replace HB := Aside0.mk (below_step (bl HB) hb); clear hb hbox hg; have hcz19_0 : w18.cell? ⟨gb283, 0, none⟩ = some (.string (⟨#[]⟩ : ByteArray)) := (blk_cell BK283.out 0).trans rfl; have hcz19_1 : w18.cell? ⟨gb283, 1, none⟩ = some (.string (⟨#[]⟩ : ByteArray)) := (blk_cell BK283.out 1).trans rfl; have hfz19_0 := blk_frozen BK283.out 0; have hfz19_1 := blk_frozen BK283.out 1))
              have n0_ : Aside0 (Kd.R k30 30 ((w18.setCell ⟨gb283, 0, none⟩ (.string ((rd_T30 (rd_L5 l1 x16_1) x23_2).f0))).setCell ⟨gb283, 1, none⟩ (.string ((rd_T30 (rd_L5 l1 x16_1) x23_2).f1))) w.heap.size (fun k_ => k_ ≠ gb283) v279 x7_2) := ⟨by (with_reducible repeat (first | apply Kd.R_alloc | apply Kd.R_drewN | apply Kd.R_drew)); exact Kd.R_mono (Kd.R_far (p := ⟨gb283, 1, none⟩) (Kd.R_far (p := ⟨gb283, 0, none⟩) (Kd.R_mono HO_7.out (fun k_ hk => (⟨hk, hk.2⟩ : _ ∧ k_ ≠ gb283))) (fun _ hk => hk.2) (.string ((rd_T30 (rd_L5 l1 x16_1) x23_2).f0))) (fun _ hk => hk.2) (.string ((rd_T30 (rd_L5 l1 x16_1) x23_2).f1))) (fun _ hk => hk.1.2)⟩
              have n1_ : Aside0 (((w18.setCell ⟨gb283, 0, none⟩ (.string ((rd_T30 (rd_L5 l1 x16_1) x23_2).f0))).setCell ⟨gb283, 1, none⟩ (.string ((rd_T30 (rd_L5 l1 x16_1) x23_2).f1))).heap[gb283]? = some (.cells #[.string ((rd_T30 (rd_L5 l1 x16_1) x23_2).f0), .string ((rd_T30 (rd_L5 l1 x16_1) x23_2).f1)] 30 (0, 0))) := ⟨by (with_reducible repeat (first | refine blk_drewN ?_ _ | refine blk_drew ?_ | refine blk_alloc ?_ _)); refine blk_put (cs := #[.string ((rd_T30 (rd_L5 l1 x16_1) x23_2).f0), .string (⟨#[]⟩ : ByteArray)]) ?_ 1 _ rfl; (with_reducible repeat (first | refine blk_drewN ?_ _ | refine blk_drew ?_ | refine blk_alloc ?_ _)); refine blk_put (cs := #[.string (⟨#[]⟩ : ByteArray), .string (⟨#[]⟩ : ByteArray)]) ?_ 0 _ rfl; (with_reducible repeat (first | refine blk_drewN ?_ _ | refine blk_drew ?_ | refine blk_alloc ?_ _)); exact BK283.out⟩
              have n2_ : Aside0 (Below w.heap.size w ((w18.setCell ⟨gb283, 0, none⟩ (.string ((rd_T30 (rd_L5 l1 x16_1) x23_2).f0))).setCell ⟨gb283, 1, none⟩ (.string ((rd_T30 (rd_L5 l1 x16_1) x23_2).f1)))) := ⟨bl HB⟩
              (try clear HO_7)
              (try clear BK283)
              (try clear HB)
              generalize ((w18.setCell ⟨gb283, 0, none⟩ (.string ((rd_T30 (rd_L5 l1 x16_1) x23_2).f0))).setCell ⟨gb283, 1, none⟩ (.string ((rd_T30 (rd_L5 l1 x16_1) x23_2).f1))) = w20 at n0_ n1_ n2_ ⊢
              have HO_7 := n0_
              have BK283 := n1_
              have HB := n2_
              clear n0_ n1_ n2_
              replace HO_7 := Aside0.mk (Kd.R_drew HO_7.out)
              replace BK283 := Aside0.mk (blk_drew BK283.out)
              replace HB := Aside0.mk (below_drew1 HB.out)
              obtain ⟨Ao22, co22, eo22⟩ := Kd.R_slice HO_7.out
              (first | subst eo22 | (injection eo22 with f1_ f2_ f3_; have f4_ := f1_.symm; have f5_ := f3_.symm; clear f1_ f2_ f3_; subst f4_; subst f5_))
              have p284 : 0 ≤ (x23_2 : Int) := of_decide_eq_true (by first | (with_reducible assumption) | assumption)
              have q284 : x23_2 < (x7_2.length : Int) := of_decide_eq_true (by first | (with_reducible assumption) | assumption)
              (try (obtain ⟨Aq_, cq_, eq_⟩ := Kd.R_slice HO_7.out; subst eq_))
              obtain ⟨ad284, e284, hx284_0, hx284_1⟩ := at_T30 (Kd.R_reads' HO_7.out).2.2 x23_2 p284 q284
              cases e284
              replace p284 := eq_true p284
              replace q284 := eq_true q284
              have p285 : 0 ≤ (x16_1 : Int) := of_decide_eq_true (by first | (with_reducible assumption) | assumption)
              have q285 : x16_1 < (l2.length : Int) := of_decide_eq_true (by first | (with_reducible assumption) | assumption)
              obtain ⟨ad285, e285, hx285_0, hx285_1⟩ := at_T30 HR2.out x16_1 p285 q285
              have hw285_1 := hx285_1
              have hw285_0 := hx285_0
              cases e285
              replace hx285_0 := (HB.out.cell (World.block_lt_of_cell? w _ hx285_0)).trans hx285_0
              replace hx285_1 := (HB.out.cell (World.block_lt_of_cell? w _ hx285_1)).trans hx285_1
              replace p285 := eq_true p285
              replace q285 := eq_true q285
              refine start_ (n := 15) (S := fun w' => w'.cell? ⟨gb283, 0, none⟩ = some (.string ((rd_T30 (rd_L5 l1 x16_1) x23_2).f0)) ∧ w'.cell? ⟨gb283, 1, none⟩ = some (.string ((rd_T30 (rd_L5 l1 x16_1) x23_2).f1)) ∧ w'.cell? (ad284.add ((x23_2).toNat * 2)) = some (.string ((rd_T30 x7_2 x23_2).f0)) ∧ w'.cell? ⟨(ad284.add ((x23_2).toNat * 2)).block, (ad284.add ((x23_2).toNat * 2)).off + 1, none⟩ = some (.string ((rd_T30 x7_2 x23_2).f1)) ∧ w'.cell? (ad285.add ((x16_1).toNat * 2)) = some (.string ((rd_T30 l2 x16_1).f0)) ∧ w'.cell? ⟨(ad285.add ((x16_1).toNat * 2)).block, (ad285.add ((x16_1).toNat * 2)).off + 1, none⟩ = some (.string ((rd_T30 l2 x16_1).f1))) (ds := [14]) #[false, false, false, false, false, false, false, false, false, false, false, false, false, false, false] (by kernel_rfl) rfl rfl ⟨(blk_cell BK283.out 0).trans rfl, (blk_cell BK283.out 1).trans rfl, hx284_0, hx284_1, ((HB.out.cell (World.block_lt_of_cell? w _ hw285_0)).trans hw285_0), ((HB.out.cell (World.block_lt_of_cell? w _ hw285_1)).trans hw285_1)⟩ (fun hHeld => ?_); refine with_tabW size_sum.tab8 size_sum.bits8 (fun HT_ HW_ => ?_)
              generalize w20.drew = w21 at HO_7 BK283 HB hx284_0 hx284_1 hx285_0 hx285_1 hHeld ⊢
              refine purM (i := 0) (N := some 28) #[true, false, false, false, false, false, false, false, false, false, false, false, false, false, false] ?_
              refine purM (i := 1) (N := some 29) #[true, true, false, false, false, false, false, false, false, false, false, false, false, false, false] ?_
              refine purM (i := 2) (N := some 30) #[true, true, true, false, false, false, false, false, false, false, false, false, false, false, false] ?_
              refine purM (i := 3) (N := some 31) #[true, true, true, true, false, false, false, false, false, false, false, false, false, false, false] ?_
              refine purM (i := 4) (N := some 32) #[true, true, true, true, true, false, false, false, false, false, false, false, false, false, false] ?_
              refine purM (i := 7) (N := some 35) #[true, true, true, true, true, false, false, true, false, false, false, false, false, false, false] ?_
              refine purM (i := 8) (N := some 36) #[true, true, true, true, true, false, false, true, true, false, false, false, false, false, false] ?_
              refine purM (i := 9) (N := some 37) #[true, true, true, true, true, false, false, true, true, true, false, false, false, false, false] ?_
              refine take_ (i := 5) (N := some 33) (v := ?_) (a' := ?_) #[true, true, true, true, true, true, false, true, true, true, false, false, false, false, false] rfl rfl (take_ofW HT_.out HW_.out (by kernel_rfl)) (fun _ _ _ h => h) (Or.inl ⟨by rfl, ?_⟩) hHeld ?_ ?_
              rotate_left
              ·rintro w' ⟨s0, s1, s2, s3, s4, s5⟩
               go_simp
               with_reducible rfl
              rotate_left
              ·simp only [Act.put, List.setIfInBounds_toArray, List.set_cons_zero, List.set_cons_succ, i64_w, i32_w]
               rfl
              refine take_ (i := 6) (N := some 34) (v := ?_) (a' := ?_) #[true, true, true, true, true, true, true, true, true, true, false, false, false, false, false] rfl rfl (take_ofW HT_.out HW_.out (by kernel_rfl)) (fun _ _ _ h => h) (Or.inl ⟨by rfl, ?_⟩) hHeld ?_ ?_
              rotate_left
              ·rintro w' ⟨s0, s1, s2, s3, s4, s5⟩
               go_simp
               with_reducible rfl
              rotate_left
              ·simp only [Act.put, List.setIfInBounds_toArray, List.set_cons_zero, List.set_cons_succ, i64_w, i32_w]
               rfl
              refine take_ (i := 10) (N := some 38) (v := ?_) (a' := ?_) #[true, true, true, true, true, true, true, true, true, true, true, false, false, false, false] rfl rfl (take_ofW HT_.out HW_.out (by kernel_rfl)) (fun _ _ _ h => h) (Or.inl ⟨by rfl, ?_⟩) hHeld ?_ ?_
              rotate_left
              ·rintro w' ⟨s0, s1, s2, s3, s4, s5⟩
               go_simp
               with_reducible rfl
              rotate_left
              ·simp only [Act.put, List.setIfInBounds_toArray, List.set_cons_zero, List.set_cons_succ, i64_w, i32_w]
               rfl
              refine one_ (i := 11) (N := some 39) #[true, true, true, true, true, true, true, true, true, true, true, true, false, false, false] rfl rfl (one_of HT_.out (by kernel_rfl)) (by decide) (fun K hK => ?_)
              refine goesR Tryz.func35 #[.agg #[.string ((rd_T30 (rd_L5 l1 x16_1) x23_2).f0), .string ((rd_T30 (rd_L5 l1 x16_1) x23_2).f1)], .agg #[.string ((rd_T30 l2 x16_1).f0), .string ((rd_T30 l2 x16_1).f1)]] ?_
              with_reducible refine (fraction_Mul.calls k2 ((rd_T30 (rd_L5 l1 x16_1) x23_2).f0) ((rd_T30 (rd_L5 l1 x16_1) x23_2).f1) ((rd_T30 l2 x16_1).f0) ((rd_T30 l2 x16_1).f1) t286 t287 _ ?side1 A15.out).mono ?_
              (case side1 => exact Glob.below HG0.out (bl HB))
              rintro e w23 ⟨rfl, hb⟩
              have HS2_ := (hb.cell (World.block_lt_of_cell? _ _ (hHeld.2.2.1))).trans (hHeld.2.2.1)
              have HS3_ := (hb.cell (World.block_lt_of_cell? _ _ (hHeld.2.2.2.1))).trans (hHeld.2.2.2.1)
              refine ⟨_, rfl, ?_⟩
              replace HO_7 := Aside0.mk (Kd.R_below (kr HO_7) hb)
              replace BK283 := Aside0.mk (blk_below (g := gb283) (o := .cells #[.string ((rd_T30 (rd_L5 l1 x16_1) x23_2).f0), .string ((rd_T30 (rd_L5 l1 x16_1) x23_2).f1)] 30 (0, 0)) (bk BK283) hb)
              replace HB := Aside0.mk (below_step (bl HB) hb)
              (try clear hb)
              (try clear hb2)
              (try clear hk)
              (try clear hi)
              refine hK.out _ _ ⟨(blk_cell BK283.out 0).trans rfl, (blk_cell BK283.out 1).trans rfl, HS2_, HS3_, ((HB.out.cell (World.block_lt_of_cell? w _ hw285_0)).trans hw285_0), ((HB.out.cell (World.block_lt_of_cell? w _ hw285_1)).trans hw285_1)⟩ (fun hHeld => ?_)
              clear hK K
              refine norm_ (a' := ?_) ?_ ?_
              rotate_left
              ·show Act.put _ (some 39) _ = _
               simp only [Act.put, List.setIfInBounds_toArray, List.set_cons_zero, List.set_cons_succ, i64_w, i32_w]
               rfl
              refine one_ (i := 12) (N := some 40) #[true, true, true, true, true, true, true, true, true, true, true, true, true, false, false] rfl rfl (one_of HT_.out (by kernel_rfl)) (by decide) (fun K hK => ?_)
              refine goesR Tryz.func60 #[.agg #[.string ((rd_T30 x7_2 x23_2).f0), .string ((rd_T30 x7_2 x23_2).f1)], .agg #[.string t286, .string t287]] ?_
              with_reducible refine (fraction_Add.calls k2 ((rd_T30 x7_2 x23_2).f0) ((rd_T30 x7_2 x23_2).f1) t286 t287 t288 t289 _ ?side1 A16.out).mono ?_
              (case side1 => exact Glob.below HG0.out (bl HB))
              rintro e w24 ⟨rfl, hb⟩
              have HS2_ := (hb.cell (World.block_lt_of_cell? _ _ (hHeld.2.2.1))).trans (hHeld.2.2.1)
              have HS3_ := (hb.cell (World.block_lt_of_cell? _ _ (hHeld.2.2.2.1))).trans (hHeld.2.2.2.1)
              refine ⟨_, rfl, ?_⟩
              replace HO_7 := Aside0.mk (Kd.R_below (kr HO_7) hb)
              replace BK283 := Aside0.mk (blk_below (g := gb283) (o := .cells #[.string ((rd_T30 (rd_L5 l1 x16_1) x23_2).f0), .string ((rd_T30 (rd_L5 l1 x16_1) x23_2).f1)] 30 (0, 0)) (bk BK283) hb)
              replace HB := Aside0.mk (below_step (bl HB) hb)
              (try clear hb)
              (try clear hb2)
              (try clear hk)
              (try clear hi)
              have p17 : 0 ≤ (x23_2 : Int) := of_decide_eq_true (by first | (with_reducible assumption) | assumption)
              have q17 : (x23_2 : Int) < ((x7_2.length : Int) : Int) := of_decide_eq_true (by first | (with_reducible assumption) | assumption)
              obtain ⟨go17, co17, eo17, gb17, gl17, cl17, HG17⟩ := Kd.R_form HO_7.out (by omega)
              (first | cases eo17 | (injection eo17 with ea_ en_ ec_; (first | subst ea_ | (injection ea_ with ea_; subst ea_)); subst ec_; clear en_))
              have GB17 := Aside0.mk gb17
              have GG17 := Aside0.mk HG17
              clear gb17 gl17 HG17
              (first | simp only [add_plain] at hx284_0 | skip)
              (first | simp only [add_plain] at hx284_1 | skip)
              obtain ⟨ce17, hcl17, hM17, hcc17, hfr17⟩ := Kd.R_elem HO_7.out z30 (x23_2 : Int) p17 q17
              obtain rfl := k30_openM hM17
              have hx17_0 : World.cell? _ ⟨go17, (x23_2 : Int).toNat * 2, none⟩ = some (.string ((rd_T30 x7_2 x23_2).f0)) := hcc17 0 _ rfl
              have hx17_1 : World.cell? _ ⟨go17, (x23_2 : Int).toNat * 2 + 1, none⟩ = some (.string ((rd_T30 x7_2 x23_2).f1)) := hcc17 1 _ rfl
              have hf17_0 : World.frozen? _ ⟨go17, (x23_2 : Int).toNat * 2, none⟩ = false := hfr17 0
              have hf17_1 : World.frozen? _ ⟨go17, (x23_2 : Int).toNat * 2 + 1, none⟩ = false := hfr17 1
              clear hcl17 hcc17 hfr17 hM17
              replace p17 := eq_true p17
              replace q17 := eq_true q17
              obtain ⟨ce25, hcl25, hM25, hcc25, hfr25⟩ := Kd.R_elem HO_7.out z30 (x23_2 : Int) (of_decide_eq_true (by first | (with_reducible assumption) | assumption)) (by have h_ : (x23_2 : Int) < ((x7_2.length : Int) : Int) := of_decide_eq_true (by first | (with_reducible assumption) | assumption); first | exact h_ | (have e_ := (Kd.R_reads' HO_7.out).1; omega) | simpa using h_)
              obtain rfl := k30_openM hM25
              have HP25 := (Kd.R_seg HO_7.out (x23_2 : Int) (of_decide_eq_true (by first | (with_reducible assumption) | assumption)) (by have h_ : (x23_2 : Int) < ((x7_2.length : Int) : Int) := of_decide_eq_true (by first | (with_reducible assumption) | assumption); first | exact h_ | (have e_ := (Kd.R_reads' HO_7.out).1; omega) | simpa using h_) (seg := [.string t288, .string t289]) (j := 0) hcl25 hcc25 (show 2 ≤ 2 from by decide) (x' := (⟨t288, t289⟩ : S30)) (k30_mkM _ _ _ (⟨t288, t289⟩ : S30) ) (fun _ hk => hk)).1
              rw [← Ny290.out] at HP25
              have HQ25 := Aside0.mk HP25
              clear hcl25 hcc25 hfr25 hM25 HP25
              refine hK.out _ _ ⟨(blk_cell BK283.out 0).trans rfl, (blk_cell BK283.out 1).trans rfl, HS2_, HS3_, ((HB.out.cell (World.block_lt_of_cell? w _ hw285_0)).trans hw285_0), ((HB.out.cell (World.block_lt_of_cell? w _ hw285_1)).trans hw285_1)⟩ (fun hHeld => ?_)
              clear hK K
              refine norm_ (a' := ?_) ?_ ?_
              rotate_left
              ·show Act.put _ (some 40) _ = _
               simp only [Act.put, List.setIfInBounds_toArray, List.set_cons_zero, List.set_cons_succ, i64_w, i32_w]
               rfl
              refine purM (i := 13) (N := some 41) #[true, true, true, true, true, true, true, true, true, true, true, true, true, true, false] ?_
              refine last_ (i := 14) (N := none) #[true, true, true, true, true, true, true, true, true, true, true, true, true, true, true] rfl rfl (one_of HT_.out (by kernel_rfl)) (by decide) (fun K hK => ?_)
              refine skip_ (w1 := ?_) (by rfl) rfl ?_ ?_
              rotate_left
              ·go_simp
               rfl
              refine hK.out _ _ ?_
              clear hK K
              refine done_ (done_of HT_.out (by kernel_rfl)) ?_
              try go_wp2
              go_roundg k2
              case measure => have := HK1.out; have := HK2.out; omega
              case rel => exact ⟨(y290), (wrap64 (x23_2 + 1)), rs, H', ⟨by have := HK1.out; have := HK2.out; omega⟩, ⟨by (with_reducible repeat (first | apply Kd.R_alloc | apply Kd.R_drewN | apply Kd.R_drew)); exact Kd.R_mono HQ25.out (fun _ hk => trivial)⟩, ⟨by repeat (first | (with_reducible first | exact HB.out | apply below_alloc | apply pw_below_drewN | apply below_drew1 | refine below_set ?_ GB17.out | refine below_set ?_ GB17.out | refine below_set ?_ GE283.out) | exact HB.out)⟩⟩
             ·rw [if_neg c14] at H
              exact absurd H (by simp)
            ·rw [if_neg c13] at H
             exact absurd H (by simp)
           ·rw [if_neg c12] at H
            exact absurd H (by simp)
          ·rw [if_neg c11] at H
           exact absurd H (by simp)
         ·rw [if_neg c10] at H
          exact absurd H (by simp)
        ·rw [if_neg c9] at H
         have c9b0 : decide (x23_2 < ((rd_L5 l1 x16_1).length : Int)) = false := decide_eq_false c9
         clear c9
         have H' := Aside0.mk H
         clear H
         go_wp2
         go_roundg k2
         case measure => have := HK1.out; have := HK2.out; omega
         case rel => exact ⟨(x7_2), (wrap64 (x16_1 + 1)), rs, H', ⟨by have := HK1.out; have := HK2.out; omega⟩, ⟨kr HO_7⟩, ⟨bl HB⟩⟩
     ·rw [if_neg c8] at H
      exact absurd H (by simp)
    ·rw [if_neg c7] at H
     exact absurd H (by simp)
   ·rw [if_neg c6] at H
    have c6b0 : decide (x16_1 < (l1.length : Int)) = false := decide_eq_false c6
    clear c6
    obtain rfl := Option.some.inj H
    go_wp2
    go_ret
    exact ⟨_, rl, kr HO_7, bl HB⟩
def decimal_Lcm.j0 : Nat → ByteArray → ByteArray → Bool → Option (ByteArray)
 | 0, _, _, _ => none
 | k + 1, x0, x1, x13 => if x13 = true then (some (⟨#[48]⟩ : ByteArray)) else ((decimal_Gcd.f k x0 x1).bind fun t291 => ((decimal_DivMod.f k x0 t291).bind fun bt292 => (if bt292.2.2 = 0 then ((decimal_Mul.f k bt292.1 x1).bind fun t295 => (some t295)) else (some (⟨#[]⟩ : ByteArray)))))
def decimal_Lcm.f (k : Nat) (a0 : ByteArray) (a1 : ByteArray) : Option (ByteArray) := if a0.toList = ([48] : List UInt8) then (decimal_Lcm.j0 k a0 a1 true) else (decimal_Lcm.j0 k a0 a1 (a1.toList == ([48] : List UInt8)))
set_option maxHeartbeats 8000000 in
set_option maxRecDepth 100000 in
theorem decimal_Lcm.calls (k : Nat) (a0 : ByteArray) (a1 : ByteArray) (r : ByteArray) (w : World) (hG : Glob w) (h : decimal_Lcm.f k a0 a1 = some r) :
  Calls Tryz.prog 133 #[.string a0, .string a1] w fun e w' => e = .returned (.string r) ∧ Below w.heap.size w w' := by
 have HG0 := Aside0.mk hG
 clear hG
 have HB := Aside0.mk (Below.refl w.heap.size w)
 have H : (if a0.toList = ([48] : List UInt8) then (decimal_Lcm.j0 k a0 a1 true) else (decimal_Lcm.j0 k a0 a1 (a1.toList == ([48] : List UInt8)))) = some r := h
 clear h
 have HC3 := Aside0.mk H
 clear H
 go_enter Tryz.func133, Tryz.ntmps133
 go_upto_region 1 with (fail)
 go_cut [13] (fun v13 wc => ∃ (kq : Nat) (x13_2 : Bool), v13 = .bool x13_2 ∧ Aside0 (decimal_Lcm.j0 kq a0 a1 x13_2 = some r) ∧ Aside0 (kq ≤ k) ∧ Aside0 (Below w.heap.size w wc))
 case first =>
  have H := HC3.out
  clear HC3
  by_cases c4 : a0.toList = ([48] : List UInt8)
  ·rw [if_pos c4] at H
   have c4b0 : (a0.toList == ([48] : List UInt8)) = true := beq_iff_eq.mpr c4
   have c4b1 : (a0.toList != ([48] : List UInt8)) = false := bne_eq_false_iff_eq.mpr c4
   clear c4
   (first | rw [c4b0] | (simp only [i64_w, i32_w]; rw [c4b0]) | skip)
   have H' := Aside0.mk H
   clear H
   go_wp2
   go_meet
   case rel => exact ⟨_, (true), rs, H', ⟨by first | omega | exact Nat.le_refl _⟩, ⟨bl HB⟩⟩
  ·rw [if_neg c4] at H
   have c4b0 : (a0.toList == ([48] : List UInt8)) = false := beq_eq_false_iff_ne.mpr c4
   have c4b1 : (a0.toList != ([48] : List UInt8)) = true := bne_iff_ne.mpr c4
   (first | rw [c4b0] | (simp only [i64_w, i32_w]; rw [c4b0]) | skip)
   have H' := Aside0.mk H
   clear H
   go_wp2
   go_meet
   case rel => exact ⟨_, ((a1.toList == ([48] : List UInt8))), rs, H', ⟨by first | omega | exact Nat.le_refl _⟩, ⟨bl HB⟩⟩
 case rest =>
  clear HC3
  try clear c1
  try clear p2
  try clear c4
  try clear c4b0
  try clear c4b1
  obtain ⟨kq, x13_2, rfl, HA, HJ2, HB⟩ := hcut
  cases kq with
  | zero => exact absurd HA.out (by simp [decimal_Lcm.j0])
  | succ kj2 =>
   have H := HA.out
   clear HA
   simp only [decimal_Lcm.j0] at H
   by_cases c5 : x13_2 = true
   ·subst c5
    have H1 : (some (⟨#[48]⟩ : ByteArray)) = some r := by rw [if_pos rfl] at H; exact H
    clear H
    have H := H1
    clear H1
    obtain rfl := Option.some.inj H
    go_wp2
    go_ret
    exact ⟨rl, bl HB⟩
   ·replace c5 := Bool.eq_false_iff.mpr c5
    subst c5
    have H1 : ((decimal_Gcd.f kj2 a0 a1).bind fun t291 => ((decimal_DivMod.f kj2 a0 t291).bind fun bt292 => (if bt292.2.2 = 0 then ((decimal_Mul.f kj2 bt292.1 a1).bind fun t295 => (some t295)) else (some (⟨#[]⟩ : ByteArray))))) = some r := by rw [if_neg (show ¬ (false = true) by decide)] at H; exact H
    clear H
    have H := H1
    clear H1
    replace H := Option.bind_eq_some_iff.mp H
    obtain ⟨t291, A60, H⟩ := H
    replace H : ((decimal_DivMod.f kj2 a0 t291).bind fun bt292 => (if bt292.2.2 = 0 then ((decimal_Mul.f kj2 bt292.1 a1).bind fun t295 => (some t295)) else (some (⟨#[]⟩ : ByteArray)))) = some r := H
    have A6 := Aside0.mk A60
    clear A60
    replace H := Option.bind_eq_some_iff.mp H
    obtain ⟨⟨t292, t293, t294⟩, A70, H⟩ := H
    replace H : (if t294 = 0 then ((decimal_Mul.f kj2 t292 a1).bind fun t295 => (some t295)) else (some (⟨#[]⟩ : ByteArray))) = some r := H
    have A7 := Aside0.mk A70
    clear A70
    by_cases c8 : t294 = 0
    ·rw [if_pos c8] at H
     have c8b0 : (t294 == 0) = true := beq_iff_eq.mpr c8
     have c8b1 : (t294 != 0) = false := bne_eq_false_iff_eq.mpr c8
     clear c8
     replace H := Option.bind_eq_some_iff.mp H
     obtain ⟨t295, A90, H⟩ := H
     replace H : (some t295) = some r := H
     have A9 := Aside0.mk A90
     clear A90
     obtain rfl := Option.some.inj H
     go_wp2_with (first | ((with_reducible refine gate_callee (f := 99) rfl ?_); refine goesM (some 18) Tryz.func99 #[.string a0, .string a1] ?_; (with_reducible refine (decimal_Gcd.calls kj2 a0 a1 t291 _ ?side1 A6.out).mono ?_); (case side1 => exact Glob.below HG0.out (bl HB)); rintro e w10 ⟨rfl, hb⟩; refine ⟨_, rfl, ?_⟩; replace HB := Aside0.mk (below_step (bl HB) hb); (try clear hb); (try clear hb2); (try clear hk); (try clear hi)) | ((with_reducible refine gate_callee (f := 129) rfl ?_); refine goesM (some 19) Tryz.func129 #[.string a0, .string t291] ?_; (with_reducible refine (decimal_DivMod.calls kj2 a0 t291 t292 t293 t294 _ ?side1 A7.out).mono ?_); (case side1 => exact Glob.below HG0.out (bl HB)); rintro e w11 ⟨rfl, hb⟩; refine ⟨_, rfl, ?_⟩; replace HB := Aside0.mk (below_step (bl HB) hb); (try clear hb); (try clear hb2); (try clear hk); (try clear hi)) | ((with_reducible refine gate_callee (f := 119) rfl ?_); refine goesM (some 27) Tryz.func119 #[.string t292, .string a1] ?_; (with_reducible refine (decimal_Mul.calls kj2 t292 a1 t295 _ ?side1 A9.out).mono ?_); (case side1 => exact Glob.below HG0.out (bl HB)); rintro e w12 ⟨rfl, hb⟩; refine ⟨_, rfl, ?_⟩; replace HB := Aside0.mk (below_step (bl HB) hb); (try clear hb); (try clear hb2); (try clear hk); (try clear hi)))
     go_ret
     exact ⟨rl, bl HB⟩
    ·rw [if_neg c8] at H
     have c8b0 : (t294 == 0) = false := beq_eq_false_iff_ne.mpr c8
     have c8b1 : (t294 != 0) = true := bne_iff_ne.mpr c8
     obtain rfl := Option.some.inj H
     go_wp2_with (first | ((with_reducible refine gate_callee (f := 99) rfl ?_); refine goesM (some 18) Tryz.func99 #[.string a0, .string a1] ?_; (with_reducible refine (decimal_Gcd.calls kj2 a0 a1 t291 _ ?side1 A6.out).mono ?_); (case side1 => exact Glob.below HG0.out (bl HB)); rintro e w13 ⟨rfl, hb⟩; refine ⟨_, rfl, ?_⟩; replace HB := Aside0.mk (below_step (bl HB) hb); (try clear hb); (try clear hb2); (try clear hk); (try clear hi)) | ((with_reducible refine gate_callee (f := 129) rfl ?_); refine goesM (some 19) Tryz.func129 #[.string a0, .string t291] ?_; (with_reducible refine (decimal_DivMod.calls kj2 a0 t291 t292 t293 t294 _ ?side1 A7.out).mono ?_); (case side1 => exact Glob.below HG0.out (bl HB)); rintro e w14 ⟨rfl, hb⟩; refine ⟨_, rfl, ?_⟩; replace HB := Aside0.mk (below_step (bl HB) hb); (try clear hb); (try clear hb2); (try clear hk); (try clear hi)))
     go_ret
     exact ⟨rl, bl HB⟩
def whole_Lcm.f (k : Nat) (a0 : ByteArray) (a1 : ByteArray) : Option (ByteArray) := (whole_Abs.f a0).bind fun t296 => ((whole_Abs.f a1).bind fun t297 => ((decimal_Lcm.f k t296 t297).bind fun t298 => (some t298)))
set_option maxHeartbeats 8000000 in
set_option maxRecDepth 100000 in
theorem whole_Lcm.calls (k : Nat) (a0 : ByteArray) (a1 : ByteArray) (r : ByteArray) (w : World) (hG : Glob w) (h : whole_Lcm.f k a0 a1 = some r) :
  Calls Tryz.prog 106 #[.string a0, .string a1] w fun e w' => e = .returned (.string r) ∧ Below w.heap.size w w' := by
 have HG0 := Aside0.mk hG
 clear hG
 have HB := Aside0.mk (Below.refl w.heap.size w)
 have H : ((whole_Abs.f a0).bind fun t296 => ((whole_Abs.f a1).bind fun t297 => ((decimal_Lcm.f k t296 t297).bind fun t298 => (some t298)))) = some r := h
 clear h
 replace H := Option.bind_eq_some_iff.mp H
 obtain ⟨t296, A30, H⟩ := H
 replace H : ((whole_Abs.f a1).bind fun t297 => ((decimal_Lcm.f k t296 t297).bind fun t298 => (some t298))) = some r := H
 have A3 := Aside0.mk A30
 clear A30
 replace H := Option.bind_eq_some_iff.mp H
 obtain ⟨t297, A40, H⟩ := H
 replace H : ((decimal_Lcm.f k t296 t297).bind fun t298 => (some t298)) = some r := H
 have A4 := Aside0.mk A40
 clear A40
 replace H := Option.bind_eq_some_iff.mp H
 obtain ⟨t298, A50, H⟩ := H
 replace H : (some t298) = some r := H
 have A5 := Aside0.mk A50
 clear A50
 obtain rfl := Option.some.inj H
 go_enter Tryz.func106, Tryz.ntmps106
 go_wp2_with (first | ((with_reducible refine gate_callee (f := 63) rfl ?_); refine goesM (some 6) Tryz.func63 #[.string a0] ?_; (with_reducible refine (whole_Abs.calls a0 t296 _ A3.out).mono ?_); rintro e w' ⟨rfl, ⟨nd, rfl⟩⟩; refine ⟨_, rfl, ?_⟩) | ((with_reducible refine gate_callee (f := 63) rfl ?_); refine goesM (some 8) Tryz.func63 #[.string a1] ?_; (with_reducible refine (whole_Abs.calls a1 t297 _ A4.out).mono ?_); rintro e w' ⟨rfl, ⟨nd, rfl⟩⟩; refine ⟨_, rfl, ?_⟩) | ((with_reducible refine gate_callee (f := 133) rfl ?_); refine goesM (some 9) Tryz.func133 #[.string t296, .string t297] ?_; (with_reducible refine (decimal_Lcm.calls k t296 t297 t298 _ ?side1 A5.out).mono ?_); (case side1 => exact Glob.below HG0.out (bl HB)); rintro e w6 ⟨rfl, hb⟩; refine ⟨_, rfl, ?_⟩; replace HB := Aside0.mk (below_step (bl HB) hb); (try clear hb); (try clear hb2); (try clear hk); (try clear hi)))
 go_ret
 exact ⟨rl, bl HB⟩
end Go.Proofs.YtailoobjgbldgaaGreatDoor.P
end
section
namespace Go.Proofs.YtailoobjgbldgaaGreatDoor.P
open Go.RowKit Go.Proofs.YtailoobjgbldgaaGreatDoorW.PrintWords Go.Proofs.YtailoobjgbldgaaGreatDoorW.PrintLast Go.Proofs.YtailoobjgbldgaaGreatDoorW.PrintMore
attribute [local go_sem] max2_int min2_int max_two min_two max_three min_three max_four min_four   
set_option linter.unusedVariables false
set_option linter.unusedSimpArgs false
mutual
def size_termsOf.l0 : Nat → List Int → List (S30) → List (S30) → Int → Int → ByteArray → Option (List Int × List ByteArray × ByteArray)
 | 0, _, _, _, _, _, _ => none
 | k + 1, x0, x1, x14, x15, x16, x301002 => if x16 < x15 then (if 0 ≤ x16 then (if x16 < (x14.length : Int) then ((whole_Lcm.f k x301002 ((rd_T30 x14 x16).f1)).bind fun t303 => (size_termsOf.l0 k x0 x1 x14 x15 (wrap64 (x16 + 1)) t303)) else (none)) else (none)) else (size_termsOf.l1 k x0 x1 (x1.length : Int) 0 ([] : List Int) ([] : List ByteArray) x301002)
def size_termsOf.l1 : Nat → List Int → List (S30) → Int → Int → List Int → List ByteArray → ByteArray → Option (List Int × List ByteArray × ByteArray)
 | 0, _, _, _, _, _, _, _ => none
 | k + 1, x0, x27, x28, x29, x301000, x301001, x301002 => if x29 < x28 then (if 0 ≤ x29 then (if x29 < (x27.length : Int) then (if ((rd_T30 x27 x29).f0).toList = ([48] : List UInt8) then (size_termsOf.l1 k x0 x27 x28 (wrap64 (x29 + 1)) x301000 x301001 x301002) else ((whole_DivMod.f k x301002 ((rd_T30 x27 x29).f1)).bind fun bt306 => (if x29 < (x0.length : Int) then (if x301000.length < 17592186044416 then ((whole_Mul.f k ((rd_T30 x27 x29).f0) bt306.1).bind fun t313 => (if x301001.length < 8796093022208 then (size_termsOf.l1 k x0 x27 x28 (wrap64 (x29 + 1)) (x301000 ++ [rd x0 x29]) (x301001 ++ [t313]) x301002) else (none))) else (none)) else (none)))) else (none)) else (none)) else (some (x301000, x301001, x301002))
end
def size_termsOf.f (k : Nat) (l0 : List Int) (l1 : List (S30)) : Option (List Int × List ByteArray × ByteArray) := size_termsOf.l0 k l0 l1 l1 (l1.length : Int) 0 (⟨#[49]⟩ : ByteArray)
def size_termsOf.T12 : Bool × List (List Nat × List Nat) := (true, [([], []), ([0], [0]), ([], []), ([], []), ([2, 3], [2, 3]), ([4], [4]), ([5], [5]), ([1, 6], [1, 6]), ([], []), ([8], [8]), ([], []), ([10], [10]), ([], []), ([11, 12, 7], [11, 12]), ([13], [13]), ([9, 14, 13], [9, 14]), ([0, 1, 2, 3, 4, 5, 6, 7, 8, 9], []), ([16, 7, 15, 0, 1, 2, 3, 4, 5, 6, 7, 8, 9], [7, 16]), ([0, 1, 2, 3, 4, 5, 6, 7, 8, 9, 10, 11, 12, 13, 14, 15, 16, 17], []), ([18, 15, 17, 0, 1, 2, 3, 4, 5, 6, 7, 8, 9, 10, 11, 12, 13, 14, 15, 16, 17], [15, 18])])
def size_termsOf.B12 : List Nat := [0, 1, 0, 0, 12, 28, 60, 127, 0, 256, 0, 1024, 0, 7423, 15615, 32767, 1023, 131071, 262143, 524287]
theorem size_termsOf.tab12 : rtab .any (opsOf Tryz.f66 12) = size_termsOf.T12 := by kernel_rfl
theorem size_termsOf.bits12 : waitsOk size_termsOf.T12.2 size_termsOf.B12 = true := by kernel_rfl
set_option maxHeartbeats 8000000 in
set_option maxRecDepth 100000 in
theorem size_termsOf.calls (k : Nat) (A0 : Option Addr) (c0 : Nat) (l0 : List Int) (A1 : Option Addr) (c1 : Nat) (l1 : List (S30)) (r1 : List Int) (r2 : List ByteArray) (r3 : ByteArray) (w : World) (hG : Glob w) (hr0 : Kd.C (Kd.int .i64) w A0 l0.length l0) (hc0 : l0.length ≤ c0) (hr1 : Kd.C k30 w A1 l1.length l1) (hc1 : l1.length ≤ c1) (h : size_termsOf.f k l0 l1 = some (r1, r2, r3)) :
  Calls Tryz.prog 66 #[.slice A0 l0.length c0, .slice A1 l1.length c1] w fun e w' => ∃ v0_ v1_ : Value, e = .returned (.agg #[v0_, v1_, .string r3]) ∧ Kd.R (Kd.int .i64) 3 w' w.heap.size (fun _ => True) v0_ r1 ∧ Kd.R Kd.string 28 w' w.heap.size (fun _ => True) v1_ r2 ∧ Below w.heap.size w w' := by
 have hu103 := Tryz.underlying103
 have hu30 := Tryz.underlying30
 have HR0 := Aside0.mk hr0
 have HC0 := Aside0.mk hc0
 clear hr0 hc0
 have HR1 := Aside0.mk hr1
 have HC1 := Aside0.mk hc1
 clear hr1 hc1
 have HG0 := Aside0.mk hG
 clear hG
 have HB := Aside0.mk (Below.refl w.heap.size w)
 have H : (size_termsOf.l0 k l0 l1 l1 (l1.length : Int) 0 (⟨#[49]⟩ : ByteArray)) = some (r1, r2, r3) := h
 clear h
 have H' := Aside0.mk H
 clear H
 go_enter Tryz.func66, Tryz.ntmps66
 go_wp2_with (first | ((with_reducible refine gate_dst (N := 4) rfl ?_); refine boxM (N := 4) #[.slice none 0 0, .slice none 0 0, .string (⟨#[]⟩ : ByteArray)] 103 ?_; intro gb299 hg w3 hbox hb; have BK299 := Aside0.mk (hbox); have GW299 := Aside0.mk ((by rw [hg]; exact (below_size (bl HB)) : w.heap.size ≤ gb299)); have GE299 := Aside0.mk ((by rw [hg]; exact (below_size (bl HB)) : w.heap.size ≤ gb299)); replace HB := Aside0.mk (below_step (bl HB) hb); clear hb hbox hg) | ((with_reducible refine gate_dst (N := 5) rfl ?_); refine boxM (N := 5) #[.slice none 0 0, .slice none 0 0, .string (⟨#[]⟩ : ByteArray)] 103 ?_; intro gb300 hg w4 hbox hb; have BK300 := Aside0.mk (hbox); have GW300 := Aside0.mk ((by rw [hg]; exact (below_size (bl HB)) : w.heap.size ≤ gb300)); have GE300 := Aside0.mk ((by rw [hg]; exact (below_size (bl HB)) : w.heap.size ≤ gb300)); replace HB := Aside0.mk (below_step (bl HB) hb); have NB299_300 := Aside0.mk ((by rw [hg]; exact Nat.ne_of_lt (blk_lt (g := gb299) (o := .cells #[.slice none 0 0, .slice none 0 0, .string (⟨#[]⟩ : ByteArray)] 103 (0, 0)) (bk BK299)) : gb299 ≠ gb300)); have NB300_299 := Aside0.mk ((by rw [hg]; exact Nat.ne_of_gt (blk_lt (g := gb299) (o := .cells #[.slice none 0 0, .slice none 0 0, .string (⟨#[]⟩ : ByteArray)] 103 (0, 0)) (bk BK299)) : gb300 ≠ gb299)); replace BK299 := Aside0.mk (blk_below (g := gb299) (o := .cells #[.slice none 0 0, .slice none 0 0, .string (⟨#[]⟩ : ByteArray)] 103 (0, 0)) (bk BK299) hb); clear hb hbox hg; have hnb5 := NB300_299.out; have hnc5 := NB299_300.out; have hcz6_0 : w4.cell? ⟨gb300, 0, none⟩ = some (.slice none 0 0) := (blk_cell BK300.out 0).trans rfl; have hcz6_1 : w4.cell? ⟨gb300, 1, none⟩ = some (.slice none 0 0) := (blk_cell BK300.out 1).trans rfl; have hcz6_2 : w4.cell? ⟨gb300, 2, none⟩ = some (.string (⟨#[]⟩ : ByteArray)) := (blk_cell BK300.out 2).trans rfl; have hfz6_0 := blk_frozen BK300.out 0; have hfz6_1 := blk_frozen BK300.out 1; have hfz6_2 := blk_frozen BK300.out 2))
 go_loopg [16] k (fun kq v16 w' => ∃ (x16_1 : Int) (x301002_1 : ByteArray), v16 = .int .i64 x16_1 ∧ Aside0 (size_termsOf.l0 kq l0 l1 l1 (l1.length : Int) x16_1 x301002_1 = some (r1, r2, r3)) ∧ Aside0 (kq ≤ k) ∧ Aside0 (w'.heap[gb299]? = some (.cells #[(.slice none 0 0), (.slice none 0 0), .string (⟨#[]⟩ : ByteArray)] 103 (0, 0))) ∧ Aside0 (w'.heap[gb300]? = some (.cells #[(.slice none 0 0), (.slice none 0 0), .string x301002_1] 103 (0, 0))) ∧ Aside0 (Below w.heap.size w w'))
 case atStart => exact ⟨(0), ((⟨#[49]⟩ : ByteArray)), rs, H', ⟨Nat.le_refl _⟩, ⟨by (with_reducible repeat (first | refine blk_drewN ?_ _ | refine blk_drew ?_ | refine blk_alloc ?_ _)); refine blk_far ?_ NB299_300.out _; (with_reducible repeat (first | refine blk_drewN ?_ _ | refine blk_drew ?_ | refine blk_alloc ?_ _)); refine blk_far ?_ NB299_300.out _; (with_reducible repeat (first | refine blk_drewN ?_ _ | refine blk_drew ?_ | refine blk_alloc ?_ _)); refine blk_far ?_ NB299_300.out _; (with_reducible repeat (first | refine blk_drewN ?_ _ | refine blk_drew ?_ | refine blk_alloc ?_ _)); exact BK299.out⟩, ⟨by (with_reducible repeat (first | refine blk_drewN ?_ _ | refine blk_drew ?_ | refine blk_alloc ?_ _)); refine blk_put (cs := #[.slice none 0 0, .slice none 0 0, .string (⟨#[]⟩ : ByteArray)]) ?_ 2 _ rfl; (with_reducible repeat (first | refine blk_drewN ?_ _ | refine blk_drew ?_ | refine blk_alloc ?_ _)); refine blk_put (cs := #[.slice none 0 0, .slice none 0 0, .string (⟨#[]⟩ : ByteArray)]) ?_ 1 _ rfl; (with_reducible repeat (first | refine blk_drewN ?_ _ | refine blk_drew ?_ | refine blk_alloc ?_ _)); refine blk_put (cs := #[.slice none 0 0, .slice none 0 0, .string (⟨#[]⟩ : ByteArray)]) ?_ 0 _ rfl; (with_reducible repeat (first | refine blk_drewN ?_ _ | refine blk_drew ?_ | refine blk_alloc ?_ _)); exact BK300.out⟩, ⟨bl HB⟩⟩
 case round =>
  clear H'
  try clear c1
  try clear p2
  try clear c5
  try clear c6
  try clear hcz6_0
  try clear hcz6_1
  try clear hcz6_2
  try clear hfz6_0
  try clear hfz6_1
  try clear hfz6_2
  obtain ⟨x16_1, x301002_1, rfl, HA, HK1, BK299, BK300, HB⟩ := hrel
  cases gk with
  | zero => exact absurd HA.out (by simp [size_termsOf.l0])
  | succ k1 =>
   have H := HA.out
   clear HA
   simp only [size_termsOf.l0] at H
   by_cases c7 : x16_1 < (l1.length : Int)
   ·rw [if_pos c7] at H
    have c7b0 : decide (x16_1 < (l1.length : Int)) = true := decide_eq_true c7
    clear c7
    by_cases c8 : 0 ≤ x16_1
    ·rw [if_pos c8] at H
     have c8b0 : decide (0 ≤ x16_1) = true := decide_eq_true c8
     clear c8
     by_cases c9 : x16_1 < (l1.length : Int)
     ·rw [if_pos c9] at H
      have c9b0 : decide (x16_1 < (l1.length : Int)) = true := decide_eq_true c9
      clear c9
      replace H := Option.bind_eq_some_iff.mp H
      obtain ⟨t303, A100, H⟩ := H
      replace H : (size_termsOf.l0 k1 l0 l1 l1 (l1.length : Int) (wrap64 (x16_1 + 1)) t303) = some (r1, r2, r3) := H
      have A10 := Aside0.mk A100
      clear A100
      have H' := Aside0.mk H
      clear H
      have p301 : 0 ≤ (x16_1 : Int) := of_decide_eq_true (by first | (with_reducible assumption) | assumption)
      have q301 : x16_1 < (l1.length : Int) := of_decide_eq_true (by first | (with_reducible assumption) | assumption)
      obtain ⟨ad301, e301, hx301_0, hx301_1⟩ := at_T30 HR1.out x16_1 p301 q301
      cases e301
      replace hx301_0 := (HB.out.cell (World.block_lt_of_cell? w _ hx301_0)).trans hx301_0
      replace hx301_1 := (HB.out.cell (World.block_lt_of_cell? w _ hx301_1)).trans hx301_1
      replace p301 := eq_true p301
      replace q301 := eq_true q301
      go_wp2_with (first | ((with_reducible refine gate_dst (N := 7) rfl ?_); refine boxM (N := 7) #[.string (⟨#[]⟩ : ByteArray), .string (⟨#[]⟩ : ByteArray)] 30 ?_; intro gb302 hg w11 hbox hb; have BK302 := Aside0.mk (hbox); have GW302 := Aside0.mk ((by rw [hg]; exact (below_size (bl HB)) : w.heap.size ≤ gb302)); have GE302 := Aside0.mk ((by rw [hg]; exact (below_size (bl HB)) : w.heap.size ≤ gb302)); replace HB := Aside0.mk (below_step (bl HB) hb); have NB299_302 := Aside0.mk ((by rw [hg]; exact Nat.ne_of_lt (blk_lt (g := gb299) (o := .cells #[.slice none 0 0, .slice none 0 0, .string (⟨#[]⟩ : ByteArray)] 103 (0, 0)) (bk BK299)) : gb299 ≠ gb302)); have NB302_299 := Aside0.mk ((by rw [hg]; exact Nat.ne_of_gt (blk_lt (g := gb299) (o := .cells #[.slice none 0 0, .slice none 0 0, .string (⟨#[]⟩ : ByteArray)] 103 (0, 0)) (bk BK299)) : gb302 ≠ gb299)); replace BK299 := Aside0.mk (blk_below (g := gb299) (o := .cells #[.slice none 0 0, .slice none 0 0, .string (⟨#[]⟩ : ByteArray)] 103 (0, 0)) (bk BK299) hb); have NB300_302 := Aside0.mk ((by rw [hg]; exact Nat.ne_of_lt (blk_lt (g := gb300) (o := .cells #[.slice none 0 0, .slice none 0 0, .string x301002_1] 103 (0, 0)) (bk BK300)) : gb300 ≠ gb302)); have NB302_300 := Aside0.mk ((by rw [hg]; exact Nat.ne_of_gt (blk_lt (g := gb300) (o := .cells #[.slice none 0 0, .slice none 0 0, .string x301002_1] 103 (0, 0)) (bk BK300)) : gb302 ≠ gb300)); replace BK300 := Aside0.mk (blk_below (g := gb300) (o := .cells #[.slice none 0 0, .slice none 0 0, .string x301002_1] 103 (0, 0)) (bk BK300) hb); clear hb hbox hg; have hnb12 := NB302_299.out; have hnc12 := NB299_302.out; have hnb13 := NB302_300.out; have hnc13 := NB300_302.out; have hcz14_0 : w11.cell? ⟨gb302, 0, none⟩ = some (.string (⟨#[]⟩ : ByteArray)) := (blk_cell BK302.out 0).trans rfl; have hcz14_1 : w11.cell? ⟨gb302, 1, none⟩ = some (.string (⟨#[]⟩ : ByteArray)) := (blk_cell BK302.out 1).trans rfl; have hfz14_0 := blk_frozen BK302.out 0; have hfz14_1 := blk_frozen BK302.out 1; have hnb15 := NB300_299.out; have hnc15 := NB299_300.out; have hcz16_0 : w11.cell? ⟨gb300, 0, none⟩ = some (.slice none 0 0) := (blk_cell BK300.out 0).trans rfl; have hcz16_1 : w11.cell? ⟨gb300, 1, none⟩ = some (.slice none 0 0) := (blk_cell BK300.out 1).trans rfl; have hcz16_2 : w11.cell? ⟨gb300, 2, none⟩ = some (.string x301002_1) := (blk_cell BK300.out 2).trans rfl; have hfz16_0 := blk_frozen BK300.out 0; have hfz16_1 := blk_frozen BK300.out 1; have hfz16_2 := blk_frozen BK300.out 2) | ((with_reducible refine gate_callee (f := 106) rfl ?_); refine goesM (some 24) Tryz.func106 #[.string x301002_1, .string ((rd_T30 l1 x16_1).f1)] ?_; (with_reducible refine (whole_Lcm.calls k1 x301002_1 ((rd_T30 l1 x16_1).f1) t303 _ ?side1 A10.out).mono ?_); (case side1 => exact Glob.below HG0.out (bl HB)); rintro e w17 ⟨rfl, hb⟩; refine ⟨_, rfl, ?_⟩; replace BK299 := Aside0.mk (blk_below (g := gb299) (o := .cells #[.slice none 0 0, .slice none 0 0, .string (⟨#[]⟩ : ByteArray)] 103 (0, 0)) (by (with_reducible repeat (first | refine blk_drewN ?_ _ | refine blk_drew ?_ | refine blk_alloc ?_ _)); refine blk_far ?_ NB299_302.out _; (with_reducible repeat (first | refine blk_drewN ?_ _ | refine blk_drew ?_ | refine blk_alloc ?_ _)); refine blk_far ?_ NB299_302.out _; (with_reducible repeat (first | refine blk_drewN ?_ _ | refine blk_drew ?_ | refine blk_alloc ?_ _)); exact BK299.out) hb); replace BK300 := Aside0.mk (blk_below (g := gb300) (o := .cells #[.slice none 0 0, .slice none 0 0, .string x301002_1] 103 (0, 0)) (by (with_reducible repeat (first | refine blk_drewN ?_ _ | refine blk_drew ?_ | refine blk_alloc ?_ _)); refine blk_far ?_ NB300_302.out _; (with_reducible repeat (first | refine blk_drewN ?_ _ | refine blk_drew ?_ | refine blk_alloc ?_ _)); refine blk_far ?_ NB300_302.out _; (with_reducible repeat (first | refine blk_drewN ?_ _ | refine blk_drew ?_ | refine blk_alloc ?_ _)); exact BK300.out) hb); replace BK302 := Aside0.mk (blk_below (g := gb302) (o := .cells #[.string ((rd_T30 l1 x16_1).f0), .string ((rd_T30 l1 x16_1).f1)] 30 (0, 0)) (by (with_reducible repeat (first | refine blk_drewN ?_ _ | refine blk_drew ?_ | refine blk_alloc ?_ _)); refine blk_put (cs := #[.string ((rd_T30 l1 x16_1).f0), .string (⟨#[]⟩ : ByteArray)]) ?_ 1 _ rfl; (with_reducible repeat (first | refine blk_drewN ?_ _ | refine blk_drew ?_ | refine blk_alloc ?_ _)); refine blk_put (cs := #[.string (⟨#[]⟩ : ByteArray), .string (⟨#[]⟩ : ByteArray)]) ?_ 0 _ rfl; (with_reducible repeat (first | refine blk_drewN ?_ _ | refine blk_drew ?_ | refine blk_alloc ?_ _)); exact BK302.out) hb); replace HB := Aside0.mk (below_step (bl HB) hb); (try clear hb); (try clear hb2); (try clear hk); (try clear hi); have hcz18_0 : w17.cell? ⟨gb300, 0, none⟩ = some (.slice none 0 0) := (blk_cell BK300.out 0).trans rfl; have hcz18_1 : w17.cell? ⟨gb300, 1, none⟩ = some (.slice none 0 0) := (blk_cell BK300.out 1).trans rfl; have hcz18_2 : w17.cell? ⟨gb300, 2, none⟩ = some (.string x301002_1) := (blk_cell BK300.out 2).trans rfl; have hfz18_0 := blk_frozen BK300.out 0; have hfz18_1 := blk_frozen BK300.out 1; have hfz18_2 := blk_frozen BK300.out 2))
      go_roundg k1
      case measure => have := HK1.out; omega
      case rel => exact ⟨(wrap64 (x16_1 + 1)), (t303), rs, H', ⟨by have := HK1.out; omega⟩, ⟨by (with_reducible repeat (first | refine blk_drewN ?_ _ | refine blk_drew ?_ | refine blk_alloc ?_ _)); refine blk_far ?_ NB299_300.out _; (with_reducible repeat (first | refine blk_drewN ?_ _ | refine blk_drew ?_ | refine blk_alloc ?_ _)); exact BK299.out⟩, ⟨by (with_reducible repeat (first | refine blk_drewN ?_ _ | refine blk_drew ?_ | refine blk_alloc ?_ _)); refine blk_put (cs := #[.slice none 0 0, .slice none 0 0, .string x301002_1]) ?_ 2 _ rfl; (with_reducible repeat (first | refine blk_drewN ?_ _ | refine blk_drew ?_ | refine blk_alloc ?_ _)); exact BK300.out⟩, ⟨bl HB⟩⟩
     ·rw [if_neg c9] at H
      exact absurd H (by simp)
    ·rw [if_neg c8] at H
     exact absurd H (by simp)
   ·rw [if_neg c7] at H
    have c7b0 : decide (x16_1 < (l1.length : Int)) = false := decide_eq_false c7
    clear c7
    have H' := Aside0.mk H
    clear H
    go_wp2
    go_loopg [29] k1 (fun kq v29 w' => ∃ (x29_2 : Int) (x301000_2 : List Int) (x301001_2 : List ByteArray) (u301000 : Value) (u301001 : Value), v29 = .int .i64 x29_2 ∧ Aside0 (size_termsOf.l1 kq l0 l1 (l1.length : Int) x29_2 x301000_2 x301001_2 x301002_1 = some (r1, r2, r3)) ∧ Aside0 (kq ≤ k1) ∧ Aside0 (Kd.R (Kd.int .i64) 3 w' w.heap.size (fun _ => True) u301000 x301000_2) ∧ Aside0 (Kd.R Kd.string 28 w' w.heap.size (fun _ => True) u301001 x301001_2) ∧ Aside0 (w'.heap[gb299]? = some (.cells #[(.slice none 0 0), (.slice none 0 0), .string (⟨#[]⟩ : ByteArray)] 103 (0, 0))) ∧ Aside0 (w'.heap[gb300]? = some (.cells #[u301000, u301001, .string x301002_1] 103 (0, 0))) ∧ Aside0 (Below w.heap.size w w'))
    case atStart => exact ⟨(0), (([] : List Int)), (([] : List ByteArray)), (.slice none 0 0), (.slice none 0 0), rs, H', ⟨Nat.le_refl _⟩, ⟨by first | exact Kd.R_nil _ _ _ _ _ | exact Kd.N_nil _ _ _ _ _ | exact Kd.V_nil _ _ _ _ _ | exact Kd.Q_nil _ _ _ _ _ | exact Kd.S_nil _ _ _ _ _⟩, ⟨by first | exact Kd.R_nil _ _ _ _ _ | exact Kd.N_nil _ _ _ _ _ | exact Kd.V_nil _ _ _ _ _ | exact Kd.Q_nil _ _ _ _ _ | exact Kd.S_nil _ _ _ _ _⟩, ⟨bk BK299⟩, ⟨bk BK300⟩, ⟨bl HB⟩⟩
    case round =>
     clear H'
     try clear c1
     try clear p2
     try clear p3
     try clear q3
     try clear hx3
     try clear c5
     try clear c6
     try clear p6
     try clear c7
     try clear c7b0
     try clear c8
     try clear c8b0
     try clear c9
     try clear c9b0
     try clear c10
     try clear c12
     try clear c13
     try clear c15
     try clear hcz14_0
     try clear hcz14_1
     try clear hcz16_0
     try clear hcz16_1
     try clear hcz16_2
     try clear hcz18_0
     try clear hcz18_1
     try clear hcz18_2
     try clear hcz6_0
     try clear hcz6_1
     try clear hcz6_2
     try clear hfz14_0
     try clear hfz14_1
     try clear hfz16_0
     try clear hfz16_1
     try clear hfz16_2
     try clear hfz18_0
     try clear hfz18_1
     try clear hfz18_2
     try clear hfz6_0
     try clear hfz6_1
     try clear hfz6_2
     try clear hx301_0
     try clear hx301_1
     try clear p2
     try clear p301
     try clear q301
     obtain ⟨x29_2, x301000_2, x301001_2, u301000, u301001, rfl, HA, HK2, HO_301000, HO_301001, BK299, BK300, HB⟩ := hrel
     cases gk with
     | zero => exact absurd HA.out (by simp [size_termsOf.l1])
     | succ k2 =>
      have H := HA.out
      clear HA
      simp only [size_termsOf.l1] at H
      by_cases c19 : x29_2 < (l1.length : Int)
      ·rw [if_pos c19] at H
       have c19b0 : decide (x29_2 < (l1.length : Int)) = true := decide_eq_true c19
       clear c19
       by_cases c20 : 0 ≤ x29_2
       ·rw [if_pos c20] at H
        have c20b0 : decide (0 ≤ x29_2) = true := decide_eq_true c20
        clear c20
        by_cases c21 : x29_2 < (l1.length : Int)
        ·rw [if_pos c21] at H
         have c21b0 : decide (x29_2 < (l1.length : Int)) = true := decide_eq_true c21
         clear c21
         by_cases c22 : ((rd_T30 l1 x29_2).f0).toList = ([48] : List UInt8)
         ·rw [if_pos c22] at H
          have c22b0 : (((rd_T30 l1 x29_2).f0).toList == ([48] : List UInt8)) = true := beq_iff_eq.mpr c22
          have c22b1 : (((rd_T30 l1 x29_2).f0).toList != ([48] : List UInt8)) = false := bne_eq_false_iff_eq.mpr c22
          clear c22
          have H' := Aside0.mk H
          clear H
          have p304 : 0 ≤ (x29_2 : Int) := of_decide_eq_true (by first | (with_reducible assumption) | assumption)
          have q304 : x29_2 < (l1.length : Int) := of_decide_eq_true (by first | (with_reducible assumption) | assumption)
          obtain ⟨ad304, e304, hx304_0, hx304_1⟩ := at_T30 HR1.out x29_2 p304 q304
          cases e304
          replace hx304_0 := (HB.out.cell (World.block_lt_of_cell? w _ hx304_0)).trans hx304_0
          replace hx304_1 := (HB.out.cell (World.block_lt_of_cell? w _ hx304_1)).trans hx304_1
          replace p304 := eq_true p304
          replace q304 := eq_true q304
          go_wp2_with (first | ((with_reducible refine gate_dst (N := 9) rfl ?_); refine boxM (N := 9) #[.string (⟨#[]⟩ : ByteArray), .string (⟨#[]⟩ : ByteArray)] 30 ?_; intro gb305 hg w23 hbox hb; replace HO_301000 := Aside0.mk (Kd.R_below (kr HO_301000) hb); replace HO_301001 := Aside0.mk (Kd.R_below (kr HO_301001) hb); have BK305 := Aside0.mk (hbox); have GW305 := Aside0.mk ((by rw [hg]; exact (below_size (bl HB)) : w.heap.size ≤ gb305)); have GE305 := Aside0.mk ((by rw [hg]; exact (below_size (bl HB)) : w.heap.size ≤ gb305)); replace HB := Aside0.mk (below_step (bl HB) hb); have NB299_305 := Aside0.mk ((by rw [hg]; exact Nat.ne_of_lt (blk_lt (g := gb299) (o := .cells #[.slice none 0 0, .slice none 0 0, .string (⟨#[]⟩ : ByteArray)] 103 (0, 0)) (bk BK299)) : gb299 ≠ gb305)); have NB305_299 := Aside0.mk ((by rw [hg]; exact Nat.ne_of_gt (blk_lt (g := gb299) (o := .cells #[.slice none 0 0, .slice none 0 0, .string (⟨#[]⟩ : ByteArray)] 103 (0, 0)) (bk BK299)) : gb305 ≠ gb299)); replace BK299 := Aside0.mk (blk_below (g := gb299) (o := .cells #[.slice none 0 0, .slice none 0 0, .string (⟨#[]⟩ : ByteArray)] 103 (0, 0)) (bk BK299) hb); have NB300_305 := Aside0.mk ((by rw [hg]; exact Nat.ne_of_lt (blk_lt (g := gb300) (o := .cells #[u301000, u301001, .string x301002_1] 103 (0, 0)) (bk BK300)) : gb300 ≠ gb305)); have NB305_300 := Aside0.mk ((by rw [hg]; exact Nat.ne_of_gt (blk_lt (g := gb300) (o := .cells #[u301000, u301001, .string x301002_1] 103 (0, 0)) (bk BK300)) : gb305 ≠ gb300)); replace BK300 := Aside0.mk (blk_below (g := gb300) (o := .cells #[u301000, u301001, .string x301002_1] 103 (0, 0)) (bk BK300) hb); clear hb hbox hg; have hnb24 := NB305_299.out; have hnc24 := NB299_305.out; have hnb25 := NB305_300.out; have hnc25 := NB300_305.out; have hcz26_0 : w23.cell? ⟨gb305, 0, none⟩ = some (.string (⟨#[]⟩ : ByteArray)) := (blk_cell BK305.out 0).trans rfl; have hcz26_1 : w23.cell? ⟨gb305, 1, none⟩ = some (.string (⟨#[]⟩ : ByteArray)) := (blk_cell BK305.out 1).trans rfl; have hfz26_0 := blk_frozen BK305.out 0; have hfz26_1 := blk_frozen BK305.out 1))
          go_roundg k2
          case measure => have := HK1.out; have := HK2.out; omega
          case rel => exact ⟨(wrap64 (x29_2 + 1)), (x301000_2), (x301001_2), (u301000), (u301001), rs, H', ⟨by have := HK1.out; have := HK2.out; omega⟩, ⟨by (with_reducible repeat (first | apply Kd.R_alloc | apply Kd.R_drewN | apply Kd.R_drew)); exact Kd.R_mono (Kd.R_far (p := ⟨gb305, 1, none⟩) (Kd.R_far (p := ⟨gb305, 0, none⟩) (Kd.R_types HO_301000.out BK305.out (by decide)) (fun _ hk => hk.2) (.string ((rd_T30 l1 x29_2).f0))) (fun _ hk => hk.2) (.string ((rd_T30 l1 x29_2).f1))) (fun _ hk => trivial)⟩, ⟨by (with_reducible repeat (first | apply Kd.R_alloc | apply Kd.R_drewN | apply Kd.R_drew)); exact Kd.R_mono (Kd.R_far (p := ⟨gb305, 1, none⟩) (Kd.R_far (p := ⟨gb305, 0, none⟩) (Kd.R_types HO_301001.out BK305.out (by decide)) (fun _ hk => hk.2) (.string ((rd_T30 l1 x29_2).f0))) (fun _ hk => hk.2) (.string ((rd_T30 l1 x29_2).f1))) (fun _ hk => trivial)⟩, ⟨by (with_reducible repeat (first | refine blk_drewN ?_ _ | refine blk_drew ?_ | refine blk_alloc ?_ _)); refine blk_far ?_ NB299_305.out _; (with_reducible repeat (first | refine blk_drewN ?_ _ | refine blk_drew ?_ | refine blk_alloc ?_ _)); refine blk_far ?_ NB299_305.out _; (with_reducible repeat (first | refine blk_drewN ?_ _ | refine blk_drew ?_ | refine blk_alloc ?_ _)); exact BK299.out⟩, ⟨by (with_reducible repeat (first | refine blk_drewN ?_ _ | refine blk_drew ?_ | refine blk_alloc ?_ _)); refine blk_far ?_ NB300_305.out _; (with_reducible repeat (first | refine blk_drewN ?_ _ | refine blk_drew ?_ | refine blk_alloc ?_ _)); refine blk_far ?_ NB300_305.out _; (with_reducible repeat (first | refine blk_drewN ?_ _ | refine blk_drew ?_ | refine blk_alloc ?_ _)); exact BK300.out⟩, ⟨bl HB⟩⟩
         ·rw [if_neg c22] at H
          have c22b0 : (((rd_T30 l1 x29_2).f0).toList == ([48] : List UInt8)) = false := beq_eq_false_iff_ne.mpr c22
          have c22b1 : (((rd_T30 l1 x29_2).f0).toList != ([48] : List UInt8)) = true := bne_iff_ne.mpr c22
          replace H := Option.bind_eq_some_iff.mp H
          obtain ⟨⟨t306, t307, t308⟩, A270, H⟩ := H
          replace H : (if x29_2 < (l0.length : Int) then (if x301000_2.length < 17592186044416 then ((whole_Mul.f k2 ((rd_T30 l1 x29_2).f0) t306).bind fun t313 => (if x301001_2.length < 8796093022208 then (size_termsOf.l1 k2 l0 l1 (l1.length : Int) (wrap64 (x29_2 + 1)) (x301000_2 ++ [rd l0 x29_2]) (x301001_2 ++ [t313]) x301002_1) else (none))) else (none)) else (none)) = some (r1, r2, r3) := H
          have A27 := Aside0.mk A270
          clear A270
          by_cases c28 : x29_2 < (l0.length : Int)
          ·rw [if_pos c28] at H
           have c28b0 : decide (x29_2 < (l0.length : Int)) = true := decide_eq_true c28
           clear c28
           by_cases c29 : x301000_2.length < 17592186044416
           ·rw [if_pos c29] at H
            have LMc29 := Aside0.mk c29
            clear c29
            obtain ⟨y310, hy310⟩ : ∃ y_ : List Int, y_ = (x301000_2 ++ [rd l0 x29_2]) := ⟨_, rfl⟩
            replace H : ((whole_Mul.f k2 ((rd_T30 l1 x29_2).f0) t306).bind fun t313 => (if x301001_2.length < 8796093022208 then (size_termsOf.l1 k2 l0 l1 (l1.length : Int) (wrap64 (x29_2 + 1)) y310 (x301001_2 ++ [t313]) x301002_1) else (none))) = some (r1, r2, r3) := by first | (rw [hy310]; with_reducible exact H) | (have H2_ := (Option.bind_some _ _).symm.trans H; rw [hy310]; with_reducible exact H2_) | (have H2_ := (Option.bind_some _ _).symm.trans H; with_reducible exact H2_) | with_reducible exact H | (rw [hy310]; exact H) | exact H
            have Ny310 := Aside0.mk hy310
            clear hy310
            replace H := Option.bind_eq_some_iff.mp H
            obtain ⟨t313, A300, H⟩ := H
            replace H : (if x301001_2.length < 8796093022208 then (size_termsOf.l1 k2 l0 l1 (l1.length : Int) (wrap64 (x29_2 + 1)) y310 (x301001_2 ++ [t313]) x301002_1) else (none)) = some (r1, r2, r3) := H
            have A30 := Aside0.mk A300
            clear A300
            by_cases c31 : x301001_2.length < 8796093022208
            ·rw [if_pos c31] at H
             have LMc31 := Aside0.mk c31
             clear c31
             obtain ⟨y314, hy314⟩ : ∃ y_ : List ByteArray, y_ = (x301001_2 ++ [t313]) := ⟨_, rfl⟩
             replace H : (size_termsOf.l1 k2 l0 l1 (l1.length : Int) (wrap64 (x29_2 + 1)) y310 y314 x301002_1) = some (r1, r2, r3) := by first | (rw [hy314]; with_reducible exact H) | (have H2_ := (Option.bind_some _ _).symm.trans H; rw [hy314]; with_reducible exact H2_) | (have H2_ := (Option.bind_some _ _).symm.trans H; with_reducible exact H2_) | with_reducible exact H | (rw [hy314]; exact H) | exact H
             have Ny314 := Aside0.mk hy314
             clear hy314
             have H' := Aside0.mk H
             clear H
             have p304 : 0 ≤ (x29_2 : Int) := of_decide_eq_true (by first | (with_reducible assumption) | assumption)
             have q304 : x29_2 < (l1.length : Int) := of_decide_eq_true (by first | (with_reducible assumption) | assumption)
             obtain ⟨ad304, e304, hx304_0, hx304_1⟩ := at_T30 HR1.out x29_2 p304 q304
             cases e304
             replace hx304_0 := (HB.out.cell (World.block_lt_of_cell? w _ hx304_0)).trans hx304_0
             replace hx304_1 := (HB.out.cell (World.block_lt_of_cell? w _ hx304_1)).trans hx304_1
             replace p304 := eq_true p304
             replace q304 := eq_true q304
             try go_wp2_with (first | ((with_reducible refine gate_dst (N := 9) rfl ?_); refine boxM (N := 9) #[.string (⟨#[]⟩ : ByteArray), .string (⟨#[]⟩ : ByteArray)] 30 ?_; intro gb305 hg w32 hbox hb; replace HO_301000 := Aside0.mk (Kd.R_below (kr HO_301000) hb); replace HO_301001 := Aside0.mk (Kd.R_below (kr HO_301001) hb); have BK305 := Aside0.mk (hbox); have GW305 := Aside0.mk ((by rw [hg]; exact (below_size (bl HB)) : w.heap.size ≤ gb305)); have GE305 := Aside0.mk ((by rw [hg]; exact (below_size (bl HB)) : w.heap.size ≤ gb305)); replace HB := Aside0.mk (below_step (bl HB) hb); have NB299_305 := Aside0.mk ((by rw [hg]; exact Nat.ne_of_lt (blk_lt (g := gb299) (o := .cells #[.slice none 0 0, .slice none 0 0, .string (⟨#[]⟩ : ByteArray)] 103 (0, 0)) (bk BK299)) : gb299 ≠ gb305)); have NB305_299 := Aside0.mk ((by rw [hg]; exact Nat.ne_of_gt (blk_lt (g := gb299) (o := .cells #[.slice none 0 0, .slice none 0 0, .string (⟨#[]⟩ : ByteArray)] 103 (0, 0)) (bk BK299)) : gb305 ≠ gb299)); replace BK299 := Aside0.mk (blk_below (g := gb299) (o := .cells #[.slice none 0 0, .slice none 0 0, .string (⟨#[]⟩ : ByteArray)] 103 (0, 0)) (bk BK299) hb); have NB300_305 := Aside0.mk ((by rw [hg]; exact Nat.ne_of_lt (blk_lt (g := gb300) (o := .cells #[u301000, u301001, .string x301002_1] 103 (0, 0)) (bk BK300)) : gb300 ≠ gb305)); have NB305_300 := Aside0.mk ((by rw [hg]; exact Nat.ne_of_gt (blk_lt (g := gb300) (o := .cells #[u301000, u301001, .string x301002_1] 103 (0, 0)) (bk BK300)) : gb305 ≠ gb300)); replace BK300 := Aside0.mk (blk_below (g := gb300) (o := .cells #[u301000, u301001, .string x301002_1] 103 (0, 0)) (bk BK300) hb); clear hb hbox hg; have hnb33 := NB305_299.out; have hnc33 := NB299_305.out; have hnb34 := NB305_300.out; have hnc34 := NB300_305.out; have hcz35_0 : w32.cell? ⟨gb305, 0, none⟩ = some (.string (⟨#[]⟩ : ByteArray)) := (blk_cell BK305.out 0).trans rfl; have hcz35_1 : w32.cell? ⟨gb305, 1, none⟩ = some (.string (⟨#[]⟩ : ByteArray)) := (blk_cell BK305.out 1).trans rfl; have hfz35_0 := blk_frozen BK305.out 0; have hfz35_1 := blk_frozen BK305.out 1; have hnb36 := NB300_299.out; have hnc36 := NB299_300.out; have hcz37_0 : w32.cell? ⟨gb300, 0, none⟩ = some (u301000) := (blk_cell BK300.out 0).trans rfl; have hcz37_1 : w32.cell? ⟨gb300, 1, none⟩ = some (u301001) := (blk_cell BK300.out 1).trans rfl; have hcz37_2 : w32.cell? ⟨gb300, 2, none⟩ = some (.string x301002_1) := (blk_cell BK300.out 2).trans rfl; have hfz37_0 := blk_frozen BK300.out 0; have hfz37_1 := blk_frozen BK300.out 1; have hfz37_2 := blk_frozen BK300.out 2) | ((with_reducible refine gate_callee (f := 107) rfl ?_); refine goesM (some 42) Tryz.func107 #[.string x301002_1, .string ((rd_T30 l1 x29_2).f1)] ?_; (with_reducible refine (whole_DivMod.calls k2 x301002_1 ((rd_T30 l1 x29_2).f1) t306 t307 t308 _ ?side1 A27.out).mono ?_); (case side1 => exact Glob.below HG0.out (bl HB)); rintro e w38 ⟨rfl, hb⟩; refine ⟨_, rfl, ?_⟩; replace HO_301000 := Aside0.mk (Kd.R_below (by (with_reducible repeat (first | apply Kd.R_alloc | apply Kd.R_drewN | apply Kd.R_drew)); exact (Kd.R_mono (Kd.R_far (p := ⟨gb305, 1, none⟩) (Kd.R_far (p := ⟨gb305, 0, none⟩) (Kd.R_types HO_301000.out BK305.out (by decide)) (fun _ hk => hk.2) (.string ((rd_T30 l1 x29_2).f0))) (fun _ hk => hk.2) (.string ((rd_T30 l1 x29_2).f1))) (fun _ h_ => h_.1))) hb); replace HO_301001 := Aside0.mk (Kd.R_below (by (with_reducible repeat (first | apply Kd.R_alloc | apply Kd.R_drewN | apply Kd.R_drew)); exact (Kd.R_mono (Kd.R_far (p := ⟨gb305, 1, none⟩) (Kd.R_far (p := ⟨gb305, 0, none⟩) (Kd.R_types HO_301001.out BK305.out (by decide)) (fun _ hk => hk.2) (.string ((rd_T30 l1 x29_2).f0))) (fun _ hk => hk.2) (.string ((rd_T30 l1 x29_2).f1))) (fun _ h_ => h_.1))) hb); replace BK299 := Aside0.mk (blk_below (g := gb299) (o := .cells #[.slice none 0 0, .slice none 0 0, .string (⟨#[]⟩ : ByteArray)] 103 (0, 0)) (by (with_reducible repeat (first | refine blk_drewN ?_ _ | refine blk_drew ?_ | refine blk_alloc ?_ _)); refine blk_far ?_ NB299_305.out _; (with_reducible repeat (first | refine blk_drewN ?_ _ | refine blk_drew ?_ | refine blk_alloc ?_ _)); refine blk_far ?_ NB299_305.out _; (with_reducible repeat (first | refine blk_drewN ?_ _ | refine blk_drew ?_ | refine blk_alloc ?_ _)); exact BK299.out) hb); replace BK300 := Aside0.mk (blk_below (g := gb300) (o := .cells #[u301000, u301001, .string x301002_1] 103 (0, 0)) (by (with_reducible repeat (first | refine blk_drewN ?_ _ | refine blk_drew ?_ | refine blk_alloc ?_ _)); refine blk_far ?_ NB300_305.out _; (with_reducible repeat (first | refine blk_drewN ?_ _ | refine blk_drew ?_ | refine blk_alloc ?_ _)); refine blk_far ?_ NB300_305.out _; (with_reducible repeat (first | refine blk_drewN ?_ _ | refine blk_drew ?_ | refine blk_alloc ?_ _)); exact BK300.out) hb); replace BK305 := Aside0.mk (blk_below (g := gb305) (o := .cells #[.string ((rd_T30 l1 x29_2).f0), .string ((rd_T30 l1 x29_2).f1)] 30 (0, 0)) (by (with_reducible repeat (first | refine blk_drewN ?_ _ | refine blk_drew ?_ | refine blk_alloc ?_ _)); refine blk_put (cs := #[.string ((rd_T30 l1 x29_2).f0), .string (⟨#[]⟩ : ByteArray)]) ?_ 1 _ rfl; (with_reducible repeat (first | refine blk_drewN ?_ _ | refine blk_drew ?_ | refine blk_alloc ?_ _)); refine blk_put (cs := #[.string (⟨#[]⟩ : ByteArray), .string (⟨#[]⟩ : ByteArray)]) ?_ 0 _ rfl; (with_reducible repeat (first | refine blk_drewN ?_ _ | refine blk_drew ?_ | refine blk_alloc ?_ _)); exact BK305.out) hb); replace HB := Aside0.mk (below_step (bl HB) hb); (try clear hb); (try clear hb2); (try clear hk); (try clear hi)))
             replace HO_301000 := Aside0.mk (Kd.R_drew HO_301000.out)
             replace HO_301001 := Aside0.mk (Kd.R_drew HO_301001.out)
             replace BK299 := Aside0.mk (blk_drew BK299.out)
             replace BK300 := Aside0.mk (blk_drew BK300.out)
             replace BK305 := Aside0.mk (blk_drew BK305.out)
             replace HB := Aside0.mk (below_drew1 HB.out)
             have p309 : 0 ≤ (x29_2 : Int) := of_decide_eq_true (by first | (with_reducible assumption) | assumption)
             have q309 : x29_2 < (l0.length : Int) := of_decide_eq_true (by first | (with_reducible assumption) | assumption)
             obtain ⟨ad309, e309, hx309_0⟩ := Kd.at_int HR0.out x29_2 p309 q309
             have hw309_0 := hx309_0
             cases e309
             replace hx309_0 := (HB.out.cell (World.block_lt_of_cell? w _ hx309_0)).trans hx309_0
             replace p309 := eq_true p309
             replace q309 := eq_true q309
             refine start_ (n := 20) (S := fun w' => w'.cell? ⟨gb300, 0, none⟩ = some (u301000) ∧ w'.cell? ⟨gb300, 1, none⟩ = some (u301001) ∧ w'.cell? ⟨gb300, 2, none⟩ = some (.string x301002_1) ∧ w'.cell? ⟨gb305, 0, none⟩ = some (.string ((rd_T30 l1 x29_2).f0)) ∧ w'.cell? ⟨gb305, 1, none⟩ = some (.string ((rd_T30 l1 x29_2).f1)) ∧ w'.cell? (ad309.add (x29_2).toNat) = some (.int .i64 (rd l0 x29_2))) (ds := [17, 19]) #[false, false, false, false, false, false, false, false, false, false, false, false, false, false, false, false, false, false, false, false] (by kernel_rfl) rfl rfl ⟨(blk_cell BK300.out 0).trans rfl, (blk_cell BK300.out 1).trans rfl, (blk_cell BK300.out 2).trans rfl, (blk_cell BK305.out 0).trans rfl, (blk_cell BK305.out 1).trans rfl, ((HB.out.cell (World.block_lt_of_cell? w _ hw309_0)).trans hw309_0)⟩ (fun hHeld => ?_); refine with_tabW size_termsOf.tab12 size_termsOf.bits12 (fun HT_ HW_ => ?_)
             generalize w38.drew = w39 at HO_301000 HO_301001 BK299 BK300 BK305 HB hx309_0 hHeld ⊢
             refine purM (i := 0) (N := some 46) #[true, false, false, false, false, false, false, false, false, false, false, false, false, false, false, false, false, false, false, false] ?_
             refine purM (i := 2) (N := some 48) #[true, false, true, false, false, false, false, false, false, false, false, false, false, false, false, false, false, false, false, false] ?_
             refine purM (i := 3) (N := some 49) #[true, false, true, true, false, false, false, false, false, false, false, false, false, false, false, false, false, false, false, false] ?_
             refine purM (i := 4) (N := some 50) #[true, false, true, true, true, false, false, false, false, false, false, false, false, false, false, false, false, false, false, false] ?_
             refine purM (i := 8) (N := some 54) #[true, false, true, true, true, false, false, false, true, false, false, false, false, false, false, false, false, false, false, false] ?_
             refine purM (i := 10) (N := some 56) #[true, false, true, true, true, false, false, false, true, false, true, false, false, false, false, false, false, false, false, false] ?_
             refine purM (i := 12) (N := some 58) #[true, false, true, true, true, false, false, false, true, false, true, false, true, false, false, false, false, false, false, false] ?_
             refine take_ (i := 1) (N := some 47) (v := ?_) (a' := ?_) #[true, true, true, true, true, false, false, false, true, false, true, false, true, false, false, false, false, false, false, false] rfl rfl (take_ofW HT_.out HW_.out (by kernel_rfl)) (fun _ _ _ h => h) (Or.inl ⟨by rfl, ?_⟩) hHeld ?_ ?_
             rotate_left
             ·rintro w' ⟨s0, s1, s2, s3, s4, s5⟩
              go_simp
              with_reducible rfl
             rotate_left
             ·simp only [Act.put, List.setIfInBounds_toArray, List.set_cons_zero, List.set_cons_succ, i64_w, i32_w]
              rfl
             refine take_ (i := 5) (N := some 51) (v := ?_) (a' := ?_) #[true, true, true, true, true, true, false, false, true, false, true, false, true, false, false, false, false, false, false, false] rfl rfl (take_ofW HT_.out HW_.out (by kernel_rfl)) (fun _ _ _ h => h) (Or.inl ⟨by rfl, ?_⟩) hHeld ?_ ?_
             rotate_left
             ·rintro w' ⟨s0, s1, s2, s3, s4, s5⟩
              go_simp
              with_reducible rfl
             rotate_left
             ·simp only [Act.put, List.setIfInBounds_toArray, List.set_cons_zero, List.set_cons_succ, i64_w, i32_w]
              rfl
             refine take_ (i := 9) (N := some 55) (v := ?_) (a' := ?_) #[true, true, true, true, true, true, false, false, true, true, true, false, true, false, false, false, false, false, false, false] rfl rfl (take_ofW HT_.out HW_.out (by kernel_rfl)) (fun _ _ _ h => h) (Or.inl ⟨by rfl, ?_⟩) hHeld ?_ ?_
             rotate_left
             ·rintro w' ⟨s0, s1, s2, s3, s4, s5⟩
              go_simp
              with_reducible rfl
             rotate_left
             ·simp only [Act.put, List.setIfInBounds_toArray, List.set_cons_zero, List.set_cons_succ, i64_w, i32_w]
              rfl
             refine take_ (i := 11) (N := some 57) (v := ?_) (a' := ?_) #[true, true, true, true, true, true, false, false, true, true, true, true, true, false, false, false, false, false, false, false] rfl rfl (take_ofW HT_.out HW_.out (by kernel_rfl)) (fun _ _ _ h => h) (Or.inl ⟨by rfl, ?_⟩) hHeld ?_ ?_
             rotate_left
             ·rintro w' ⟨s0, s1, s2, s3, s4, s5⟩
              go_simp
              with_reducible rfl
             rotate_left
             ·simp only [Act.put, List.setIfInBounds_toArray, List.set_cons_zero, List.set_cons_succ, i64_w, i32_w]
              rfl
             refine one_ (i := 6) (N := some 52) #[true, true, true, true, true, true, true, false, true, true, true, true, true, false, false, false, false, false, false, false] rfl rfl (one_of HT_.out (by kernel_rfl)) (by decide) (fun K hK => ?_)
             refine value_ (w1 := ?_) (v := ?_) (by rfl) rfl ?_ ?_
             rotate_left 2
             ·go_simp
              constructor
              ·rfl
              ·rfl
             refine hK.out _ _ ⟨(blk_cell (blk_alloc BK300.out _) 0).trans rfl, (blk_cell (blk_alloc BK300.out _) 1).trans rfl, (blk_cell (blk_alloc BK300.out _) 2).trans rfl, (blk_cell (blk_alloc BK305.out _) 0).trans rfl, (blk_cell (blk_alloc BK305.out _) 1).trans rfl, (World.cell?_alloc_lt _ _ _ (World.block_lt_of_cell? _ _ (((HB.out.cell (World.block_lt_of_cell? w _ hw309_0)).trans hw309_0)))).trans (((HB.out.cell (World.block_lt_of_cell? w _ hw309_0)).trans hw309_0))⟩ (fun hHeld => ?_)
             clear hK K
             refine norm_ (a' := ?_) ?_ ?_
             rotate_left
             ·show Act.put _ (some 52) _ = _
              simp only [Act.put, List.setIfInBounds_toArray, List.set_cons_zero, List.set_cons_succ, i64_w, i32_w]
              rfl
             refine one_ (i := 7) (N := some 53) #[true, true, true, true, true, true, true, true, true, true, true, true, true, false, false, false, false, false, false, false] rfl rfl (one_of HT_.out (by kernel_rfl)) (by decide) (fun K hK => ?_)
             refine Kd.R_append_step (Kd.int .i64) (w0 := w) w.heap.size (by rfl) (.tmp 47) (.tmp 52) 26 3 (.int .i64 0) 8 rfl Tryz.underlying26 info3 rfl (by decide) (by omega) u301000 x301000_2 (rd l0 x29_2) [.int .i64 (rd l0 x29_2)] (fun _ => True) (fun _ => False) rfl rfl ?aP (fun _ hk => hk.elim) ?aF ?aO ?aB ?aS ?aL ?_
             (case aP => exact rfl)
             (case aB => exact (bl HB))
             (case aF => exact (fun _ _ => trivial))
             (case aO => exact (kr HO_301000))
             (case aS => exact (below_size (bl HB)))
             (case aL => have := LMc29.out; omega)
             intro v311 w40 ho hb hg hat
             rw [← Ny310.out] at ho
             have n0_ := Aside0.mk (Kd.R_over' (kr HO_301001) (Kd.R_typed (kr HO_301000)) (by decide) hg)
             have n1_ := Aside0.mk (blk_grown (g := gb299) (o := .cells #[.slice none 0 0, .slice none 0 0, .string (⟨#[]⟩ : ByteArray)] 103 (0, 0)) (bk BK299) hg (Kd.R_ne HO_301000.out BK299.out (by decide)))
             have n2_ := Aside0.mk (blk_grown (g := gb300) (o := .cells #[u301000, u301001, .string x301002_1] 103 (0, 0)) (bk BK300) hg (Kd.R_ne HO_301000.out BK300.out (by decide)))
             have n3_ := Aside0.mk (blk_grown (g := gb305) (o := .cells #[.string ((rd_T30 l1 x29_2).f0), .string ((rd_T30 l1 x29_2).f1)] 30 (0, 0)) (bk BK305) hg (Kd.R_ne HO_301000.out BK305.out (by decide)))
             have n4_ := Aside0.mk (hb)
             have n5_ := Aside0.mk (ho)
             clear HO_301001
             clear BK299
             clear BK300
             clear BK305
             clear HB
             clear HO_301000
             have HO_301001 := n0_
             have BK299 := n1_
             have BK300 := n2_
             have BK305 := n3_
             have HB := n4_
             have HO312 := n5_
             clear n0_ n1_ n2_ n3_ n4_ n5_
             clear ho hb hg hat
             refine hK.out _ _ ⟨(blk_cell BK300.out 0).trans rfl, (blk_cell BK300.out 1).trans rfl, (blk_cell BK300.out 2).trans rfl, (blk_cell BK305.out 0).trans rfl, (blk_cell BK305.out 1).trans rfl, ((HB.out.cell (World.block_lt_of_cell? w _ hw309_0)).trans hw309_0)⟩ (fun hHeld => ?_)
             clear hK K
             refine norm_ (a' := ?_) ?_ ?_
             rotate_left
             ·show Act.put _ (some 53) _ = _
              simp only [Act.put, List.setIfInBounds_toArray, List.set_cons_zero, List.set_cons_succ, i64_w, i32_w]
              rfl
             refine purM (i := 16) (N := some 62) #[true, true, true, true, true, true, true, true, true, true, true, true, true, false, false, false, true, false, false, false] ?_
             refine one_ (i := 13) (N := some 59) #[true, true, true, true, true, true, true, true, true, true, true, true, true, true, false, false, true, false, false, false] rfl rfl (one_of HT_.out (by kernel_rfl)) (by decide) (fun K hK => ?_)
             refine goesR Tryz.func82 #[.string ((rd_T30 l1 x29_2).f0), .string t306] ?_
             with_reducible refine (whole_Mul.calls k2 ((rd_T30 l1 x29_2).f0) t306 t313 _ ?side1 A30.out).mono ?_
             (case side1 => exact Glob.below HG0.out (bl HB))
             rintro e w41 ⟨rfl, hb⟩
             refine ⟨_, rfl, ?_⟩
             replace HO_301001 := Aside0.mk (Kd.R_below (kr HO_301001) hb)
             replace HO312 := Aside0.mk (Kd.R_below (kr HO312) hb)
             replace BK299 := Aside0.mk (blk_below (g := gb299) (o := .cells #[.slice none 0 0, .slice none 0 0, .string (⟨#[]⟩ : ByteArray)] 103 (0, 0)) (bk BK299) hb)
             replace BK300 := Aside0.mk (blk_below (g := gb300) (o := .cells #[u301000, u301001, .string x301002_1] 103 (0, 0)) (bk BK300) hb)
             replace BK305 := Aside0.mk (blk_below (g := gb305) (o := .cells #[.string ((rd_T30 l1 x29_2).f0), .string ((rd_T30 l1 x29_2).f1)] 30 (0, 0)) (bk BK305) hb)
             replace HB := Aside0.mk (below_step (bl HB) hb)
             (try clear hb)
             (try clear hb2)
             (try clear hk)
             (try clear hi)
             refine hK.out _ _ ⟨(blk_cell BK300.out 0).trans rfl, (blk_cell BK300.out 1).trans rfl, (blk_cell BK300.out 2).trans rfl, (blk_cell BK305.out 0).trans rfl, (blk_cell BK305.out 1).trans rfl, ((HB.out.cell (World.block_lt_of_cell? w _ hw309_0)).trans hw309_0)⟩ (fun hHeld => ?_)
             clear hK K
             refine norm_ (a' := ?_) ?_ ?_
             rotate_left
             ·show Act.put _ (some 59) _ = _
              simp only [Act.put, List.setIfInBounds_toArray, List.set_cons_zero, List.set_cons_succ, i64_w, i32_w]
              rfl
             refine one_ (i := 14) (N := some 60) #[true, true, true, true, true, true, true, true, true, true, true, true, true, true, true, false, true, false, false, false] rfl rfl (one_of HT_.out (by kernel_rfl)) (by decide) (fun K hK => ?_)
             refine value_ (w1 := ?_) (v := ?_) (by rfl) rfl ?_ ?_
             rotate_left 2
             ·go_simp
              constructor
              ·rfl
              ·rfl
             refine hK.out _ _ ⟨(blk_cell (blk_alloc BK300.out _) 0).trans rfl, (blk_cell (blk_alloc BK300.out _) 1).trans rfl, (blk_cell (blk_alloc BK300.out _) 2).trans rfl, (blk_cell (blk_alloc BK305.out _) 0).trans rfl, (blk_cell (blk_alloc BK305.out _) 1).trans rfl, (World.cell?_alloc_lt _ _ _ (World.block_lt_of_cell? _ _ (((HB.out.cell (World.block_lt_of_cell? w _ hw309_0)).trans hw309_0)))).trans (((HB.out.cell (World.block_lt_of_cell? w _ hw309_0)).trans hw309_0))⟩ (fun hHeld => ?_)
             clear hK K
             refine norm_ (a' := ?_) ?_ ?_
             rotate_left
             ·show Act.put _ (some 60) _ = _
              simp only [Act.put, List.setIfInBounds_toArray, List.set_cons_zero, List.set_cons_succ, i64_w, i32_w]
              rfl
             refine one_ (i := 15) (N := some 61) #[true, true, true, true, true, true, true, true, true, true, true, true, true, true, true, true, true, false, false, false] rfl rfl (one_of HT_.out (by kernel_rfl)) (by decide) (fun K hK => ?_)
             refine Kd.R_append_step Kd.string (w0 := w) w.heap.size (by rfl) (.tmp 55) (.tmp 60) 101 28 (.string ⟨#[]⟩) 16 rfl Tryz.underlying101 info28 rfl (by decide) (by omega) u301001 x301001_2 t313 [.string t313] (fun _ => True) (fun _ => False) rfl rfl ?aP (fun _ hk => hk.elim) ?aF ?aO ?aB ?aS ?aL ?_
             (case aP => exact rfl)
             (case aB => exact (bl HB))
             (case aF => exact (fun _ _ => trivial))
             (case aO => exact (kr HO_301001))
             (case aS => exact (below_size (bl HB)))
             (case aL => have := LMc31.out; omega)
             intro v315 w42 ho hb hg hat
             rw [← Ny314.out] at ho
             have n0_ := Aside0.mk (blk_grown (g := gb299) (o := .cells #[.slice none 0 0, .slice none 0 0, .string (⟨#[]⟩ : ByteArray)] 103 (0, 0)) (bk BK299) hg (Kd.R_ne HO_301001.out BK299.out (by decide)))
             have n1_ := Aside0.mk (blk_grown (g := gb300) (o := .cells #[u301000, u301001, .string x301002_1] 103 (0, 0)) (bk BK300) hg (Kd.R_ne HO_301001.out BK300.out (by decide)))
             have n2_ := Aside0.mk (blk_grown (g := gb305) (o := .cells #[.string ((rd_T30 l1 x29_2).f0), .string ((rd_T30 l1 x29_2).f1)] 30 (0, 0)) (bk BK305) hg (Kd.R_ne HO_301001.out BK305.out (by decide)))
             have n3_ := Aside0.mk (Kd.R_over' (kr HO312) (Kd.R_typed (kr HO_301001)) (by decide) hg)
             have n4_ := Aside0.mk (hb)
             have n5_ := Aside0.mk (ho)
             clear BK299
             clear BK300
             clear BK305
             clear HO312
             clear HB
             clear HO_301001
             have BK299 := n0_
             have BK300 := n1_
             have BK305 := n2_
             have HO312 := n3_
             have HB := n4_
             have HO316 := n5_
             clear n0_ n1_ n2_ n3_ n4_ n5_
             clear ho hb hg hat
             obtain ⟨Ao43, co43, eo43⟩ := Kd.R_slice HO312.out
             (first | subst eo43 | (injection eo43 with f1_ f2_ f3_; have f4_ := f1_.symm; have f5_ := f3_.symm; clear f1_ f2_ f3_; subst f4_; subst f5_))
             obtain ⟨Ao45, co45, eo45⟩ := Kd.R_slice HO316.out
             (first | subst eo45 | (injection eo45 with f1_ f2_ f3_; have f4_ := f1_.symm; have f5_ := f3_.symm; clear f1_ f2_ f3_; subst f4_; subst f5_))
             refine hK.out _ _ ⟨(blk_cell BK300.out 0).trans rfl, (blk_cell BK300.out 1).trans rfl, (blk_cell BK300.out 2).trans rfl, (blk_cell BK305.out 0).trans rfl, (blk_cell BK305.out 1).trans rfl, ((HB.out.cell (World.block_lt_of_cell? w _ hw309_0)).trans hw309_0)⟩ (fun hHeld => ?_)
             clear hK K
             refine norm_ (a' := ?_) ?_ ?_
             rotate_left
             ·show Act.put _ (some 61) _ = _
              simp only [Act.put, List.setIfInBounds_toArray, List.set_cons_zero, List.set_cons_succ, i64_w, i32_w]
              rfl
             refine last_ (i := 17) (N := none) #[true, true, true, true, true, true, true, true, true, true, true, true, true, true, true, true, true, true, false, false] rfl rfl (one_of HT_.out (by kernel_rfl)) (by decide) (fun K hK => ?_)
             have hs44 : w42.cell? ⟨gb300, 0, none⟩ = some (u301000) := (blk_cell BK300.out 0).trans rfl
             have hfs44 := blk_frozen BK300.out 0
             have hns44_0 := NB299_300.out
             have hns44_2 := NB305_300.out
             have hms44_0 := NB300_299.out
             have hms44_2 := NB300_305.out
             refine skip_ (w1 := ?_) (by rfl) rfl ?_ ?_
             rotate_left
             ·go_simp
              rfl
             refine hK.out _ _ ?_
             clear hK K
             refine purM (i := 18) (N := some 63) #[true, true, true, true, true, true, true, true, true, true, true, true, true, true, true, true, true, true, true, false] ?_
             refine last_ (i := 19) (N := none) #[true, true, true, true, true, true, true, true, true, true, true, true, true, true, true, true, true, true, true, true] rfl rfl (one_of HT_.out (by kernel_rfl)) (by decide) (fun K hK => ?_)
             have hs46 : w42.cell? ⟨gb300, 1, none⟩ = some (u301001) := (blk_cell BK300.out 1).trans rfl
             have hfs46 := blk_frozen BK300.out 1
             have hns46_0 := NB299_300.out
             have hns46_2 := NB305_300.out
             have hms46_0 := NB300_299.out
             have hms46_2 := NB300_305.out
             refine skip_ (w1 := ?_) (by rfl) rfl ?_ ?_
             rotate_left
             ·go_simp
              rfl
             refine hK.out _ _ ?_
             clear hK K
             refine done_ (done_of HT_.out (by kernel_rfl)) ?_
             try go_wp2
             go_roundg k2
             case measure => have := HK1.out; have := HK2.out; omega
             case rel => exact ⟨(wrap64 (x29_2 + 1)), (y310), (y314), (.slice Ao43 y310.length co43), (.slice Ao45 y314.length co45), rs, H', ⟨by have := HK1.out; have := HK2.out; omega⟩, ⟨by (with_reducible repeat (first | apply Kd.R_alloc | apply Kd.R_drewN | apply Kd.R_drew)); exact Kd.R_mono (Kd.R_far (p := ⟨gb300, 1, none⟩) (Kd.R_far (p := ⟨gb300, 0, none⟩) (Kd.R_types HO312.out BK300.out (by decide)) (fun _ hk => hk.2) (.slice Ao43 y310.length co43)) (fun _ hk => hk.2) (.slice Ao45 y314.length co45)) (fun _ hk => trivial)⟩, ⟨by (with_reducible repeat (first | apply Kd.R_alloc | apply Kd.R_drewN | apply Kd.R_drew)); exact Kd.R_mono (Kd.R_far (p := ⟨gb300, 1, none⟩) (Kd.R_far (p := ⟨gb300, 0, none⟩) (Kd.R_types HO316.out BK300.out (by decide)) (fun _ hk => hk.2) (.slice Ao43 y310.length co43)) (fun _ hk => hk.2) (.slice Ao45 y314.length co45)) (fun _ hk => trivial)⟩, ⟨by (with_reducible repeat (first | refine blk_drewN ?_ _ | refine blk_drew ?_ | refine blk_alloc ?_ _)); refine blk_far ?_ NB299_300.out _; (with_reducible repeat (first | refine blk_drewN ?_ _ | refine blk_drew ?_ | refine blk_alloc ?_ _)); refine blk_far ?_ NB299_300.out _; (with_reducible repeat (first | refine blk_drewN ?_ _ | refine blk_drew ?_ | refine blk_alloc ?_ _)); exact BK299.out⟩, ⟨by (with_reducible repeat (first | refine blk_drewN ?_ _ | refine blk_drew ?_ | refine blk_alloc ?_ _)); refine blk_put (cs := #[.slice Ao43 y310.length co43, u301001, .string x301002_1]) ?_ 1 _ rfl; (with_reducible repeat (first | refine blk_drewN ?_ _ | refine blk_drew ?_ | refine blk_alloc ?_ _)); refine blk_put (cs := #[u301000, u301001, .string x301002_1]) ?_ 0 _ rfl; (with_reducible repeat (first | refine blk_drewN ?_ _ | refine blk_drew ?_ | refine blk_alloc ?_ _)); exact BK300.out⟩, ⟨bl HB⟩⟩
            ·rw [if_neg c31] at H
             exact absurd H (by simp)
           ·rw [if_neg c29] at H
            exact absurd H (by simp)
          ·rw [if_neg c28] at H
           exact absurd H (by simp)
        ·rw [if_neg c21] at H
         exact absurd H (by simp)
       ·rw [if_neg c20] at H
        exact absurd H (by simp)
      ·rw [if_neg c19] at H
       have c19b0 : decide (x29_2 < (l1.length : Int)) = false := decide_eq_false c19
       clear c19
       simp only [Option.some.injEq, Prod.mk.injEq] at H
       obtain ⟨rfl, rfl, rfl⟩ := H
       have hnb47 := NB300_299.out
       have hnc47 := NB299_300.out
       have hcz48_0 : wr.cell? ⟨gb300, 0, none⟩ = some (u301000) := (blk_cell BK300.out 0).trans rfl
       have hcz48_1 : wr.cell? ⟨gb300, 1, none⟩ = some (u301001) := (blk_cell BK300.out 1).trans rfl
       have hcz48_2 : wr.cell? ⟨gb300, 2, none⟩ = some (.string x301002_1) := (blk_cell BK300.out 2).trans rfl
       have hfz48_0 := blk_frozen BK300.out 0
       have hfz48_1 := blk_frozen BK300.out 1
       have hfz48_2 := blk_frozen BK300.out 2
       obtain ⟨Ao49, co49, eo49⟩ := Kd.R_slice HO_301000.out
       subst eo49
       have hcz50_0 : wr.cell? ⟨gb299, 0, none⟩ = some (.slice none 0 0) := (blk_cell BK299.out 0).trans rfl
       have hcz50_1 : wr.cell? ⟨gb299, 1, none⟩ = some (.slice none 0 0) := (blk_cell BK299.out 1).trans rfl
       have hcz50_2 : wr.cell? ⟨gb299, 2, none⟩ = some (.string (⟨#[]⟩ : ByteArray)) := (blk_cell BK299.out 2).trans rfl
       have hfz50_0 := blk_frozen BK299.out 0
       have hfz50_1 := blk_frozen BK299.out 1
       have hfz50_2 := blk_frozen BK299.out 2
       obtain ⟨Ao51, co51, eo51⟩ := Kd.R_slice HO_301001.out
       subst eo51
       go_wp2
       refine bodyPost_ret (results_cell_row rfl _ _ gb299 103 #[.slice Ao49 x301000_2.length co49, .slice Ao51 x301001_2.length co51, .string x301002_1] (0, 0) _ rfl (by (with_reducible repeat (first | refine blk_drewN ?_ _ | refine blk_drew ?_ | refine blk_alloc ?_ _)); refine blk_put (cs := #[.slice Ao49 x301000_2.length co49, .slice Ao51 x301001_2.length co51, .string (⟨#[]⟩ : ByteArray)]) ?_ 2 _ rfl; (with_reducible repeat (first | refine blk_drewN ?_ _ | refine blk_drew ?_ | refine blk_alloc ?_ _)); refine blk_put (cs := #[.slice Ao49 x301000_2.length co49, .slice none 0 0, .string (⟨#[]⟩ : ByteArray)]) ?_ 1 _ rfl; (with_reducible repeat (first | refine blk_drewN ?_ _ | refine blk_drew ?_ | refine blk_alloc ?_ _)); refine blk_put (cs := #[.slice none 0 0, .slice none 0 0, .string (⟨#[]⟩ : ByteArray)]) ?_ 0 _ rfl; (with_reducible repeat (first | refine blk_drewN ?_ _ | refine blk_drew ?_ | refine blk_alloc ?_ _)); exact BK299.out) Tryz.underlying103 rfl (by kernel_rfl)) rfl ?_
       exact ⟨_, _, rl, by (with_reducible repeat (first | apply Kd.R_alloc | apply Kd.R_drewN | apply Kd.R_drew)); exact Kd.R_mono (Kd.R_far (p := ⟨gb299, 2, none⟩) (Kd.R_far (p := ⟨gb299, 1, none⟩) (Kd.R_far (p := ⟨gb299, 0, none⟩) (Kd.R_types HO_301000.out BK299.out (by decide)) (fun _ hk => hk.2) (.slice Ao49 x301000_2.length co49)) (fun _ hk => hk.2) (.slice Ao51 x301001_2.length co51)) (fun _ hk => hk.2) (.string x301002_1)) (fun _ hk => trivial), by (with_reducible repeat (first | apply Kd.R_alloc | apply Kd.R_drewN | apply Kd.R_drew)); exact Kd.R_mono (Kd.R_far (p := ⟨gb299, 2, none⟩) (Kd.R_far (p := ⟨gb299, 1, none⟩) (Kd.R_far (p := ⟨gb299, 0, none⟩) (Kd.R_types HO_301001.out BK299.out (by decide)) (fun _ hk => hk.2) (.slice Ao49 x301000_2.length co49)) (fun _ hk => hk.2) (.slice Ao51 x301001_2.length co51)) (fun _ hk => hk.2) (.string x301002_1)) (fun _ hk => trivial), bl HB⟩
end Go.Proofs.YtailoobjgbldgaaGreatDoor.P
end
