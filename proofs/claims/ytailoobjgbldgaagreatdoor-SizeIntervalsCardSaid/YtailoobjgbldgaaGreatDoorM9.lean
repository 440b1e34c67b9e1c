/- Part 9 of the proof: functions' contracts and what they lean on. -/
import Derived.Test.YtailoobjgbldgaaGreatDoorM8
section
namespace Go.Proofs.YtailoobjgbldgaaGreatDoor.P
open Go.RowKit Go.Proofs.YtailoobjgbldgaaGreatDoorW.PrintWords Go.Proofs.YtailoobjgbldgaaGreatDoorW.PrintLast Go.Proofs.YtailoobjgbldgaaGreatDoorW.PrintMore
attribute [local go_sem] max2_int min2_int max_two min_two max_three min_three max_four min_four   
set_option linter.unusedVariables false
set_option linter.unusedSimpArgs false
def size_downward.f (a0 : Int) (a1 : Int) : Option (Int) := if a0 < 0 then (if a1 = 0 then (none) else (some (wrap64 (-(wrap64 (Int.tdiv (wrap64 ((wrap64 ((wrap64 (-a0)) + a1)) - 1)) a1)))))) else (if a1 = 0 then (none) else (some (wrap64 (Int.tdiv a0 a1))))
set_option maxHeartbeats 8000000 in
set_option maxRecDepth 100000 in
theorem size_downward.calls (a0 : Int) (a1 : Int) (r : Int) (w : World) (h : size_downward.f a0 a1 = some r) :
  Calls Tryz.prog 140 #[.int .i64 a0, .int .i64 a1] w fun e w' => e = .returned (.int .i64 r) ∧ Drawn0 w w' := by
 have H : (if a0 < 0 then (if a1 = 0 then (none) else (some (wrap64 (-(wrap64 (Int.tdiv (wrap64 ((wrap64 ((wrap64 (-a0)) + a1)) - 1)) a1)))))) else (if a1 = 0 then (none) else (some (wrap64 (Int.tdiv a0 a1))))) = some r := h
 clear h
 by_cases c3 : a0 < 0
 ·rw [if_pos c3] at H
  have c3b0 : decide (a0 < 0) = true := decide_eq_true c3
  clear c3
  by_cases c4 : a1 = 0
  ·rw [if_pos c4] at H
   exact absurd H (by simp)
  ·rw [if_neg c4] at H
   have c4b0 : (a1 == 0) = false := beq_eq_false_iff_ne.mpr c4
   have c4b1 : (a1 != 0) = true := bne_iff_ne.mpr c4
   obtain rfl := Option.some.inj H
   go_enter Tryz.func140, Tryz.ntmps140
   go_wp2
   go_ret
   exact ⟨by first | rfl | (simp; done) | (simp [*]; done), by repeat (first | exact Drawn0.refl _ | apply Drawn0.step)⟩
 ·rw [if_neg c3] at H
  have c3b0 : decide (a0 < 0) = false := decide_eq_false c3
  clear c3
  by_cases c5 : a1 = 0
  ·rw [if_pos c5] at H
   exact absurd H (by simp)
  ·rw [if_neg c5] at H
   have c5b0 : (a1 == 0) = false := beq_eq_false_iff_ne.mpr c5
   have c5b1 : (a1 != 0) = true := bne_iff_ne.mpr c5
   obtain rfl := Option.some.inj H
   go_enter Tryz.func140, Tryz.ntmps140
   go_wp2
   go_ret
   exact ⟨by first | rfl | (simp; done) | (simp [*]; done), by repeat (first | exact Drawn0.refl _ | apply Drawn0.step)⟩
mutual
def size_quotient.j0 : Nat → Int → Int → Int → Int → Int → Int → Bool → Option (Int × Bool)
 | 0, _, _, _, _, _, _, _ => none
 | k + 1, x6, x7, x9, x10, x12, x14, x65 => if x65 = true then (some (0, false)) else (if x10 ≤ 0 then (size_quotient.j1 k (wrap64 (-x7)) (wrap64 (-x6)) (wrap64 (-x10)) (wrap64 (-x9)) x12 x14) else (size_quotient.j1 k x6 x7 x9 x10 x12 x14))
def size_quotient.j1 : Nat → Int → Int → Int → Int → Int → Int → Option (Int × Bool)
 | 0, _, _, _, _, _, _ => none
 | k + 1, x6, x7, x9, x10, x12, x14 => if x9 ≤ 0 then (some (0, false)) else (if x6 < 0 then (size_quotient.j2 k x6 x7 x10 x12 x14 x9 x9) else (size_quotient.j2 k x6 x7 x10 x12 x14 x10 x9))
def size_quotient.j2 : Nat → Int → Int → Int → Int → Int → Int → Int → Option (Int × Bool)
 | 0, _, _, _, _, _, _, _ => none
 | k + 1, x6, x7, x10, x12, x14, x16, x17 => if x7 < 0 then ((size_downward.f (wrap64 (x6 * x14)) (wrap64 (x16 * x12))).bind fun t422 => ((size_downward.f (wrap64 (x7 * x14)) (wrap64 (x10 * x12))).bind fun t423 => (some (t422, (t422 == t423))))) else ((size_downward.f (wrap64 (x6 * x14)) (wrap64 (x16 * x12))).bind fun t424 => ((size_downward.f (wrap64 (x7 * x14)) (wrap64 (x17 * x12))).bind fun t425 => (some (t424, (t424 == t425)))))
end
def size_quotient.f (k : Nat) (l0_0 : List Int) (l0_1 : List ByteArray) (a0_2 : ByteArray) (l1_0 : List Int) (l1_1 : List ByteArray) (a1_2 : ByteArray) : Option (Int × Bool) := (tNear.f l0_0 l0_1 a0_2 100000).bind fun bt412 => ((tNear.f l1_0 l1_1 a1_2 100000).bind fun bt415 => ((wSmall.f a0_2).bind fun bt418 => ((wSmall.f a1_2).bind fun bt420 => (if bt412.2.2 = true then (if bt415.2.2 = true then (if bt418.2 = true then (if bt420.2 = true then (if bt418.1 > 10000 then (size_quotient.j0 k bt412.1 bt412.2.1 bt415.1 bt415.2.1 bt418.1 bt420.1 true) else (size_quotient.j0 k bt412.1 bt412.2.1 bt415.1 bt415.2.1 bt418.1 bt420.1 (decide (bt420.1 > 10000)))) else (size_quotient.j0 k bt412.1 bt412.2.1 bt415.1 bt415.2.1 bt418.1 bt420.1 true)) else (size_quotient.j0 k bt412.1 bt412.2.1 bt415.1 bt415.2.1 bt418.1 bt420.1 true)) else (size_quotient.j0 k bt412.1 bt412.2.1 bt415.1 bt415.2.1 bt418.1 bt420.1 true)) else (size_quotient.j0 k bt412.1 bt412.2.1 bt415.1 bt415.2.1 bt418.1 bt420.1 true)))))
set_option maxHeartbeats 8000000 in
set_option maxRecDepth 100000 in
theorem size_quotient.calls (k : Nat) (A0_0 : Option Addr) (c0_0 : Nat) (l0_0 : List Int) (A0_1 : Option Addr) (c0_1 : Nat) (l0_1 : List ByteArray) (a0_2 : ByteArray) (A1_0 : Option Addr) (c1_0 : Nat) (l1_0 : List Int) (A1_1 : Option Addr) (c1_1 : Nat) (l1_1 : List ByteArray) (a1_2 : ByteArray) (r1 : Int) (r2 : Bool) (w : World) (hG : Glob w) (hr0_0 : Kd.C (Kd.int .i64) w A0_0 l0_0.length l0_0) (hc0_0 : l0_0.length ≤ c0_0) (hr0_1 : Kd.C Kd.string w A0_1 l0_1.length l0_1) (hc0_1 : l0_1.length ≤ c0_1) (hr1_0 : Kd.C (Kd.int .i64) w A1_0 l1_0.length l1_0) (hc1_0 : l1_0.length ≤ c1_0) (hr1_1 : Kd.C Kd.string w A1_1 l1_1.length l1_1) (hc1_1 : l1_1.length ≤ c1_1) (h : size_quotient.f k l0_0 l0_1 a0_2 l1_0 l1_1 a1_2 = some (r1, r2)) :
  Calls Tryz.prog 116 #[.agg #[.slice A0_0 l0_0.length c0_0, .slice A0_1 l0_1.length c0_1, .string a0_2], .agg #[.slice A1_0 l1_0.length c1_0, .slice A1_1 l1_1.length c1_1, .string a1_2]] w fun e w' => e = .returned (.tuple #[.int .i64 r1, .bool r2]) ∧ Below w.heap.size w w' := by
 have hu103 := Tryz.underlying103
 have HR0_0 := Aside0.mk hr0_0
 have HC0_0 := Aside0.mk hc0_0
 clear hr0_0 hc0_0
 have HR0_1 := Aside0.mk hr0_1
 have HC0_1 := Aside0.mk hc0_1
 clear hr0_1 hc0_1
 have HR1_0 := Aside0.mk hr1_0
 have HC1_0 := Aside0.mk hc1_0
 clear hr1_0 hc1_0
 have HR1_1 := Aside0.mk hr1_1
 have HC1_1 := Aside0.mk hc1_1
 clear hr1_1 hc1_1
 have HG0 := Aside0.mk hG
 clear hG
 have HB := Aside0.mk (Below.refl w.heap.size w)
 have H : ((tNear.f l0_0 l0_1 a0_2 100000).bind fun bt412 => ((tNear.f l1_0 l1_1 a1_2 100000).bind fun bt415 => ((wSmall.f a0_2).bind fun bt418 => ((wSmall.f a1_2).bind fun bt420 => (if bt412.2.2 = true then (if bt415.2.2 = true then (if bt418.2 = true then (if bt420.2 = true then (if bt418.1 > 10000 then (size_quotient.j0 k bt412.1 bt412.2.1 bt415.1 bt415.2.1 bt418.1 bt420.1 true) else (size_quotient.j0 k bt412.1 bt412.2.1 bt415.1 bt415.2.1 bt418.1 bt420.1 (decide (bt420.1 > 10000)))) else (size_quotient.j0 k bt412.1 bt412.2.1 bt415.1 bt415.2.1 bt418.1 bt420.1 true)) else (size_quotient.j0 k bt412.1 bt412.2.1 bt415.1 bt415.2.1 bt418.1 bt420.1 true)) else (size_quotient.j0 k bt412.1 bt412.2.1 bt415.1 bt415.2.1 bt418.1 bt420.1 true)) else (size_quotient.j0 k bt412.1 bt412.2.1 bt415.1 bt415.2.1 bt418.1 bt420.1 true)))))) = some (r1, r2) := h
 clear h
 replace H := Option.bind_eq_some_iff.mp H
 obtain ⟨⟨t412, t413, t414⟩, A30, H⟩ := H
 replace H : ((tNear.f l1_0 l1_1 a1_2 100000).bind fun bt415 => ((wSmall.f a0_2).bind fun bt418 => ((wSmall.f a1_2).bind fun bt420 => (if t414 = true then (if bt415.2.2 = true then (if bt418.2 = true then (if bt420.2 = true then (if bt418.1 > 10000 then (size_quotient.j0 k t412 t413 bt415.1 bt415.2.1 bt418.1 bt420.1 true) else (size_quotient.j0 k t412 t413 bt415.1 bt415.2.1 bt418.1 bt420.1 (decide (bt420.1 > 10000)))) else (size_quotient.j0 k t412 t413 bt415.1 bt415.2.1 bt418.1 bt420.1 true)) else (size_quotient.j0 k t412 t413 bt415.1 bt415.2.1 bt418.1 bt420.1 true)) else (size_quotient.j0 k t412 t413 bt415.1 bt415.2.1 bt418.1 bt420.1 true)) else (size_quotient.j0 k t412 t413 bt415.1 bt415.2.1 bt418.1 bt420.1 true))))) = some (r1, r2) := H
 have A3 := Aside0.mk A30
 clear A30
 replace H := Option.bind_eq_some_iff.mp H
 obtain ⟨⟨t415, t416, t417⟩, A40, H⟩ := H
 replace H : ((wSmall.f a0_2).bind fun bt418 => ((wSmall.f a1_2).bind fun bt420 => (if t414 = true then (if t417 = true then (if bt418.2 = true then (if bt420.2 = true then (if bt418.1 > 10000 then (size_quotient.j0 k t412 t413 t415 t416 bt418.1 bt420.1 true) else (size_quotient.j0 k t412 t413 t415 t416 bt418.1 bt420.1 (decide (bt420.1 > 10000)))) else (size_quotient.j0 k t412 t413 t415 t416 bt418.1 bt420.1 true)) else (size_quotient.j0 k t412 t413 t415 t416 bt418.1 bt420.1 true)) else (size_quotient.j0 k t412 t413 t415 t416 bt418.1 bt420.1 true)) else (size_quotient.j0 k t412 t413 t415 t416 bt418.1 bt420.1 true)))) = some (r1, r2) := H
 have A4 := Aside0.mk A40
 clear A40
 replace H := Option.bind_eq_some_iff.mp H
 obtain ⟨⟨t418, t419⟩, A50, H⟩ := H
 replace H : ((wSmall.f a1_2).bind fun bt420 => (if t414 = true then (if t417 = true then (if t419 = true then (if bt420.2 = true then (if t418 > 10000 then (size_quotient.j0 k t412 t413 t415 t416 t418 bt420.1 true) else (size_quotient.j0 k t412 t413 t415 t416 t418 bt420.1 (decide (bt420.1 > 10000)))) else (size_quotient.j0 k t412 t413 t415 t416 t418 bt420.1 true)) else (size_quotient.j0 k t412 t413 t415 t416 t418 bt420.1 true)) else (size_quotient.j0 k t412 t413 t415 t416 t418 bt420.1 true)) else (size_quotient.j0 k t412 t413 t415 t416 t418 bt420.1 true))) = some (r1, r2) := H
 have A5 := Aside0.mk A50
 clear A50
 replace H := Option.bind_eq_some_iff.mp H
 obtain ⟨⟨t420, t421⟩, A60, H⟩ := H
 replace H : (if t414 = true then (if t417 = true then (if t419 = true then (if t421 = true then (if t418 > 10000 then (size_quotient.j0 k t412 t413 t415 t416 t418 t420 true) else (size_quotient.j0 k t412 t413 t415 t416 t418 t420 (decide (t420 > 10000)))) else (size_quotient.j0 k t412 t413 t415 t416 t418 t420 true)) else (size_quotient.j0 k t412 t413 t415 t416 t418 t420 true)) else (size_quotient.j0 k t412 t413 t415 t416 t418 t420 true)) else (size_quotient.j0 k t412 t413 t415 t416 t418 t420 true)) = some (r1, r2) := H
 have A6 := Aside0.mk A60
 clear A60
 have HC7 := Aside0.mk H
 clear H
 go_enter Tryz.func116, Tryz.ntmps116
 go_upto_region 5 with (first | ((with_reducible refine gate_dst (N := 2) rfl ?_); refine boxM (N := 2) #[.slice A0_0 l0_0.length c0_0, .slice A0_1 l0_1.length c0_1, .string a0_2] 103 ?_; intro gb410 hg w8 hbox hb; have BK410 := Aside0.mk (hbox); have GW410 := Aside0.mk ((by rw [hg]; exact (below_size (bl HB)) : w.heap.size ≤ gb410)); have GE410 := Aside0.mk ((by rw [hg]; exact (below_size (bl HB)) : w.heap.size ≤ gb410)); replace HB := Aside0.mk (below_step (bl HB) hb); clear hb hbox hg) | ((with_reducible refine gate_dst (N := 3) rfl ?_); refine boxM (N := 3) #[.slice A1_0 l1_0.length c1_0, .slice A1_1 l1_1.length c1_1, .string a1_2] 103 ?_; intro gb411 hg w9 hbox hb; have BK411 := Aside0.mk (hbox); have GW411 := Aside0.mk ((by rw [hg]; exact (below_size (bl HB)) : w.heap.size ≤ gb411)); have GE411 := Aside0.mk ((by rw [hg]; exact (below_size (bl HB)) : w.heap.size ≤ gb411)); replace HB := Aside0.mk (below_step (bl HB) hb); have NB410_411 := Aside0.mk ((by rw [hg]; exact Nat.ne_of_lt (blk_lt (g := gb410) (o := .cells #[.slice A0_0 l0_0.length c0_0, .slice A0_1 l0_1.length c0_1, .string a0_2] 103 (0, 0)) (bk BK410)) : gb410 ≠ gb411)); have NB411_410 := Aside0.mk ((by rw [hg]; exact Nat.ne_of_gt (blk_lt (g := gb410) (o := .cells #[.slice A0_0 l0_0.length c0_0, .slice A0_1 l0_1.length c0_1, .string a0_2] 103 (0, 0)) (bk BK410)) : gb411 ≠ gb410)); replace BK410 := Aside0.mk (blk_below (g := gb410) (o := .cells #[.slice A0_0 l0_0.length c0_0, .slice A0_1 l0_1.length c0_1, .string a0_2] 103 (0, 0)) (bk BK410) hb); clear hb hbox hg; have hnb10 := NB410_411.out; have hnc10 := NB411_410.out; have hcz11_0 : w9.cell? ⟨gb410, 0, none⟩ = some (.slice A0_0 l0_0.length c0_0) := (blk_cell BK410.out 0).trans rfl; have hcz11_1 : w9.cell? ⟨gb410, 1, none⟩ = some (.slice A0_1 l0_1.length c0_1) := (blk_cell BK410.out 1).trans rfl; have hcz11_2 : w9.cell? ⟨gb410, 2, none⟩ = some (.string a0_2) := (blk_cell BK410.out 2).trans rfl; have hfz11_0 := blk_frozen BK410.out 0; have hfz11_1 := blk_frozen BK410.out 1; have hfz11_2 := blk_frozen BK410.out 2) | ((with_reducible refine gate_callee (f := 134) rfl ?_); refine goesM (some 22) Tryz.func134 #[.agg #[.slice A0_0 l0_0.length c0_0, .slice A0_1 l0_1.length c0_1, .string a0_2], .int .i64 100000] ?_; (with_reducible refine (tNear.calls _ _ l0_0 _ _ l0_1 a0_2 100000 t412 t413 t414 _ ?side1 ?side2 ?side3 ?side4 ?side5 A3.out).mono ?_); (case side1 => exact Glob.below HG0.out (bl HB)); (case side2 => repeat (first | exact (Kd.C_below HR0_0.out HB.out) | (with_reducible refine Kd.C_alloc ?_ _) | (with_reducible refine Kd.C_drewN ?_ _) | (with_reducible refine Kd.C_drew ?_))); (case side3 => exact HC0_0.out); (case side4 => repeat (first | exact (Kd.C_below HR0_1.out HB.out) | (with_reducible refine Kd.C_alloc ?_ _) | (with_reducible refine Kd.C_drewN ?_ _) | (with_reducible refine Kd.C_drew ?_))); (case side5 => exact HC0_1.out); rintro e w12 ⟨rfl, hb⟩; refine ⟨_, rfl, ?_⟩; replace BK410 := Aside0.mk (blk_below (g := gb410) (o := .cells #[.slice A0_0 l0_0.length c0_0, .slice A0_1 l0_1.length c0_1, .string a0_2] 103 (0, 0)) (bk BK410) hb); replace BK411 := Aside0.mk (blk_below (g := gb411) (o := .cells #[.slice A1_0 l1_0.length c1_0, .slice A1_1 l1_1.length c1_1, .string a1_2] 103 (0, 0)) (bk BK411) hb); replace HB := Aside0.mk (below_step (bl HB) hb); (try clear hb); (try clear hb2); (try clear hk); (try clear hi); have hcz13_0 : w12.cell? ⟨gb411, 0, none⟩ = some (.slice A1_0 l1_0.length c1_0) := (blk_cell BK411.out 0).trans rfl; have hcz13_1 : w12.cell? ⟨gb411, 1, none⟩ = some (.slice A1_1 l1_1.length c1_1) := (blk_cell BK411.out 1).trans rfl; have hcz13_2 : w12.cell? ⟨gb411, 2, none⟩ = some (.string a1_2) := (blk_cell BK411.out 2).trans rfl; have hfz13_0 := blk_frozen BK411.out 0; have hfz13_1 := blk_frozen BK411.out 1; have hfz13_2 := blk_frozen BK411.out 2) | ((with_reducible refine gate_callee (f := 134) rfl ?_); refine goesM (some 28) Tryz.func134 #[.agg #[.slice A1_0 l1_0.length c1_0, .slice A1_1 l1_1.length c1_1, .string a1_2], .int .i64 100000] ?_; (with_reducible refine (tNear.calls _ _ l1_0 _ _ l1_1 a1_2 100000 t415 t416 t417 _ ?side1 ?side2 ?side3 ?side4 ?side5 A4.out).mono ?_); (case side1 => exact Glob.below HG0.out (bl HB)); (case side2 => repeat (first | exact (Kd.C_below HR1_0.out HB.out) | (with_reducible refine Kd.C_alloc ?_ _) | (with_reducible refine Kd.C_drewN ?_ _) | (with_reducible refine Kd.C_drew ?_))); (case side3 => exact HC1_0.out); (case side4 => repeat (first | exact (Kd.C_below HR1_1.out HB.out) | (with_reducible refine Kd.C_alloc ?_ _) | (with_reducible refine Kd.C_drewN ?_ _) | (with_reducible refine Kd.C_drew ?_))); (case side5 => exact HC1_1.out); rintro e w14 ⟨rfl, hb⟩; refine ⟨_, rfl, ?_⟩; replace BK410 := Aside0.mk (blk_below (g := gb410) (o := .cells #[.slice A0_0 l0_0.length c0_0, .slice A0_1 l0_1.length c0_1, .string a0_2] 103 (0, 0)) (bk BK410) hb); replace BK411 := Aside0.mk (blk_below (g := gb411) (o := .cells #[.slice A1_0 l1_0.length c1_0, .slice A1_1 l1_1.length c1_1, .string a1_2] 103 (0, 0)) (bk BK411) hb); replace HB := Aside0.mk (below_step (bl HB) hb); (try clear hb); (try clear hb2); (try clear hk); (try clear hi); have hcz15_0 : w14.cell? ⟨gb410, 0, none⟩ = some (.slice A0_0 l0_0.length c0_0) := (blk_cell BK410.out 0).trans rfl; have hcz15_1 : w14.cell? ⟨gb410, 1, none⟩ = some (.slice A0_1 l0_1.length c0_1) := (blk_cell BK410.out 1).trans rfl; have hcz15_2 : w14.cell? ⟨gb410, 2, none⟩ = some (.string a0_2) := (blk_cell BK410.out 2).trans rfl; have hfz15_0 := blk_frozen BK410.out 0; have hfz15_1 := blk_frozen BK410.out 1; have hfz15_2 := blk_frozen BK410.out 2) | ((with_reducible refine gate_callee (f := 110) rfl ?_); refine goesM (some 35) Tryz.func110 #[.string a0_2] ?_; (with_reducible refine (wSmall.calls a0_2 t418 t419 _ ?side1 A5.out).mono ?_); (case side1 => exact Glob.below HG0.out (bl HB)); rintro e w16 ⟨rfl, hb⟩; refine ⟨_, rfl, ?_⟩; replace BK410 := Aside0.mk (blk_below (g := gb410) (o := .cells #[.slice A0_0 l0_0.length c0_0, .slice A0_1 l0_1.length c0_1, .string a0_2] 103 (0, 0)) (bk BK410) hb); replace BK411 := Aside0.mk (blk_below (g := gb411) (o := .cells #[.slice A1_0 l1_0.length c1_0, .slice A1_1 l1_1.length c1_1, .string a1_2] 103 (0, 0)) (bk BK411) hb); replace HB := Aside0.mk (below_step (bl HB) hb); (try clear hb); (try clear hb2); (try clear hk); (try clear hi); have hcz17_0 : w16.cell? ⟨gb411, 0, none⟩ = some (.slice A1_0 l1_0.length c1_0) := (blk_cell BK411.out 0).trans rfl; have hcz17_1 : w16.cell? ⟨gb411, 1, none⟩ = some (.slice A1_1 l1_1.length c1_1) := (blk_cell BK411.out 1).trans rfl; have hcz17_2 : w16.cell? ⟨gb411, 2, none⟩ = some (.string a1_2) := (blk_cell BK411.out 2).trans rfl; have hfz17_0 := blk_frozen BK411.out 0; have hfz17_1 := blk_frozen BK411.out 1; have hfz17_2 := blk_frozen BK411.out 2) | ((with_reducible refine gate_callee (f := 110) rfl ?_); refine goesM (some 41) Tryz.func110 #[.string a1_2] ?_; (with_reducible refine (wSmall.calls a1_2 t420 t421 _ ?side1 A6.out).mono ?_); (case side1 => exact Glob.below HG0.out (bl HB)); rintro e w18 ⟨rfl, hb⟩; refine ⟨_, rfl, ?_⟩; replace BK410 := Aside0.mk (blk_below (g := gb410) (o := .cells #[.slice A0_0 l0_0.length c0_0, .slice A0_1 l0_1.length c0_1, .string a0_2] 103 (0, 0)) (bk BK410) hb); replace BK411 := Aside0.mk (blk_below (g := gb411) (o := .cells #[.slice A1_0 l1_0.length c1_0, .slice A1_1 l1_1.length c1_1, .string a1_2] 103 (0, 0)) (bk BK411) hb); replace HB := Aside0.mk (below_step (bl HB) hb); (try clear hb); (try clear hb2); (try clear hk); (try clear hi)))
 (try simp only [Act.put, List.setIfInBounds_toArray, List.set_cons_zero, List.set_cons_succ])
 go_cut [65] (fun v65 wc => ∃ (kq : Nat) (x65_6 : Bool), v65 = .bool x65_6 ∧ Aside0 (size_quotient.j0 kq t412 t413 t415 t416 t418 t420 x65_6 = some (r1, r2)) ∧ Aside0 (kq ≤ k) ∧ Aside0 (wc.heap[gb410]? = some (.cells #[(.slice A0_0 l0_0.length c0_0), (.slice A0_1 l0_1.length c0_1), .string a0_2] 103 (0, 0))) ∧ Aside0 (wc.heap[gb411]? = some (.cells #[(.slice A1_0 l1_0.length c1_0), (.slice A1_1 l1_1.length c1_1), .string a1_2] 103 (0, 0))) ∧ Aside0 (Below w.heap.size w wc))
 case first =>
  have H := HC7.out
  clear HC7
  by_cases c19 : t414 = true
  ·subst c19
   have H1 : (if t417 = true then (if t419 = true then (if t421 = true then (if t418 > 10000 then (size_quotient.j0 k t412 t413 t415 t416 t418 t420 true) else (size_quotient.j0 k t412 t413 t415 t416 t418 t420 (decide (t420 > 10000)))) else (size_quotient.j0 k t412 t413 t415 t416 t418 t420 true)) else (size_quotient.j0 k t412 t413 t415 t416 t418 t420 true)) else (size_quotient.j0 k t412 t413 t415 t416 t418 t420 true)) = some (r1, r2) := by rw [if_pos rfl] at H; exact H
   clear H
   have H := H1
   clear H1
   by_cases c20 : t417 = true
   ·subst c20
    have H1 : (if t419 = true then (if t421 = true then (if t418 > 10000 then (size_quotient.j0 k t412 t413 t415 t416 t418 t420 true) else (size_quotient.j0 k t412 t413 t415 t416 t418 t420 (decide (t420 > 10000)))) else (size_quotient.j0 k t412 t413 t415 t416 t418 t420 true)) else (size_quotient.j0 k t412 t413 t415 t416 t418 t420 true)) = some (r1, r2) := by rw [if_pos rfl] at H; exact H
    clear H
    have H := H1
    clear H1
    by_cases c21 : t419 = true
    ·subst c21
     have H1 : (if t421 = true then (if t418 > 10000 then (size_quotient.j0 k t412 t413 t415 t416 t418 t420 true) else (size_quotient.j0 k t412 t413 t415 t416 t418 t420 (decide (t420 > 10000)))) else (size_quotient.j0 k t412 t413 t415 t416 t418 t420 true)) = some (r1, r2) := by rw [if_pos rfl] at H; exact H
     clear H
     have H := H1
     clear H1
     by_cases c22 : t421 = true
     ·subst c22
      have H1 : (if t418 > 10000 then (size_quotient.j0 k t412 t413 t415 t416 t418 t420 true) else (size_quotient.j0 k t412 t413 t415 t416 t418 t420 (decide (t420 > 10000)))) = some (r1, r2) := by rw [if_pos rfl] at H; exact H
      clear H
      have H := H1
      clear H1
      by_cases c23 : t418 > 10000
      ·rw [if_pos c23] at H
       have c23b0 : decide (10000 < t418) = true := decide_eq_true c23
       clear c23
       (first | rw [c23b0] | (simp only [i64_w, i32_w]; rw [c23b0]) | skip)
       have H' := Aside0.mk H
       clear H
       go_wp2
       go_meet
       case rel => exact ⟨_, (true), rs, H', ⟨by first | omega | exact Nat.le_refl _⟩, ⟨bk BK410⟩, ⟨bk BK411⟩, ⟨bl HB⟩⟩
      ·rw [if_neg c23] at H
       have c23b0 : decide (10000 < t418) = false := decide_eq_false c23
       clear c23
       (first | rw [c23b0] | (simp only [i64_w, i32_w]; rw [c23b0]) | skip)
       have H' := Aside0.mk H
       clear H
       go_wp2
       go_meet
       case rel => exact ⟨_, (decide (t420 > 10000)), rs, H', ⟨by first | omega | exact Nat.le_refl _⟩, ⟨bk BK410⟩, ⟨bk BK411⟩, ⟨bl HB⟩⟩
     ·replace c22 := Bool.eq_false_iff.mpr c22
      subst c22
      have H1 : (size_quotient.j0 k t412 t413 t415 t416 t418 t420 true) = some (r1, r2) := by rw [if_neg (show ¬ (false = true) by decide)] at H; exact H
      clear H
      have H := H1
      clear H1
      have H' := Aside0.mk H
      clear H
      go_wp2
      go_meet
      case rel => exact ⟨_, (true), rs, H', ⟨by first | omega | exact Nat.le_refl _⟩, ⟨bk BK410⟩, ⟨bk BK411⟩, ⟨bl HB⟩⟩
    ·replace c21 := Bool.eq_false_iff.mpr c21
     subst c21
     have H1 : (size_quotient.j0 k t412 t413 t415 t416 t418 t420 true) = some (r1, r2) := by rw [if_neg (show ¬ (false = true) by decide)] at H; exact H
     clear H
     have H := H1
     clear H1
     have H' := Aside0.mk H
     clear H
     go_wp2
     go_meet
     case rel => exact ⟨_, (true), rs, H', ⟨by first | omega | exact Nat.le_refl _⟩, ⟨bk BK410⟩, ⟨bk BK411⟩, ⟨bl HB⟩⟩
   ·replace c20 := Bool.eq_false_iff.mpr c20
    subst c20
    have H1 : (size_quotient.j0 k t412 t413 t415 t416 t418 t420 true) = some (r1, r2) := by rw [if_neg (show ¬ (false = true) by decide)] at H; exact H
    clear H
    have H := H1
    clear H1
    have H' := Aside0.mk H
    clear H
    go_wp2
    go_meet
    case rel => exact ⟨_, (true), rs, H', ⟨by first | omega | exact Nat.le_refl _⟩, ⟨bk BK410⟩, ⟨bk BK411⟩, ⟨bl HB⟩⟩
  ·replace c19 := Bool.eq_false_iff.mpr c19
   subst c19
   have H1 : (size_quotient.j0 k t412 t413 t415 t416 t418 t420 true) = some (r1, r2) := by rw [if_neg (show ¬ (false = true) by decide)] at H; exact H
   clear H
   have H := H1
   clear H1
   have H' := Aside0.mk H
   clear H
   go_wp2
   go_meet
   case rel => exact ⟨_, (true), rs, H', ⟨by first | omega | exact Nat.le_refl _⟩, ⟨bk BK410⟩, ⟨bk BK411⟩, ⟨bl HB⟩⟩
 case rest =>
  clear HC7
  try clear c1
  try clear c2
  try clear p2
  try clear c10
  try clear c11
  try clear c13
  try clear c19
  try clear c20
  try clear c21
  try clear c22
  try clear c23
  try clear c23b0
  try clear hcz11_0
  try clear hcz11_1
  try clear hcz11_2
  try clear hcz13_0
  try clear hcz13_1
  try clear hcz13_2
  try clear hcz15_0
  try clear hcz15_1
  try clear hcz15_2
  try clear hcz17_0
  try clear hcz17_1
  try clear hcz17_2
  try clear hfz11_0
  try clear hfz11_1
  try clear hfz11_2
  try clear hfz13_0
  try clear hfz13_1
  try clear hfz13_2
  try clear hfz15_0
  try clear hfz15_1
  try clear hfz15_2
  try clear hfz17_0
  try clear hfz17_1
  try clear hfz17_2
  obtain ⟨kq, x65_6, rfl, HA, HJ6, BK410, BK411, HB⟩ := hcut
  cases kq with
  | zero => exact absurd HA.out (by simp [size_quotient.j0])
  | succ kj6 =>
   have H := HA.out
   clear HA
   simp only [size_quotient.j0] at H
   by_cases c24 : x65_6 = true
   ·subst c24
    have H1 : (some (0, false)) = some (r1, r2) := by rw [if_pos rfl] at H; exact H
    clear H
    have H := H1
    clear H1
    simp only [Option.some.injEq, Prod.mk.injEq] at H
    obtain ⟨rfl, rfl⟩ := H
    go_wp2
    go_ret2
    exact ⟨rl, bl HB⟩
   ·replace c24 := Bool.eq_false_iff.mpr c24
    subst c24
    have H1 : (if t416 ≤ 0 then (size_quotient.j1 kj6 (wrap64 (-t413)) (wrap64 (-t412)) (wrap64 (-t416)) (wrap64 (-t415)) t418 t420) else (size_quotient.j1 kj6 t412 t413 t415 t416 t418 t420)) = some (r1, r2) := by rw [if_neg (show ¬ (false = true) by decide)] at H; exact H
    clear H
    have H := H1
    clear H1
    have HC25 := Aside0.mk H
    clear H
    go_upto_if 67 with (fail)
    go_cut [6, 7, 9, 10] (fun v6 v7 v9 v10 wc => ∃ (kq : Nat) (x6_24 : Int) (x7_24 : Int) (x9_24 : Int) (x10_24 : Int), v6 = .int .i64 x6_24 ∧ v7 = .int .i64 x7_24 ∧ v9 = .int .i64 x9_24 ∧ v10 = .int .i64 x10_24 ∧ Aside0 (size_quotient.j1 kq x6_24 x7_24 x9_24 x10_24 t418 t420 = some (r1, r2)) ∧ Aside0 (kq ≤ kj6) ∧ Aside0 (wc.heap[gb410]? = some (.cells #[(.slice A0_0 l0_0.length c0_0), (.slice A0_1 l0_1.length c0_1), .string a0_2] 103 (0, 0))) ∧ Aside0 (wc.heap[gb411]? = some (.cells #[(.slice A1_0 l1_0.length c1_0), (.slice A1_1 l1_1.length c1_1), .string a1_2] 103 (0, 0))) ∧ Aside0 (Below w.heap.size w wc))
    case first =>
     have H := HC25.out
     clear HC25
     by_cases c26 : t416 ≤ 0
     ·rw [if_pos c26] at H
      have c26b0 : decide (t416 ≤ 0) = true := decide_eq_true c26
      clear c26
      (first | rw [c26b0] | (simp only [i64_w, i32_w]; rw [c26b0]) | skip)
      have H' := Aside0.mk H
      clear H
      go_wp2
      go_meet
      case rel => exact ⟨_, (wrap64 (-t413)), (wrap64 (-t412)), (wrap64 (-t416)), (wrap64 (-t415)), rs, rs, rs, rs, H', ⟨by have := HJ6.out; first | omega | exact Nat.le_refl _⟩, ⟨bk BK410⟩, ⟨bk BK411⟩, ⟨bl HB⟩⟩
     ·rw [if_neg c26] at H
      have c26b0 : decide (t416 ≤ 0) = false := decide_eq_false c26
      clear c26
      (first | rw [c26b0] | (simp only [i64_w, i32_w]; rw [c26b0]) | skip)
      have H' := Aside0.mk H
      clear H
      go_wp2
      go_meet
      case rel => exact ⟨_, (t412), (t413), (t415), (t416), rs, rs, rs, rs, H', ⟨by have := HJ6.out; first | omega | exact Nat.le_refl _⟩, ⟨bk BK410⟩, ⟨bk BK411⟩, ⟨bl HB⟩⟩
    case rest =>
     clear HC25
     try clear c1
     try clear c2
     try clear p2
     try clear p6
     try clear c10
     try clear c11
     try clear c13
     try clear c19
     try clear c20
     try clear c21
     try clear c22
     try clear c23
     try clear c23b0
     try clear c24
     try clear c26
     try clear c26b0
     try clear hcz11_0
     try clear hcz11_1
     try clear hcz11_2
     try clear hcz13_0
     try clear hcz13_1
     try clear hcz13_2
     try clear hcz15_0
     try clear hcz15_1
     try clear hcz15_2
     try clear hcz17_0
     try clear hcz17_1
     try clear hcz17_2
     try clear hfz11_0
     try clear hfz11_1
     try clear hfz11_2
     try clear hfz13_0
     try clear hfz13_1
     try clear hfz13_2
     try clear hfz15_0
     try clear hfz15_1
     try clear hfz15_2
     try clear hfz17_0
     try clear hfz17_1
     try clear hfz17_2
     try clear p2
     obtain ⟨kq, x6_24, x7_24, x9_24, x10_24, rfl, rfl, rfl, rfl, HA, HJ24, BK410, BK411, HB⟩ := hcut
     cases kq with
     | zero => exact absurd HA.out (by simp [size_quotient.j1])
     | succ kj24 =>
      have H := HA.out
      clear HA
      simp only [size_quotient.j1] at H
      by_cases c27 : x9_24 ≤ 0
      ·rw [if_pos c27] at H
       have c27b0 : decide (x9_24 ≤ 0) = true := decide_eq_true c27
       clear c27
       simp only [Option.some.injEq, Prod.mk.injEq] at H
       obtain ⟨rfl, rfl⟩ := H
       go_wp2
       go_ret2
       exact ⟨rl, bl HB⟩
      ·rw [if_neg c27] at H
       have c27b0 : decide (x9_24 ≤ 0) = false := decide_eq_false c27
       clear c27
       have HC28 := Aside0.mk H
       clear H
       go_upto_if 81 with (fail)
       go_cut [16] (fun v16 wc => ∃ (kq : Nat) (x16_27 : Int), v16 = .int .i64 x16_27 ∧ Aside0 (size_quotient.j2 kq x6_24 x7_24 x10_24 t418 t420 x16_27 x9_24 = some (r1, r2)) ∧ Aside0 (kq ≤ kj24) ∧ Aside0 (wc.heap[gb410]? = some (.cells #[(.slice A0_0 l0_0.length c0_0), (.slice A0_1 l0_1.length c0_1), .string a0_2] 103 (0, 0))) ∧ Aside0 (wc.heap[gb411]? = some (.cells #[(.slice A1_0 l1_0.length c1_0), (.slice A1_1 l1_1.length c1_1), .string a1_2] 103 (0, 0))) ∧ Aside0 (Below w.heap.size w wc))
       case first =>
        have H := HC28.out
        clear HC28
        by_cases c29 : x6_24 < 0
        ·rw [if_pos c29] at H
         have c29b0 : decide (x6_24 < 0) = true := decide_eq_true c29
         clear c29
         (first | rw [c29b0] | (simp only [i64_w, i32_w]; rw [c29b0]) | skip)
         have H' := Aside0.mk H
         clear H
         go_wp2
         go_meet
         case rel => exact ⟨_, (x9_24), rs, H', ⟨by have := HJ6.out; have := HJ24.out; first | omega | exact Nat.le_refl _⟩, ⟨bk BK410⟩, ⟨bk BK411⟩, ⟨bl HB⟩⟩
        ·rw [if_neg c29] at H
         have c29b0 : decide (x6_24 < 0) = false := decide_eq_false c29
         clear c29
         (first | rw [c29b0] | (simp only [i64_w, i32_w]; rw [c29b0]) | skip)
         have H' := Aside0.mk H
         clear H
         go_wp2
         go_meet
         case rel => exact ⟨_, (x10_24), rs, H', ⟨by have := HJ6.out; have := HJ24.out; first | omega | exact Nat.le_refl _⟩, ⟨bk BK410⟩, ⟨bk BK411⟩, ⟨bl HB⟩⟩
       case rest =>
        clear HC28
        try clear c1
        try clear c2
        try clear p2
        try clear p6
        try clear c10
        try clear c11
        try clear c13
        try clear c19
        try clear c20
        try clear c21
        try clear c22
        try clear c23
        try clear c23b0
        try clear c24
        try clear c26
        try clear c26b0
        try clear c27
        try clear c27b0
        try clear c29
        try clear c29b0
        try clear hcz11_0
        try clear hcz11_1
        try clear hcz11_2
        try clear hcz13_0
        try clear hcz13_1
        try clear hcz13_2
        try clear hcz15_0
        try clear hcz15_1
        try clear hcz15_2
        try clear hcz17_0
        try clear hcz17_1
        try clear hcz17_2
        try clear hfz11_0
        try clear hfz11_1
        try clear hfz11_2
        try clear hfz13_0
        try clear hfz13_1
        try clear hfz13_2
        try clear hfz15_0
        try clear hfz15_1
        try clear hfz15_2
        try clear hfz17_0
        try clear hfz17_1
        try clear hfz17_2
        try clear p2
        try clear p6
        obtain ⟨kq, x16_27, rfl, HA, HJ27, BK410, BK411, HB⟩ := hcut
        cases kq with
        | zero => exact absurd HA.out (by simp [size_quotient.j2])
        | succ kj27 =>
         have H := HA.out
         clear HA
         simp only [size_quotient.j2] at H
         by_cases c30 : x7_24 < 0
         ·rw [if_pos c30] at H
          have c30b0 : decide (x7_24 < 0) = true := decide_eq_true c30
          clear c30
          replace H := Option.bind_eq_some_iff.mp H
          obtain ⟨t422, A310, H⟩ := H
          replace H : ((size_downward.f (wrap64 (x7_24 * t420)) (wrap64 (x10_24 * t418))).bind fun t423 => (some (t422, (t422 == t423)))) = some (r1, r2) := H
          have A31 := Aside0.mk A310
          clear A310
          replace H := Option.bind_eq_some_iff.mp H
          obtain ⟨t423, A320, H⟩ := H
          replace H : (some (t422, (t422 == t423))) = some (r1, r2) := H
          have A32 := Aside0.mk A320
          clear A320
          simp only [Option.some.injEq, Prod.mk.injEq] at H
          obtain ⟨rfl, rfl⟩ := H
          go_wp2_with (first | ((with_reducible refine gate_callee (f := 140) rfl ?_); refine goesM (some 92) Tryz.func140 #[.int .i64 (wrap64 (x6_24 * t420)), .int .i64 (wrap64 (x16_27 * t418))] ?_; (with_reducible refine (size_downward.calls (wrap64 (x6_24 * t420)) (wrap64 (x16_27 * t418)) t422 _ A31.out).mono ?_); rintro e w' ⟨rfl, ⟨nd, rfl⟩⟩; refine ⟨_, rfl, ?_⟩) | ((with_reducible refine gate_callee (f := 140) rfl ?_); refine goesM (some 99) Tryz.func140 #[.int .i64 (wrap64 (x7_24 * t420)), .int .i64 (wrap64 (x10_24 * t418))] ?_; (with_reducible refine (size_downward.calls (wrap64 (x7_24 * t420)) (wrap64 (x10_24 * t418)) t423 _ A32.out).mono ?_); rintro e w' ⟨rfl, ⟨nd, rfl⟩⟩; refine ⟨_, rfl, ?_⟩))
          go_ret2
          exact ⟨rl, bl HB⟩
         ·rw [if_neg c30] at H
          have c30b0 : decide (x7_24 < 0) = false := decide_eq_false c30
          clear c30
          replace H := Option.bind_eq_some_iff.mp H
          obtain ⟨t424, A330, H⟩ := H
          replace H : ((size_downward.f (wrap64 (x7_24 * t420)) (wrap64 (x9_24 * t418))).bind fun t425 => (some (t424, (t424 == t425)))) = some (r1, r2) := H
          have A33 := Aside0.mk A330
          clear A330
          replace H := Option.bind_eq_some_iff.mp H
          obtain ⟨t425, A340, H⟩ := H
          replace H : (some (t424, (t424 == t425))) = some (r1, r2) := H
          have A34 := Aside0.mk A340
          clear A340
          simp only [Option.some.injEq, Prod.mk.injEq] at H
          obtain ⟨rfl, rfl⟩ := H
          go_wp2_with (first | ((with_reducible refine gate_callee (f := 140) rfl ?_); refine goesM (some 92) Tryz.func140 #[.int .i64 (wrap64 (x6_24 * t420)), .int .i64 (wrap64 (x16_27 * t418))] ?_; (with_reducible refine (size_downward.calls (wrap64 (x6_24 * t420)) (wrap64 (x16_27 * t418)) t424 _ A33.out).mono ?_); rintro e w' ⟨rfl, ⟨nd, rfl⟩⟩; refine ⟨_, rfl, ?_⟩) | ((with_reducible refine gate_callee (f := 140) rfl ?_); refine goesM (some 99) Tryz.func140 #[.int .i64 (wrap64 (x7_24 * t420)), .int .i64 (wrap64 (x9_24 * t418))] ?_; (with_reducible refine (size_downward.calls (wrap64 (x7_24 * t420)) (wrap64 (x9_24 * t418)) t425 _ A34.out).mono ?_); rintro e w' ⟨rfl, ⟨nd, rfl⟩⟩; refine ⟨_, rfl, ?_⟩))
          go_ret2
          exact ⟨rl, bl HB⟩
def size_floor.l0 : Nat → Option (ByteArray)
 | 0 => none
 | k + 1 => none
def size_floor.f (k : Nat) (l0 : List Int) (l1 : List (S30)) (l2 : List (S30)) : Option (ByteArray) := (size_ratio.f k l1 l2).bind fun bt426 => (if bt426.2.2 = true then ((fraction_Floor.f k bt426.1 bt426.2.1).bind fun t430 => (some t430)) else ((size_termsOf.f k l0 l1).bind fun bt431 => ((size_termsOf.f k l0 l2).bind fun bt438 => ((size_quotient.f k bt431.1 bt431.2.1 bt431.2.2 bt438.1 bt438.2.1 bt438.2.2).bind fun bt447 => (if bt447.2 = true then ((whole_Of.f bt447.1).bind fun t449 => (some t449)) else (size_floor.l0 k))))))
set_option maxHeartbeats 8000000 in
set_option maxRecDepth 100000 in
theorem size_floor.calls (k : Nat) (A0 : Option Addr) (c0 : Nat) (l0 : List Int) (A1 : Option Addr) (c1 : Nat) (l1 : List (S30)) (A2 : Option Addr) (c2 : Nat) (l2 : List (S30)) (r : ByteArray) (w : World) (hG : Glob w) (hr0 : Kd.C (Kd.int .i64) w A0 l0.length l0) (hc0 : l0.length ≤ c0) (hr1 : Kd.C k30 w A1 l1.length l1) (hc1 : l1.length ≤ c1) (hr2 : Kd.C k30 w A2 l2.length l2) (hc2 : l2.length ≤ c2) (h : size_floor.f k l0 l1 l2 = some r) :
  Calls Tryz.prog 75 #[.slice A0 l0.length c0, .slice A1 l1.length c1, .slice A2 l2.length c2] w fun e w' => e = .returned (.string r) ∧ Below w.heap.size w w' := by
 have hu30 := Tryz.underlying30
 have hu103 := Tryz.underlying103
 have HR0 := Aside0.mk hr0
 have HC0 := Aside0.mk hc0
 clear hr0 hc0
 have HR1 := Aside0.mk hr1
 have HC1 := Aside0.mk hc1
 clear hr1 hc1
 have HR2 := Aside0.mk hr2
 have HC2 := Aside0.mk hc2
 clear hr2 hc2
 have HG0 := Aside0.mk hG
 clear hG
 have HB := Aside0.mk (Below.refl w.heap.size w)
 have H : ((size_ratio.f k l1 l2).bind fun bt426 => (if bt426.2.2 = true then ((fraction_Floor.f k bt426.1 bt426.2.1).bind fun t430 => (some t430)) else ((size_termsOf.f k l0 l1).bind fun bt431 => ((size_termsOf.f k l0 l2).bind fun bt438 => ((size_quotient.f k bt431.1 bt431.2.1 bt431.2.2 bt438.1 bt438.2.1 bt438.2.2).bind fun bt447 => (if bt447.2 = true then ((whole_Of.f bt447.1).bind fun t449 => (some t449)) else (size_floor.l0 k))))))) = some r := h
 clear h
 replace H := Option.bind_eq_some_iff.mp H
 obtain ⟨⟨t426, t427, t428⟩, A40, H⟩ := H
 replace H : (if t428 = true then ((fraction_Floor.f k t426 t427).bind fun t430 => (some t430)) else ((size_termsOf.f k l0 l1).bind fun bt431 => ((size_termsOf.f k l0 l2).bind fun bt438 => ((size_quotient.f k bt431.1 bt431.2.1 bt431.2.2 bt438.1 bt438.2.1 bt438.2.2).bind fun bt447 => (if bt447.2 = true then ((whole_Of.f bt447.1).bind fun t449 => (some t449)) else (size_floor.l0 k)))))) = some r := H
 have A4 := Aside0.mk A40
 clear A40
 by_cases c5 : t428 = true
 ·subst c5
  have H1 : ((fraction_Floor.f k t426 t427).bind fun t430 => (some t430)) = some r := by rw [if_pos rfl] at H; exact H
  clear H
  have H := H1
  clear H1
  replace H := Option.bind_eq_some_iff.mp H
  obtain ⟨t430, A60, H⟩ := H
  replace H : (some t430) = some r := H
  have A6 := Aside0.mk A60
  clear A60
  obtain rfl := Option.some.inj H
  go_enter Tryz.func75, Tryz.ntmps75
  go_wp2_with (first | ((with_reducible refine gate_callee (f := 114) rfl ?_); refine goesM (some 29) Tryz.func114 #[.slice A1 l1.length c1, .slice A2 l2.length c2] ?_; (with_reducible refine (size_ratio.calls k _ _ l1 _ _ l2 t426 t427 true _ ?side1 ?side2 ?side3 ?side4 ?side5 A4.out).mono ?_); (case side1 => exact Glob.below HG0.out (bl HB)); (case side2 => repeat (first | exact HR1.out | (with_reducible refine Kd.C_alloc ?_ _) | (with_reducible refine Kd.C_drewN ?_ _) | (with_reducible refine Kd.C_drew ?_))); (case side3 => exact HC1.out); (case side4 => repeat (first | exact HR2.out | (with_reducible refine Kd.C_alloc ?_ _) | (with_reducible refine Kd.C_drewN ?_ _) | (with_reducible refine Kd.C_drew ?_))); (case side5 => exact HC2.out); rintro e w7 ⟨rfl, hb⟩; refine ⟨_, rfl, ?_⟩; replace HB := Aside0.mk (below_step (bl HB) hb); (try clear hb); (try clear hb2); (try clear hk); (try clear hi)) | ((with_reducible refine gate_dst (N := 7) rfl ?_); refine boxM (N := 7) #[.string (⟨#[]⟩ : ByteArray), .string (⟨#[]⟩ : ByteArray)] 30 ?_; intro gb429 hg w8 hbox hb; have BK429 := Aside0.mk (hbox); have GW429 := Aside0.mk ((by rw [hg]; exact (below_size (bl HB)) : w.heap.size ≤ gb429)); have GE429 := Aside0.mk ((by rw [hg]; exact (below_size (bl HB)) : w.heap.size ≤ gb429)); replace HB := Aside0.mk (below_step (bl HB) hb); clear hb hbox hg; have hcz9_0 : w8.cell? ⟨gb429, 0, none⟩ = some (.string (⟨#[]⟩ : ByteArray)) := (blk_cell BK429.out 0).trans rfl; have hcz9_1 : w8.cell? ⟨gb429, 1, none⟩ = some (.string (⟨#[]⟩ : ByteArray)) := (blk_cell BK429.out 1).trans rfl; have hfz9_0 := blk_frozen BK429.out 0; have hfz9_1 := blk_frozen BK429.out 1) | ((with_reducible refine gate_callee (f := 115) rfl ?_); refine goesM (some 34) Tryz.func115 #[.agg #[.string t426, .string t427]] ?_; (with_reducible refine (fraction_Floor.calls k t426 t427 t430 _ ?side1 A6.out).mono ?_); (case side1 => exact Glob.below HG0.out (bl HB)); rintro e w10 ⟨rfl, hb⟩; refine ⟨_, rfl, ?_⟩; replace BK429 := Aside0.mk (blk_below (g := gb429) (o := .cells #[.string t426, .string t427] 30 (0, 0)) (by (with_reducible repeat (first | refine blk_drewN ?_ _ | refine blk_drew ?_ | refine blk_alloc ?_ _)); refine blk_put (cs := #[.string t426, .string (⟨#[]⟩ : ByteArray)]) ?_ 1 _ rfl; (with_reducible repeat (first | refine blk_drewN ?_ _ | refine blk_drew ?_ | refine blk_alloc ?_ _)); refine blk_put (cs := #[.string (⟨#[]⟩ : ByteArray), .string (⟨#[]⟩ : ByteArray)]) ?_ 0 _ rfl; (with_reducible repeat (first | refine blk_drewN ?_ _ | refine blk_drew ?_ | refine blk_alloc ?_ _)); exact BK429.out) hb); replace HB := Aside0.mk (below_step (bl HB) hb); (try clear hb); (try clear hb2); (try clear hk); (try clear hi)))
  go_ret
  exact ⟨rl, bl HB⟩
 ·replace c5 := Bool.eq_false_iff.mpr c5
  subst c5
  have H1 : ((size_termsOf.f k l0 l1).bind fun bt431 => ((size_termsOf.f k l0 l2).bind fun bt438 => ((size_quotient.f k bt431.1 bt431.2.1 bt431.2.2 bt438.1 bt438.2.1 bt438.2.2).bind fun bt447 => (if bt447.2 = true then ((whole_Of.f bt447.1).bind fun t449 => (some t449)) else (size_floor.l0 k))))) = some r := by rw [if_neg (show ¬ (false = true) by decide)] at H; exact H
  clear H
  have H := H1
  clear H1
  replace H := Option.bind_eq_some_iff.mp H
  obtain ⟨⟨t431, t434, t437⟩, A110, H⟩ := H
  replace H : ((size_termsOf.f k l0 l2).bind fun bt438 => ((size_quotient.f k t431 t434 t437 bt438.1 bt438.2.1 bt438.2.2).bind fun bt447 => (if bt447.2 = true then ((whole_Of.f bt447.1).bind fun t449 => (some t449)) else (size_floor.l0 k)))) = some r := H
  have A11 := Aside0.mk A110
  clear A110
  replace H := Option.bind_eq_some_iff.mp H
  obtain ⟨⟨t438, t441, t444⟩, A120, H⟩ := H
  replace H : ((size_quotient.f k t431 t434 t437 t438 t441 t444).bind fun bt447 => (if bt447.2 = true then ((whole_Of.f bt447.1).bind fun t449 => (some t449)) else (size_floor.l0 k))) = some r := H
  have A12 := Aside0.mk A120
  clear A120
  replace H := Option.bind_eq_some_iff.mp H
  obtain ⟨⟨t447, t448⟩, A130, H⟩ := H
  replace H : (if t448 = true then ((whole_Of.f t447).bind fun t449 => (some t449)) else (size_floor.l0 k)) = some r := H
  have A13 := Aside0.mk A130
  clear A130
  by_cases c14 : t448 = true
  ·subst c14
   have H1 : ((whole_Of.f t447).bind fun t449 => (some t449)) = some r := by rw [if_pos rfl] at H; exact H
   clear H
   have H := H1
   clear H1
   replace H := Option.bind_eq_some_iff.mp H
   obtain ⟨t449, A150, H⟩ := H
   replace H : (some t449) = some r := H
   have A15 := Aside0.mk A150
   clear A150
   obtain rfl := Option.some.inj H
   go_enter Tryz.func75, Tryz.ntmps75
   go_wp2_with (first | ((with_reducible refine gate_callee (f := 114) rfl ?_); refine goesM (some 29) Tryz.func114 #[.slice A1 l1.length c1, .slice A2 l2.length c2] ?_; (with_reducible refine (size_ratio.calls k _ _ l1 _ _ l2 t426 t427 false _ ?side1 ?side2 ?side3 ?side4 ?side5 A4.out).mono ?_); (case side1 => exact Glob.below HG0.out (bl HB)); (case side2 => repeat (first | exact HR1.out | (with_reducible refine Kd.C_alloc ?_ _) | (with_reducible refine Kd.C_drewN ?_ _) | (with_reducible refine Kd.C_drew ?_))); (case side3 => exact HC1.out); (case side4 => repeat (first | exact HR2.out | (with_reducible refine Kd.C_alloc ?_ _) | (with_reducible refine Kd.C_drewN ?_ _) | (with_reducible refine Kd.C_drew ?_))); (case side5 => exact HC2.out); rintro e w16 ⟨rfl, hb⟩; refine ⟨_, rfl, ?_⟩; replace HB := Aside0.mk (below_step (bl HB) hb); (try clear hb); (try clear hb2); (try clear hk); (try clear hi)) | ((with_reducible refine gate_dst (N := 7) rfl ?_); refine boxM (N := 7) #[.string (⟨#[]⟩ : ByteArray), .string (⟨#[]⟩ : ByteArray)] 30 ?_; intro gb429 hg w17 hbox hb; have BK429 := Aside0.mk (hbox); have GW429 := Aside0.mk ((by rw [hg]; exact (below_size (bl HB)) : w.heap.size ≤ gb429)); have GE429 := Aside0.mk ((by rw [hg]; exact (below_size (bl HB)) : w.heap.size ≤ gb429)); replace HB := Aside0.mk (below_step (bl HB) hb); clear hb hbox hg; have hcz18_0 : w17.cell? ⟨gb429, 0, none⟩ = some (.string (⟨#[]⟩ : ByteArray)) := (blk_cell BK429.out 0).trans rfl; have hcz18_1 : w17.cell? ⟨gb429, 1, none⟩ = some (.string (⟨#[]⟩ : ByteArray)) := (blk_cell BK429.out 1).trans rfl; have hfz18_0 := blk_frozen BK429.out 0; have hfz18_1 := blk_frozen BK429.out 1) | ((with_reducible refine gate_callee (f := 66) rfl ?_); refine goesM (some 37) Tryz.func66 #[.slice A0 l0.length c0, .slice A1 l1.length c1] ?_; (with_reducible refine (size_termsOf.calls k _ _ l0 _ _ l1 t431 t434 t437 _ ?side1 ?side2 ?side3 ?side4 ?side5 A11.out).mono ?_); (case side1 => exact Glob.below HG0.out (bl HB)); (case side2 => exact Kd.C_below HR0.out (bl HB)); (case side3 => exact HC0.out); (case side4 => exact Kd.C_below HR1.out (bl HB)); (case side5 => exact HC1.out); rintro e w19 ⟨v432, v435, rfl, ho0, ho1, hb⟩; refine ⟨_, rfl, ?_⟩; have HO433 := Aside0.mk (Kd.R_lower ho0 (below_size (bl HB))); have HO436 := Aside0.mk (Kd.R_lower ho1 (below_size (bl HB))); replace BK429 := Aside0.mk (blk_below (g := gb429) (o := .cells #[.string t426, .string t427] 30 (0, 0)) (by (with_reducible repeat (first | refine blk_drewN ?_ _ | refine blk_drew ?_ | refine blk_alloc ?_ _)); refine blk_put (cs := #[.string t426, .string (⟨#[]⟩ : ByteArray)]) ?_ 1 _ rfl; (with_reducible repeat (first | refine blk_drewN ?_ _ | refine blk_drew ?_ | refine blk_alloc ?_ _)); refine blk_put (cs := #[.string (⟨#[]⟩ : ByteArray), .string (⟨#[]⟩ : ByteArray)]) ?_ 0 _ rfl; (with_reducible repeat (first | refine blk_drewN ?_ _ | refine blk_drew ?_ | refine blk_alloc ?_ _)); exact BK429.out) hb); replace HB := Aside0.mk (below_step (bl HB) hb); (try clear hb); (try clear hb2); (try clear hk); (try clear hi); (try clear ho0); (try clear ho1)) | ((with_reducible refine gate_callee (f := 66) rfl ?_); refine goesM (some 40) Tryz.func66 #[.slice A0 l0.length c0, .slice A2 l2.length c2] ?_; (with_reducible refine (size_termsOf.calls k _ _ l0 _ _ l2 t438 t441 t444 _ ?side1 ?side2 ?side3 ?side4 ?side5 A12.out).mono ?_); (case side1 => exact Glob.below HG0.out (bl HB)); (case side2 => repeat (first | exact (Kd.C_below HR0.out HB.out) | (with_reducible refine Kd.C_alloc ?_ _) | (with_reducible refine Kd.C_drewN ?_ _) | (with_reducible refine Kd.C_drew ?_))); (case side3 => exact HC0.out); (case side4 => repeat (first | exact (Kd.C_below HR2.out HB.out) | (with_reducible refine Kd.C_alloc ?_ _) | (with_reducible refine Kd.C_drewN ?_ _) | (with_reducible refine Kd.C_drew ?_))); (case side5 => exact HC2.out); rintro e w20 ⟨v439, v442, rfl, ho0, ho1, hb⟩; refine ⟨_, rfl, ?_⟩; have HO440 := Aside0.mk (Kd.R_lower (Kd.R_new' ho0 (Kd.R_lt (kr HO433))) (below_size (bl HB))); replace HO433 := Aside0.mk (Kd.R_elder' (kr HO433) (Kd.R_base ho0) hb); have HO443 := Aside0.mk (Kd.R_lower (Kd.R_new' ho1 (Kd.R_lt (kr HO436))) (below_size (bl HB))); replace HO436 := Aside0.mk (Kd.R_elder' (kr HO436) (Kd.R_base ho1) hb); replace BK429 := Aside0.mk (blk_below (g := gb429) (o := .cells #[.string t426, .string t427] 30 (0, 0)) (bk BK429) hb); replace HB := Aside0.mk (below_step (bl HB) hb); (try clear hb); (try clear hb2); (try clear hk); (try clear hi); (try clear ho0); (try clear ho1)) | ((with_reducible refine gate_dst (N := 9) rfl ?_); refine boxM (N := 9) #[.slice none 0 0, .slice none 0 0, .string (⟨#[]⟩ : ByteArray)] 103 ?_; intro gb445 hg w21 hbox hb; replace HO433 := Aside0.mk (Kd.R_below (kr HO433) hb); replace HO436 := Aside0.mk (Kd.R_below (kr HO436) hb); replace HO440 := Aside0.mk (Kd.R_below (kr HO440) hb); replace HO443 := Aside0.mk (Kd.R_below (kr HO443) hb); have BK445 := Aside0.mk (hbox); have GW445 := Aside0.mk ((by rw [hg]; exact (below_size (bl HB)) : w.heap.size ≤ gb445)); have GE445 := Aside0.mk ((by rw [hg]; exact (below_size (bl HB)) : w.heap.size ≤ gb445)); replace HB := Aside0.mk (below_step (bl HB) hb); have NB429_445 := Aside0.mk ((by rw [hg]; exact Nat.ne_of_lt (blk_lt (g := gb429) (o := .cells #[.string t426, .string t427] 30 (0, 0)) (bk BK429)) : gb429 ≠ gb445)); have NB445_429 := Aside0.mk ((by rw [hg]; exact Nat.ne_of_gt (blk_lt (g := gb429) (o := .cells #[.string t426, .string t427] 30 (0, 0)) (bk BK429)) : gb445 ≠ gb429)); replace BK429 := Aside0.mk (blk_below (g := gb429) (o := .cells #[.string t426, .string t427] 30 (0, 0)) (bk BK429) hb); clear hb hbox hg) | ((with_reducible refine gate_dst (N := 10) rfl ?_); refine boxM (N := 10) #[.slice none 0 0, .slice none 0 0, .string (⟨#[]⟩ : ByteArray)] 103 ?_; intro gb446 hg w22 hbox hb; replace HO433 := Aside0.mk (Kd.R_below (kr HO433) hb); replace HO436 := Aside0.mk (Kd.R_below (kr HO436) hb); replace HO440 := Aside0.mk (Kd.R_below (kr HO440) hb); replace HO443 := Aside0.mk (Kd.R_below (kr HO443) hb); have BK446 := Aside0.mk (hbox); have GW446 := Aside0.mk ((by rw [hg]; exact (below_size (bl HB)) : w.heap.size ≤ gb446)); have GE446 := Aside0.mk ((by rw [hg]; exact (below_size (bl HB)) : w.heap.size ≤ gb446)); replace HB := Aside0.mk (below_step (bl HB) hb); have NB429_446 := Aside0.mk ((by rw [hg]; exact Nat.ne_of_lt (blk_lt (g := gb429) (o := .cells #[.string t426, .string t427] 30 (0, 0)) (bk BK429)) : gb429 ≠ gb446)); have NB446_429 := Aside0.mk ((by rw [hg]; exact Nat.ne_of_gt (blk_lt (g := gb429) (o := .cells #[.string t426, .string t427] 30 (0, 0)) (bk BK429)) : gb446 ≠ gb429)); replace BK429 := Aside0.mk (blk_below (g := gb429) (o := .cells #[.string t426, .string t427] 30 (0, 0)) (bk BK429) hb); have NB445_446 := Aside0.mk ((by rw [hg]; exact Nat.ne_of_lt (blk_lt (g := gb445) (o := .cells #[.slice none 0 0, .slice none 0 0, .string (⟨#[]⟩ : ByteArray)] 103 (0, 0)) (bk BK445)) : gb445 ≠ gb446)); have NB446_445 := Aside0.mk ((by rw [hg]; exact Nat.ne_of_gt (blk_lt (g := gb445) (o := .cells #[.slice none 0 0, .slice none 0 0, .string (⟨#[]⟩ : ByteArray)] 103 (0, 0)) (bk BK445)) : gb446 ≠ gb445)); replace BK445 := Aside0.mk (blk_below (g := gb445) (o := .cells #[.slice none 0 0, .slice none 0 0, .string (⟨#[]⟩ : ByteArray)] 103 (0, 0)) (bk BK445) hb); clear hb hbox hg; obtain ⟨Ao23, co23, eo23⟩ := Kd.R_slice HO433.out; subst eo23; have hnb24 := NB445_429.out; have hnc24 := NB429_445.out; have hnb25 := NB445_446.out; have hnc25 := NB446_445.out; have hcz26_0 : w22.cell? ⟨gb445, 0, none⟩ = some (.slice none 0 0) := (blk_cell BK445.out 0).trans rfl; have hcz26_1 : w22.cell? ⟨gb445, 1, none⟩ = some (.slice none 0 0) := (blk_cell BK445.out 1).trans rfl; have hcz26_2 : w22.cell? ⟨gb445, 2, none⟩ = some (.string (⟨#[]⟩ : ByteArray)) := (blk_cell BK445.out 2).trans rfl; have hfz26_0 := blk_frozen BK445.out 0; have hfz26_1 := blk_frozen BK445.out 1; have hfz26_2 := blk_frozen BK445.out 2; obtain ⟨Ao27, co27, eo27⟩ := Kd.R_slice HO436.out; subst eo27; obtain ⟨Ao28, co28, eo28⟩ := Kd.R_slice HO440.out; subst eo28; have hnb29 := NB446_429.out; have hnc29 := NB429_446.out; have hcz30_0 : w22.cell? ⟨gb446, 0, none⟩ = some (.slice none 0 0) := (blk_cell BK446.out 0).trans rfl; have hcz30_1 : w22.cell? ⟨gb446, 1, none⟩ = some (.slice none 0 0) := (blk_cell BK446.out 1).trans rfl; have hcz30_2 : w22.cell? ⟨gb446, 2, none⟩ = some (.string (⟨#[]⟩ : ByteArray)) := (blk_cell BK446.out 2).trans rfl; have hfz30_0 := blk_frozen BK446.out 0; have hfz30_1 := blk_frozen BK446.out 1; have hfz30_2 := blk_frozen BK446.out 2; obtain ⟨Ao31, co31, eo31⟩ := Kd.R_slice HO443.out; subst eo31) | ((with_reducible refine gate_callee (f := 116) rfl ?_); refine goesM (some 44) Tryz.func116 #[.agg #[.slice Ao23 t431.length co23, .slice Ao27 t434.length co27, .string t437], .agg #[.slice Ao28 t438.length co28, .slice Ao31 t441.length co31, .string t444]] ?_; (with_reducible refine (size_quotient.calls k _ _ t431 _ _ t434 t437 _ _ t438 _ _ t441 t444 t447 true _ ?side1 ?side2 ?side3 ?side4 ?side5 ?side6 ?side7 ?side8 ?side9 A13.out).mono ?_); (case side1 => exact Glob.below HG0.out (bl HB)); (case side2 => refine (Kd.R_reads' (e := 3) (base := w.heap.size) (ok := fun k_ => (True ∧ some k_ ≠ (.slice Ao28 t438.length co28 : Value).ownBlock)) (n := t431.length) (c := co23) ?_).2.2; exact (by (with_reducible repeat (first | apply Kd.R_alloc | apply Kd.R_drewN | apply Kd.R_drew)); exact (Kd.R_mono (Kd.R_mono (Kd.R_far (p := ⟨gb446, 2, none⟩) (Kd.R_far (p := ⟨gb446, 1, none⟩) (Kd.R_far (p := ⟨gb446, 0, none⟩) (Kd.R_far (p := ⟨gb445, 2, none⟩) (Kd.R_far (p := ⟨gb445, 1, none⟩) (Kd.R_far (p := ⟨gb445, 0, none⟩) (Kd.R_types (Kd.R_types HO433.out BK445.out (by decide)) BK446.out (by decide)) (fun _ hk => hk.1.2) (.slice Ao23 t431.length co23)) (fun _ hk => hk.1.2) (.slice Ao27 t434.length co27)) (fun _ hk => hk.1.2) (.string t437)) (fun _ hk => hk.2) (.slice Ao28 t438.length co28)) (fun _ hk => hk.2) (.slice Ao31 t441.length co31)) (fun _ hk => hk.2) (.string t444)) (fun _ h_ => h_.1)) (fun _ h_ => h_.1)))); (case side3 => exact (Kd.R_reads' HO433.out).2.1); (case side4 => refine (Kd.R_reads' (e := 28) (base := w.heap.size) (ok := fun k_ => (True ∧ some k_ ≠ (.slice Ao31 t441.length co31 : Value).ownBlock)) (n := t434.length) (c := co27) ?_).2.2; exact (by (with_reducible repeat (first | apply Kd.R_alloc | apply Kd.R_drewN | apply Kd.R_drew)); exact (Kd.R_mono (Kd.R_mono (Kd.R_far (p := ⟨gb446, 2, none⟩) (Kd.R_far (p := ⟨gb446, 1, none⟩) (Kd.R_far (p := ⟨gb446, 0, none⟩) (Kd.R_far (p := ⟨gb445, 2, none⟩) (Kd.R_far (p := ⟨gb445, 1, none⟩) (Kd.R_far (p := ⟨gb445, 0, none⟩) (Kd.R_types (Kd.R_types HO436.out BK445.out (by decide)) BK446.out (by decide)) (fun _ hk => hk.1.2) (.slice Ao23 t431.length co23)) (fun _ hk => hk.1.2) (.slice Ao27 t434.length co27)) (fun _ hk => hk.1.2) (.string t437)) (fun _ hk => hk.2) (.slice Ao28 t438.length co28)) (fun _ hk => hk.2) (.slice Ao31 t441.length co31)) (fun _ hk => hk.2) (.string t444)) (fun _ h_ => h_.1)) (fun _ h_ => h_.1)))); (case side5 => exact (Kd.R_reads' HO436.out).2.1); (case side6 => refine (Kd.R_reads' (e := 3) (base := w.heap.size) (ok := fun k_ => (True ∧ some k_ ≠ (.slice Ao23 t431.length co23 : Value).ownBlock)) (n := t438.length) (c := co28) ?_).2.2; exact (by (with_reducible repeat (first | apply Kd.R_alloc | apply Kd.R_drewN | apply Kd.R_drew)); exact (Kd.R_mono (Kd.R_mono (Kd.R_far (p := ⟨gb446, 2, none⟩) (Kd.R_far (p := ⟨gb446, 1, none⟩) (Kd.R_far (p := ⟨gb446, 0, none⟩) (Kd.R_far (p := ⟨gb445, 2, none⟩) (Kd.R_far (p := ⟨gb445, 1, none⟩) (Kd.R_far (p := ⟨gb445, 0, none⟩) (Kd.R_types (Kd.R_types HO440.out BK445.out (by decide)) BK446.out (by decide)) (fun _ hk => hk.1.2) (.slice Ao23 t431.length co23)) (fun _ hk => hk.1.2) (.slice Ao27 t434.length co27)) (fun _ hk => hk.1.2) (.string t437)) (fun _ hk => hk.2) (.slice Ao28 t438.length co28)) (fun _ hk => hk.2) (.slice Ao31 t441.length co31)) (fun _ hk => hk.2) (.string t444)) (fun _ h_ => h_.1)) (fun _ h_ => h_.1)))); (case side7 => exact (Kd.R_reads' HO440.out).2.1); (case side8 => refine (Kd.R_reads' (e := 28) (base := w.heap.size) (ok := fun k_ => (True ∧ some k_ ≠ (.slice Ao27 t434.length co27 : Value).ownBlock)) (n := t441.length) (c := co31) ?_).2.2; exact (by (with_reducible repeat (first | apply Kd.R_alloc | apply Kd.R_drewN | apply Kd.R_drew)); exact (Kd.R_mono (Kd.R_mono (Kd.R_far (p := ⟨gb446, 2, none⟩) (Kd.R_far (p := ⟨gb446, 1, none⟩) (Kd.R_far (p := ⟨gb446, 0, none⟩) (Kd.R_far (p := ⟨gb445, 2, none⟩) (Kd.R_far (p := ⟨gb445, 1, none⟩) (Kd.R_far (p := ⟨gb445, 0, none⟩) (Kd.R_types (Kd.R_types HO443.out BK445.out (by decide)) BK446.out (by decide)) (fun _ hk => hk.1.2) (.slice Ao23 t431.length co23)) (fun _ hk => hk.1.2) (.slice Ao27 t434.length co27)) (fun _ hk => hk.1.2) (.string t437)) (fun _ hk => hk.2) (.slice Ao28 t438.length co28)) (fun _ hk => hk.2) (.slice Ao31 t441.length co31)) (fun _ hk => hk.2) (.string t444)) (fun _ h_ => h_.1)) (fun _ h_ => h_.1)))); (case side9 => exact (Kd.R_reads' HO443.out).2.1); rintro e w32 ⟨rfl, hb⟩; refine ⟨_, rfl, ?_⟩; replace HO433 := Aside0.mk (Kd.R_below (by (with_reducible repeat (first | apply Kd.R_alloc | apply Kd.R_drewN | apply Kd.R_drew)); exact (Kd.R_mono (Kd.R_mono (Kd.R_far (p := ⟨gb446, 2, none⟩) (Kd.R_far (p := ⟨gb446, 1, none⟩) (Kd.R_far (p := ⟨gb446, 0, none⟩) (Kd.R_far (p := ⟨gb445, 2, none⟩) (Kd.R_far (p := ⟨gb445, 1, none⟩) (Kd.R_far (p := ⟨gb445, 0, none⟩) (Kd.R_types (Kd.R_types HO433.out BK445.out (by decide)) BK446.out (by decide)) (fun _ hk => hk.1.2) (.slice Ao23 t431.length co23)) (fun _ hk => hk.1.2) (.slice Ao27 t434.length co27)) (fun _ hk => hk.1.2) (.string t437)) (fun _ hk => hk.2) (.slice Ao28 t438.length co28)) (fun _ hk => hk.2) (.slice Ao31 t441.length co31)) (fun _ hk => hk.2) (.string t444)) (fun _ h_ => h_.1)) (fun _ h_ => h_.1))) hb); replace HO436 := Aside0.mk (Kd.R_below (by (with_reducible repeat (first | apply Kd.R_alloc | apply Kd.R_drewN | apply Kd.R_drew)); exact (Kd.R_mono (Kd.R_mono (Kd.R_far (p := ⟨gb446, 2, none⟩) (Kd.R_far (p := ⟨gb446, 1, none⟩) (Kd.R_far (p := ⟨gb446, 0, none⟩) (Kd.R_far (p := ⟨gb445, 2, none⟩) (Kd.R_far (p := ⟨gb445, 1, none⟩) (Kd.R_far (p := ⟨gb445, 0, none⟩) (Kd.R_types (Kd.R_types HO436.out BK445.out (by decide)) BK446.out (by decide)) (fun _ hk => hk.1.2) (.slice Ao23 t431.length co23)) (fun _ hk => hk.1.2) (.slice Ao27 t434.length co27)) (fun _ hk => hk.1.2) (.string t437)) (fun _ hk => hk.2) (.slice Ao28 t438.length co28)) (fun _ hk => hk.2) (.slice Ao31 t441.length co31)) (fun _ hk => hk.2) (.string t444)) (fun _ h_ => h_.1)) (fun _ h_ => h_.1))) hb); replace HO440 := Aside0.mk (Kd.R_below (by (with_reducible repeat (first | apply Kd.R_alloc | apply Kd.R_drewN | apply Kd.R_drew)); exact (Kd.R_mono (Kd.R_mono (Kd.R_far (p := ⟨gb446, 2, none⟩) (Kd.R_far (p := ⟨gb446, 1, none⟩) (Kd.R_far (p := ⟨gb446, 0, none⟩) (Kd.R_far (p := ⟨gb445, 2, none⟩) (Kd.R_far (p := ⟨gb445, 1, none⟩) (Kd.R_far (p := ⟨gb445, 0, none⟩) (Kd.R_types (Kd.R_types HO440.out BK445.out (by decide)) BK446.out (by decide)) (fun _ hk => hk.1.2) (.slice Ao23 t431.length co23)) (fun _ hk => hk.1.2) (.slice Ao27 t434.length co27)) (fun _ hk => hk.1.2) (.string t437)) (fun _ hk => hk.2) (.slice Ao28 t438.length co28)) (fun _ hk => hk.2) (.slice Ao31 t441.length co31)) (fun _ hk => hk.2) (.string t444)) (fun _ h_ => h_.1)) (fun _ h_ => h_.1))) hb); replace HO443 := Aside0.mk (Kd.R_below (by (with_reducible repeat (first | apply Kd.R_alloc | apply Kd.R_drewN | apply Kd.R_drew)); exact (Kd.R_mono (Kd.R_mono (Kd.R_far (p := ⟨gb446, 2, none⟩) (Kd.R_far (p := ⟨gb446, 1, none⟩) (Kd.R_far (p := ⟨gb446, 0, none⟩) (Kd.R_far (p := ⟨gb445, 2, none⟩) (Kd.R_far (p := ⟨gb445, 1, none⟩) (Kd.R_far (p := ⟨gb445, 0, none⟩) (Kd.R_types (Kd.R_types HO443.out BK445.out (by decide)) BK446.out (by decide)) (fun _ hk => hk.1.2) (.slice Ao23 t431.length co23)) (fun _ hk => hk.1.2) (.slice Ao27 t434.length co27)) (fun _ hk => hk.1.2) (.string t437)) (fun _ hk => hk.2) (.slice Ao28 t438.length co28)) (fun _ hk => hk.2) (.slice Ao31 t441.length co31)) (fun _ hk => hk.2) (.string t444)) (fun _ h_ => h_.1)) (fun _ h_ => h_.1))) hb); replace BK429 := Aside0.mk (blk_below (g := gb429) (o := .cells #[.string t426, .string t427] 30 (0, 0)) (by (with_reducible repeat (first | refine blk_drewN ?_ _ | refine blk_drew ?_ | refine blk_alloc ?_ _)); refine blk_far ?_ NB429_446.out _; (with_reducible repeat (first | refine blk_drewN ?_ _ | refine blk_drew ?_ | refine blk_alloc ?_ _)); refine blk_far ?_ NB429_446.out _; (with_reducible repeat (first | refine blk_drewN ?_ _ | refine blk_drew ?_ | refine blk_alloc ?_ _)); refine blk_far ?_ NB429_446.out _; (with_reducible repeat (first | refine blk_drewN ?_ _ | refine blk_drew ?_ | refine blk_alloc ?_ _)); refine blk_far ?_ NB429_445.out _; (with_reducible repeat (first | refine blk_drewN ?_ _ | refine blk_drew ?_ | refine blk_alloc ?_ _)); refine blk_far ?_ NB429_445.out _; (with_reducible repeat (first | refine blk_drewN ?_ _ | refine blk_drew ?_ | refine blk_alloc ?_ _)); refine blk_far ?_ NB429_445.out _; (with_reducible repeat (first | refine blk_drewN ?_ _ | refine blk_drew ?_ | refine blk_alloc ?_ _)); exact BK429.out) hb); replace BK445 := Aside0.mk (blk_below (g := gb445) (o := .cells #[.slice Ao23 t431.length co23, .slice Ao27 t434.length co27, .string t437] 103 (0, 0)) (by (with_reducible repeat (first | refine blk_drewN ?_ _ | refine blk_drew ?_ | refine blk_alloc ?_ _)); refine blk_far ?_ NB445_446.out _; (with_reducible repeat (first | refine blk_drewN ?_ _ | refine blk_drew ?_ | refine blk_alloc ?_ _)); refine blk_far ?_ NB445_446.out _; (with_reducible repeat (first | refine blk_drewN ?_ _ | refine blk_drew ?_ | refine blk_alloc ?_ _)); refine blk_far ?_ NB445_446.out _; (with_reducible repeat (first | refine blk_drewN ?_ _ | refine blk_drew ?_ | refine blk_alloc ?_ _)); refine blk_put (cs := #[.slice Ao23 t431.length co23, .slice Ao27 t434.length co27, .string (⟨#[]⟩ : ByteArray)]) ?_ 2 _ rfl; (with_reducible repeat (first | refine blk_drewN ?_ _ | refine blk_drew ?_ | refine blk_alloc ?_ _)); refine blk_put (cs := #[.slice Ao23 t431.length co23, .slice none 0 0, .string (⟨#[]⟩ : ByteArray)]) ?_ 1 _ rfl; (with_reducible repeat (first | refine blk_drewN ?_ _ | refine blk_drew ?_ | refine blk_alloc ?_ _)); refine blk_put (cs := #[.slice none 0 0, .slice none 0 0, .string (⟨#[]⟩ : ByteArray)]) ?_ 0 _ rfl; (with_reducible repeat (first | refine blk_drewN ?_ _ | refine blk_drew ?_ | refine blk_alloc ?_ _)); exact BK445.out) hb); replace BK446 := Aside0.mk (blk_below (g := gb446) (o := .cells #[.slice Ao28 t438.length co28, .slice Ao31 t441.length co31, .string t444] 103 (0, 0)) (by (with_reducible repeat (first | refine blk_drewN ?_ _ | refine blk_drew ?_ | refine blk_alloc ?_ _)); refine blk_put (cs := #[.slice Ao28 t438.length co28, .slice Ao31 t441.length co31, .string (⟨#[]⟩ : ByteArray)]) ?_ 2 _ rfl; (with_reducible repeat (first | refine blk_drewN ?_ _ | refine blk_drew ?_ | refine blk_alloc ?_ _)); refine blk_put (cs := #[.slice Ao28 t438.length co28, .slice none 0 0, .string (⟨#[]⟩ : ByteArray)]) ?_ 1 _ rfl; (with_reducible repeat (first | refine blk_drewN ?_ _ | refine blk_drew ?_ | refine blk_alloc ?_ _)); refine blk_put (cs := #[.slice none 0 0, .slice none 0 0, .string (⟨#[]⟩ : ByteArray)]) ?_ 0 _ rfl; (with_reducible repeat (first | refine blk_drewN ?_ _ | refine blk_drew ?_ | refine blk_alloc ?_ _)); refine blk_far ?_ NB446_445.out _; (with_reducible repeat (first | refine blk_drewN ?_ _ | refine blk_drew ?_ | refine blk_alloc ?_ _)); refine blk_far ?_ NB446_445.out _; (with_reducible repeat (first | refine blk_drewN ?_ _ | refine blk_drew ?_ | refine blk_alloc ?_ _)); refine blk_far ?_ NB446_445.out _; (with_reducible repeat (first | refine blk_drewN ?_ _ | refine blk_drew ?_ | refine blk_alloc ?_ _)); exact BK446.out) hb); replace HB := Aside0.mk (below_step (bl HB) hb); (try clear hb); (try clear hb2); (try clear hk); (try clear hi)) | ((with_reducible refine gate_callee (f := 97) rfl ?_); refine goesM (some 49) Tryz.func97 #[.int .i64 t447] ?_; (with_reducible refine (whole_Of.calls t447 t449 _ ?side1 A15.out).mono ?_); (case side1 => exact Glob.below HG0.out (bl HB)); rintro e w33 ⟨rfl, hb⟩; refine ⟨_, rfl, ?_⟩; replace HO433 := Aside0.mk (Kd.R_below (kr HO433) hb); replace HO436 := Aside0.mk (Kd.R_below (kr HO436) hb); replace HO440 := Aside0.mk (Kd.R_below (kr HO440) hb); replace HO443 := Aside0.mk (Kd.R_below (kr HO443) hb); replace BK429 := Aside0.mk (blk_below (g := gb429) (o := .cells #[.string t426, .string t427] 30 (0, 0)) (bk BK429) hb); replace BK445 := Aside0.mk (blk_below (g := gb445) (o := .cells #[.slice Ao23 t431.length co23, .slice Ao27 t434.length co27, .string t437] 103 (0, 0)) (bk BK445) hb); replace BK446 := Aside0.mk (blk_below (g := gb446) (o := .cells #[.slice Ao28 t438.length co28, .slice Ao31 t441.length co31, .string t444] 103 (0, 0)) (bk BK446) hb); replace HB := Aside0.mk (below_step (bl HB) hb); (try clear hb); (try clear hb2); (try clear hk); (try clear hi)))
   go_ret
   exact ⟨rl, bl HB⟩
  ·replace c14 := Bool.eq_false_iff.mpr c14
   subst c14
   have H1 : (size_floor.l0 k) = some r := by rw [if_neg (show ¬ (false = true) by decide)] at H; exact H
   clear H
   have H := H1
   clear H1
   have H' := Aside0.mk H
   clear H
   go_enter Tryz.func75, Tryz.ntmps75
   go_wp2_with (first | ((with_reducible refine gate_callee (f := 114) rfl ?_); refine goesM (some 29) Tryz.func114 #[.slice A1 l1.length c1, .slice A2 l2.length c2] ?_; (with_reducible refine (size_ratio.calls k _ _ l1 _ _ l2 t426 t427 false _ ?side1 ?side2 ?side3 ?side4 ?side5 A4.out).mono ?_); (case side1 => exact Glob.below HG0.out (bl HB)); (case side2 => repeat (first | exact HR1.out | (with_reducible refine Kd.C_alloc ?_ _) | (with_reducible refine Kd.C_drewN ?_ _) | (with_reducible refine Kd.C_drew ?_))); (case side3 => exact HC1.out); (case side4 => repeat (first | exact HR2.out | (with_reducible refine Kd.C_alloc ?_ _) | (with_reducible refine Kd.C_drewN ?_ _) | (with_reducible refine Kd.C_drew ?_))); (case side5 => exact HC2.out); rintro e w34 ⟨rfl, hb⟩; refine ⟨_, rfl, ?_⟩; replace HB := Aside0.mk (below_step (bl HB) hb); (try clear hb); (try clear hb2); (try clear hk); (try clear hi)) | ((with_reducible refine gate_dst (N := 7) rfl ?_); refine boxM (N := 7) #[.string (⟨#[]⟩ : ByteArray), .string (⟨#[]⟩ : ByteArray)] 30 ?_; intro gb429 hg w35 hbox hb; have BK429 := Aside0.mk (hbox); have GW429 := Aside0.mk ((by rw [hg]; exact (below_size (bl HB)) : w.heap.size ≤ gb429)); have GE429 := Aside0.mk ((by rw [hg]; exact (below_size (bl HB)) : w.heap.size ≤ gb429)); replace HB := Aside0.mk (below_step (bl HB) hb); clear hb hbox hg; have hcz36_0 : w35.cell? ⟨gb429, 0, none⟩ = some (.string (⟨#[]⟩ : ByteArray)) := (blk_cell BK429.out 0).trans rfl; have hcz36_1 : w35.cell? ⟨gb429, 1, none⟩ = some (.string (⟨#[]⟩ : ByteArray)) := (blk_cell BK429.out 1).trans rfl; have hfz36_0 := blk_frozen BK429.out 0; have hfz36_1 := blk_frozen BK429.out 1) | ((with_reducible refine gate_callee (f := 66) rfl ?_); refine goesM (some 37) Tryz.func66 #[.slice A0 l0.length c0, .slice A1 l1.length c1] ?_; (with_reducible refine (size_termsOf.calls k _ _ l0 _ _ l1 t431 t434 t437 _ ?side1 ?side2 ?side3 ?side4 ?side5 A11.out).mono ?_); (case side1 => exact Glob.below HG0.out (bl HB)); (case side2 => exact Kd.C_below HR0.out (bl HB)); (case side3 => exact HC0.out); (case side4 => exact Kd.C_below HR1.out (bl HB)); (case side5 => exact HC1.out); rintro e w37 ⟨v432, v435, rfl, ho0, ho1, hb⟩; refine ⟨_, rfl, ?_⟩; have HO433 := Aside0.mk (Kd.R_lower ho0 (below_size (bl HB))); have HO436 := Aside0.mk (Kd.R_lower ho1 (below_size (bl HB))); replace BK429 := Aside0.mk (blk_below (g := gb429) (o := .cells #[.string t426, .string t427] 30 (0, 0)) (by (with_reducible repeat (first | refine blk_drewN ?_ _ | refine blk_drew ?_ | refine blk_alloc ?_ _)); refine blk_put (cs := #[.string t426, .string (⟨#[]⟩ : ByteArray)]) ?_ 1 _ rfl; (with_reducible repeat (first | refine blk_drewN ?_ _ | refine blk_drew ?_ | refine blk_alloc ?_ _)); refine blk_put (cs := #[.string (⟨#[]⟩ : ByteArray), .string (⟨#[]⟩ : ByteArray)]) ?_ 0 _ rfl; (with_reducible repeat (first | refine blk_drewN ?_ _ | refine blk_drew ?_ | refine blk_alloc ?_ _)); exact BK429.out) hb); replace HB := Aside0.mk (below_step (bl HB) hb); (try clear hb); (try clear hb2); (try clear hk); (try clear hi); (try clear ho0); (try clear ho1)) | ((with_reducible refine gate_callee (f := 66) rfl ?_); refine goesM (some 40) Tryz.func66 #[.slice A0 l0.length c0, .slice A2 l2.length c2] ?_; (with_reducible refine (size_termsOf.calls k _ _ l0 _ _ l2 t438 t441 t444 _ ?side1 ?side2 ?side3 ?side4 ?side5 A12.out).mono ?_); (case side1 => exact Glob.below HG0.out (bl HB)); (case side2 => repeat (first | exact (Kd.C_below HR0.out HB.out) | (with_reducible refine Kd.C_alloc ?_ _) | (with_reducible refine Kd.C_drewN ?_ _) | (with_reducible refine Kd.C_drew ?_))); (case side3 => exact HC0.out); (case side4 => repeat (first | exact (Kd.C_below HR2.out HB.out) | (with_reducible refine Kd.C_alloc ?_ _) | (with_reducible refine Kd.C_drewN ?_ _) | (with_reducible refine Kd.C_drew ?_))); (case side5 => exact HC2.out); rintro e w38 ⟨v439, v442, rfl, ho0, ho1, hb⟩; refine ⟨_, rfl, ?_⟩; have HO440 := Aside0.mk (Kd.R_lower (Kd.R_new' ho0 (Kd.R_lt (kr HO433))) (below_size (bl HB))); replace HO433 := Aside0.mk (Kd.R_elder' (kr HO433) (Kd.R_base ho0) hb); have HO443 := Aside0.mk (Kd.R_lower (Kd.R_new' ho1 (Kd.R_lt (kr HO436))) (below_size (bl HB))); replace HO436 := Aside0.mk (Kd.R_elder' (kr HO436) (Kd.R_base ho1) hb); replace BK429 := Aside0.mk (blk_below (g := gb429) (o := .cells #[.string t426, .string t427] 30 (0, 0)) (bk BK429) hb); replace HB := Aside0.mk (below_step (bl HB) hb); (try clear hb); (try clear hb2); (try clear hk); (try clear hi); (try clear ho0); (try clear ho1)) | ((with_reducible refine gate_dst (N := 9) rfl ?_); refine boxM (N := 9) #[.slice none 0 0, .slice none 0 0, .string (⟨#[]⟩ : ByteArray)] 103 ?_; intro gb445 hg w39 hbox hb; replace HO433 := Aside0.mk (Kd.R_below (kr HO433) hb); replace HO436 := Aside0.mk (Kd.R_below (kr HO436) hb); replace HO440 := Aside0.mk (Kd.R_below (kr HO440) hb); replace HO443 := Aside0.mk (Kd.R_below (kr HO443) hb); have BK445 := Aside0.mk (hbox); have GW445 := Aside0.mk ((by rw [hg]; exact (below_size (bl HB)) : w.heap.size ≤ gb445)); have GE445 := Aside0.mk ((by rw [hg]; exact (below_size (bl HB)) : w.heap.size ≤ gb445)); replace HB := Aside0.mk (below_step (bl HB) hb); have NB429_445 := Aside0.mk ((by rw [hg]; exact Nat.ne_of_lt (blk_lt (g := gb429) (o := .cells #[.string t426, .string t427] 30 (0, 0)) (bk BK429)) : gb429 ≠ gb445)); have NB445_429 := Aside0.mk ((by rw [hg]; exact Nat.ne_of_gt (blk_lt (g := gb429) (o := .cells #[.string t426, .string t427] 30 (0, 0)) (bk BK429)) : gb445 ≠ gb429)); replace BK429 := Aside0.mk (blk_below (g := gb429) (o := .cells #[.string t426, .string t427] 30 (0, 0)) (bk BK429) hb); clear hb hbox hg) | ((with_reducible refine gate_dst (N := 10) rfl ?_); refine boxM (N := 10) #[.slice none 0 0, .slice none 0 0, .string (⟨#[]⟩ : ByteArray)] 103 ?_; intro gb446 hg w40 hbox hb; replace HO433 := Aside0.mk (Kd.R_below (kr HO433) hb); replace HO436 := Aside0.mk (Kd.R_below (kr HO436) hb); replace HO440 := Aside0.mk (Kd.R_below (kr HO440) hb); replace HO443 := Aside0.mk (Kd.R_below (kr HO443) hb); have BK446 := Aside0.mk (hbox); have GW446 := Aside0.mk ((by rw [hg]; exact (below_size (bl HB)) : w.heap.size ≤ gb446)); have GE446 := Aside0.mk ((by rw [hg]; exact (below_size (bl HB)) : w.heap.size ≤ gb446)); replace HB := Aside0.mk (below_step (bl HB) hb); have NB429_446 := Aside0.mk ((by rw [hg]; exact Nat.ne_of_lt (blk_lt (g := gb429) (o := .cells #[.string t426, .string t427] 30 (0, 0)) (bk BK429)) : gb429 ≠ gb446)); have NB446_429 := Aside0.mk ((by rw [hg]; exact Nat.ne_of_gt (blk_lt (g := gb429) (o := .cells #[.string t426, .string t427] 30 (0, 0)) (bk BK429)) : gb446 ≠ gb429)); replace BK429 := Aside0.mk (blk_below (g := gb429) (o := .cells #[.string t426, .string t427] 30 (0, 0)) (bk BK429) hb); have NB445_446 := Aside0.mk ((by rw [hg]; exact Nat.ne_of_lt (blk_lt (g := gb445) (o := .cells #[.slice none 0 0, .slice none 0 0, .string (⟨#[]⟩ : ByteArray)] 103 (0, 0)) (bk BK445)) : gb445 ≠ gb446)); have NB446_445 := Aside0.mk ((by rw [hg]; exact Nat.ne_of_gt (blk_lt (g := gb445) (o := .cells #[.slice none 0 0, .slice none 0 0, .string (⟨#[]⟩ : ByteArray)] 103 (0, 0)) (bk BK445)) : gb446 ≠ gb445)); replace BK445 := Aside0.mk (blk_below (g := gb445) (o := .cells #[.slice none 0 0, .slice none 0 0, .string (⟨#[]⟩ : ByteArray)] 103 (0, 0)) (bk BK445) hb); clear hb hbox hg; obtain ⟨Ao41, co41, eo41⟩ := Kd.R_slice HO433.out; subst eo41; have hnb42 := NB445_429.out; have hnc42 := NB429_445.out; have hnb43 := NB445_446.out; have hnc43 := NB446_445.out; have hcz44_0 : w40.cell? ⟨gb445, 0, none⟩ = some (.slice none 0 0) := (blk_cell BK445.out 0).trans rfl; have hcz44_1 : w40.cell? ⟨gb445, 1, none⟩ = some (.slice none 0 0) := (blk_cell BK445.out 1).trans rfl; have hcz44_2 : w40.cell? ⟨gb445, 2, none⟩ = some (.string (⟨#[]⟩ : ByteArray)) := (blk_cell BK445.out 2).trans rfl; have hfz44_0 := blk_frozen BK445.out 0; have hfz44_1 := blk_frozen BK445.out 1; have hfz44_2 := blk_frozen BK445.out 2; obtain ⟨Ao45, co45, eo45⟩ := Kd.R_slice HO436.out; subst eo45; obtain ⟨Ao46, co46, eo46⟩ := Kd.R_slice HO440.out; subst eo46; have hnb47 := NB446_429.out; have hnc47 := NB429_446.out; have hcz48_0 : w40.cell? ⟨gb446, 0, none⟩ = some (.slice none 0 0) := (blk_cell BK446.out 0).trans rfl; have hcz48_1 : w40.cell? ⟨gb446, 1, none⟩ = some (.slice none 0 0) := (blk_cell BK446.out 1).trans rfl; have hcz48_2 : w40.cell? ⟨gb446, 2, none⟩ = some (.string (⟨#[]⟩ : ByteArray)) := (blk_cell BK446.out 2).trans rfl; have hfz48_0 := blk_frozen BK446.out 0; have hfz48_1 := blk_frozen BK446.out 1; have hfz48_2 := blk_frozen BK446.out 2; obtain ⟨Ao49, co49, eo49⟩ := Kd.R_slice HO443.out; subst eo49) | ((with_reducible refine gate_callee (f := 116) rfl ?_); refine goesM (some 44) Tryz.func116 #[.agg #[.slice Ao41 t431.length co41, .slice Ao45 t434.length co45, .string t437], .agg #[.slice Ao46 t438.length co46, .slice Ao49 t441.length co49, .string t444]] ?_; (with_reducible refine (size_quotient.calls k _ _ t431 _ _ t434 t437 _ _ t438 _ _ t441 t444 t447 false _ ?side1 ?side2 ?side3 ?side4 ?side5 ?side6 ?side7 ?side8 ?side9 A13.out).mono ?_); (case side1 => exact Glob.below HG0.out (bl HB)); (case side2 => refine (Kd.R_reads' (e := 3) (base := w.heap.size) (ok := fun k_ => (True ∧ some k_ ≠ (.slice Ao46 t438.length co46 : Value).ownBlock)) (n := t431.length) (c := co41) ?_).2.2; exact (by (with_reducible repeat (first | apply Kd.R_alloc | apply Kd.R_drewN | apply Kd.R_drew)); exact (Kd.R_mono (Kd.R_mono (Kd.R_far (p := ⟨gb446, 2, none⟩) (Kd.R_far (p := ⟨gb446, 1, none⟩) (Kd.R_far (p := ⟨gb446, 0, none⟩) (Kd.R_far (p := ⟨gb445, 2, none⟩) (Kd.R_far (p := ⟨gb445, 1, none⟩) (Kd.R_far (p := ⟨gb445, 0, none⟩) (Kd.R_types (Kd.R_types HO433.out BK445.out (by decide)) BK446.out (by decide)) (fun _ hk => hk.1.2) (.slice Ao41 t431.length co41)) (fun _ hk => hk.1.2) (.slice Ao45 t434.length co45)) (fun _ hk => hk.1.2) (.string t437)) (fun _ hk => hk.2) (.slice Ao46 t438.length co46)) (fun _ hk => hk.2) (.slice Ao49 t441.length co49)) (fun _ hk => hk.2) (.string t444)) (fun _ h_ => h_.1)) (fun _ h_ => h_.1)))); (case side3 => exact (Kd.R_reads' HO433.out).2.1); (case side4 => refine (Kd.R_reads' (e := 28) (base := w.heap.size) (ok := fun k_ => (True ∧ some k_ ≠ (.slice Ao49 t441.length co49 : Value).ownBlock)) (n := t434.length) (c := co45) ?_).2.2; exact (by (with_reducible repeat (first | apply Kd.R_alloc | apply Kd.R_drewN | apply Kd.R_drew)); exact (Kd.R_mono (Kd.R_mono (Kd.R_far (p := ⟨gb446, 2, none⟩) (Kd.R_far (p := ⟨gb446, 1, none⟩) (Kd.R_far (p := ⟨gb446, 0, none⟩) (Kd.R_far (p := ⟨gb445, 2, none⟩) (Kd.R_far (p := ⟨gb445, 1, none⟩) (Kd.R_far (p := ⟨gb445, 0, none⟩) (Kd.R_types (Kd.R_types HO436.out BK445.out (by decide)) BK446.out (by decide)) (fun _ hk => hk.1.2) (.slice Ao41 t431.length co41)) (fun _ hk => hk.1.2) (.slice Ao45 t434.length co45)) (fun _ hk => hk.1.2) (.string t437)) (fun _ hk => hk.2) (.slice Ao46 t438.length co46)) (fun _ hk => hk.2) (.slice Ao49 t441.length co49)) (fun _ hk => hk.2) (.string t444)) (fun _ h_ => h_.1)) (fun _ h_ => h_.1)))); (case side5 => exact (Kd.R_reads' HO436.out).2.1); (case side6 => refine (Kd.R_reads' (e := 3) (base := w.heap.size) (ok := fun k_ => (True ∧ some k_ ≠ (.slice Ao41 t431.length co41 : Value).ownBlock)) (n := t438.length) (c := co46) ?_).2.2; exact (by (with_reducible repeat (first | apply Kd.R_alloc | apply Kd.R_drewN | apply Kd.R_drew)); exact (Kd.R_mono (Kd.R_mono (Kd.R_far (p := ⟨gb446, 2, none⟩) (Kd.R_far (p := ⟨gb446, 1, none⟩) (Kd.R_far (p := ⟨gb446, 0, none⟩) (Kd.R_far (p := ⟨gb445, 2, none⟩) (Kd.R_far (p := ⟨gb445, 1, none⟩) (Kd.R_far (p := ⟨gb445, 0, none⟩) (Kd.R_types (Kd.R_types HO440.out BK445.out (by decide)) BK446.out (by decide)) (fun _ hk => hk.1.2) (.slice Ao41 t431.length co41)) (fun _ hk => hk.1.2) (.slice Ao45 t434.length co45)) (fun _ hk => hk.1.2) (.string t437)) (fun _ hk => hk.2) (.slice Ao46 t438.length co46)) (fun _ hk => hk.2) (.slice Ao49 t441.length co49)) (fun _ hk => hk.2) (.string t444)) (fun _ h_ => h_.1)) (fun _ h_ => h_.1)))); (case side7 => exact (Kd.R_reads' HO440.out).2.1); (case side8 => refine (Kd.R_reads' (e := 28) (base := w.heap.size) (ok := fun k_ => (True ∧ some k_ ≠ (.slice Ao45 t434.length co45 : Value).ownBlock)) (n := t441.length) (c := co49) ?_).2.2; exact (by (with_reducible repeat (first | apply Kd.R_alloc | apply Kd.R_drewN | apply Kd.R_drew)); exact (Kd.R_mono (Kd.R_mono (Kd.R_far (p := ⟨gb446, 2, none⟩) (Kd.R_far (p := ⟨gb446, 1, none⟩) (Kd.R_far (p := ⟨gb446, 0, none⟩) (Kd.R_far (p := ⟨gb445, 2, none⟩) (Kd.R_far (p := ⟨gb445, 1, none⟩) (Kd.R_far (p := ⟨gb445, 0, none⟩) (Kd.R_types (Kd.R_types HO443.out BK445.out (by decide)) BK446.out (by decide)) (fun _ hk => hk.1.2) (.slice Ao41 t431.length co41)) (fun _ hk => hk.1.2) (.slice Ao45 t434.length co45)) (fun _ hk => hk.1.2) (.string t437)) (fun _ hk => hk.2) (.slice Ao46 t438.length co46)) (fun _ hk => hk.2) (.slice Ao49 t441.length co49)) (fun _ hk => hk.2) (.string t444)) (fun _ h_ => h_.1)) (fun _ h_ => h_.1)))); (case side9 => exact (Kd.R_reads' HO443.out).2.1); rintro e w50 ⟨rfl, hb⟩; refine ⟨_, rfl, ?_⟩; replace HO433 := Aside0.mk (Kd.R_below (by (with_reducible repeat (first | apply Kd.R_alloc | apply Kd.R_drewN | apply Kd.R_drew)); exact (Kd.R_mono (Kd.R_mono (Kd.R_far (p := ⟨gb446, 2, none⟩) (Kd.R_far (p := ⟨gb446, 1, none⟩) (Kd.R_far (p := ⟨gb446, 0, none⟩) (Kd.R_far (p := ⟨gb445, 2, none⟩) (Kd.R_far (p := ⟨gb445, 1, none⟩) (Kd.R_far (p := ⟨gb445, 0, none⟩) (Kd.R_types (Kd.R_types HO433.out BK445.out (by decide)) BK446.out (by decide)) (fun _ hk => hk.1.2) (.slice Ao41 t431.length co41)) (fun _ hk => hk.1.2) (.slice Ao45 t434.length co45)) (fun _ hk => hk.1.2) (.string t437)) (fun _ hk => hk.2) (.slice Ao46 t438.length co46)) (fun _ hk => hk.2) (.slice Ao49 t441.length co49)) (fun _ hk => hk.2) (.string t444)) (fun _ h_ => h_.1)) (fun _ h_ => h_.1))) hb); replace HO436 := Aside0.mk (Kd.R_below (by (with_reducible repeat (first | apply Kd.R_alloc | apply Kd.R_drewN | apply Kd.R_drew)); exact (Kd.R_mono (Kd.R_mono (Kd.R_far (p := ⟨gb446, 2, none⟩) (Kd.R_far (p := ⟨gb446, 1, none⟩) (Kd.R_far (p := ⟨gb446, 0, none⟩) (Kd.R_far (p := ⟨gb445, 2, none⟩) (Kd.R_far (p := ⟨gb445, 1, none⟩) (Kd.R_far (p := ⟨gb445, 0, none⟩) (Kd.R_types (Kd.R_types HO436.out BK445.out (by decide)) BK446.out (by decide)) (fun _ hk => hk.1.2) (.slice Ao41 t431.length co41)) (fun _ hk => hk.1.2) (.slice Ao45 t434.length co45)) (fun _ hk => hk.1.2) (.string t437)) (fun _ hk => hk.2) (.slice Ao46 t438.length co46)) (fun _ hk => hk.2) (.slice Ao49 t441.length co49)) (fun _ hk => hk.2) (.string t444)) (fun _ h_ => h_.1)) (fun _ h_ => h_.1))) hb); replace HO440 := Aside0.mk (Kd.R_below (by (with_reducible repeat (first | apply Kd.R_alloc | apply Kd.R_drewN | apply Kd.R_drew)); exact (Kd.R_mono (Kd.R_mono (Kd.R_far (p := ⟨gb446, 2, none⟩) (Kd.R_far (p := ⟨gb446, 1, none⟩) (Kd.R_far (p := ⟨gb446, 0, none⟩) (Kd.R_far (p := ⟨gb445, 2, none⟩) (Kd.R_far (p := ⟨gb445, 1, none⟩) (Kd.R_far (p := ⟨gb445, 0, none⟩) (Kd.R_types (Kd.R_types HO440.out BK445.out (by decide)) BK446.out (by decide)) (fun _ hk => hk.1.2) (.slice Ao41 t431.length co41)) (fun _ hk => hk.1.2) (.slice Ao45 t434.length co45)) (fun _ hk => hk.1.2) (.string t437)) (fun _ hk => hk.2) (.slice Ao46 t438.length co46)) (fun _ hk => hk.2) (.slice Ao49 t441.length co49)) (fun _ hk => hk.2) (.string t444)) (fun _ h_ => h_.1)) (fun _ h_ => h_.1))) hb); replace HO443 := Aside0.mk (Kd.R_below (by (with_reducible repeat (first | apply Kd.R_alloc | apply Kd.R_drewN | apply Kd.R_drew)); exact (Kd.R_mono (Kd.R_mono (Kd.R_far (p := ⟨gb446, 2, none⟩) (Kd.R_far (p := ⟨gb446, 1, none⟩) (Kd.R_far (p := ⟨gb446, 0, none⟩) (Kd.R_far (p := ⟨gb445, 2, none⟩) (Kd.R_far (p := ⟨gb445, 1, none⟩) (Kd.R_far (p := ⟨gb445, 0, none⟩) (Kd.R_types (Kd.R_types HO443.out BK445.out (by decide)) BK446.out (by decide)) (fun _ hk => hk.1.2) (.slice Ao41 t431.length co41)) (fun _ hk => hk.1.2) (.slice Ao45 t434.length co45)) (fun _ hk => hk.1.2) (.string t437)) (fun _ hk => hk.2) (.slice Ao46 t438.length co46)) (fun _ hk => hk.2) (.slice Ao49 t441.length co49)) (fun _ hk => hk.2) (.string t444)) (fun _ h_ => h_.1)) (fun _ h_ => h_.1))) hb); replace BK429 := Aside0.mk (blk_below (g := gb429) (o := .cells #[.string t426, .string t427] 30 (0, 0)) (by (with_reducible repeat (first | refine blk_drewN ?_ _ | refine blk_drew ?_ | refine blk_alloc ?_ _)); refine blk_far ?_ NB429_446.out _; (with_reducible repeat (first | refine blk_drewN ?_ _ | refine blk_drew ?_ | refine blk_alloc ?_ _)); refine blk_far ?_ NB429_446.out _; (with_reducible repeat (first | refine blk_drewN ?_ _ | refine blk_drew ?_ | refine blk_alloc ?_ _)); refine blk_far ?_ NB429_446.out _; (with_reducible repeat (first | refine blk_drewN ?_ _ | refine blk_drew ?_ | refine blk_alloc ?_ _)); refine blk_far ?_ NB429_445.out _; (with_reducible repeat (first | refine blk_drewN ?_ _ | refine blk_drew ?_ | refine blk_alloc ?_ _)); refine blk_far ?_ NB429_445.out _; (with_reducible repeat (first | refine blk_drewN ?_ _ | refine blk_drew ?_ | refine blk_alloc ?_ _)); refine blk_far ?_ NB429_445.out _; (with_reducible repeat (first | refine blk_drewN ?_ _ | refine blk_drew ?_ | refine blk_alloc ?_ _)); exact BK429.out) hb); replace BK445 := Aside0.mk (blk_below (g := gb445) (o := .cells #[.slice Ao41 t431.length co41, .slice Ao45 t434.length co45, .string t437] 103 (0, 0)) (by (with_reducible repeat (first | refine blk_drewN ?_ _ | refine blk_drew ?_ | refine blk_alloc ?_ _)); refine blk_far ?_ NB445_446.out _; (with_reducible repeat (first | refine blk_drewN ?_ _ | refine blk_drew ?_ | refine blk_alloc ?_ _)); refine blk_far ?_ NB445_446.out _; (with_reducible repeat (first | refine blk_drewN ?_ _ | refine blk_drew ?_ | refine blk_alloc ?_ _)); refine blk_far ?_ NB445_446.out _; (with_reducible repeat (first | refine blk_drewN ?_ _ | refine blk_drew ?_ | refine blk_alloc ?_ _)); refine blk_put (cs := #[.slice Ao41 t431.length co41, .slice Ao45 t434.length co45, .string (⟨#[]⟩ : ByteArray)]) ?_ 2 _ rfl; (with_reducible repeat (first | refine blk_drewN ?_ _ | refine blk_drew ?_ | refine blk_alloc ?_ _)); refine blk_put (cs := #[.slice Ao41 t431.length co41, .slice none 0 0, .string (⟨#[]⟩ : ByteArray)]) ?_ 1 _ rfl; (with_reducible repeat (first | refine blk_drewN ?_ _ | refine blk_drew ?_ | refine blk_alloc ?_ _)); refine blk_put (cs := #[.slice none 0 0, .slice none 0 0, .string (⟨#[]⟩ : ByteArray)]) ?_ 0 _ rfl; (with_reducible repeat (first | refine blk_drewN ?_ _ | refine blk_drew ?_ | refine blk_alloc ?_ _)); exact BK445.out) hb); replace BK446 := Aside0.mk (blk_below (g := gb446) (o := .cells #[.slice Ao46 t438.length co46, .slice Ao49 t441.length co49, .string t444] 103 (0, 0)) (by (with_reducible repeat (first | refine blk_drewN ?_ _ | refine blk_drew ?_ | refine blk_alloc ?_ _)); refine blk_put (cs := #[.slice Ao46 t438.length co46, .slice Ao49 t441.length co49, .string (⟨#[]⟩ : ByteArray)]) ?_ 2 _ rfl; (with_reducible repeat (first | refine blk_drewN ?_ _ | refine blk_drew ?_ | refine blk_alloc ?_ _)); refine blk_put (cs := #[.slice Ao46 t438.length co46, .slice none 0 0, .string (⟨#[]⟩ : ByteArray)]) ?_ 1 _ rfl; (with_reducible repeat (first | refine blk_drewN ?_ _ | refine blk_drew ?_ | refine blk_alloc ?_ _)); refine blk_put (cs := #[.slice none 0 0, .slice none 0 0, .string (⟨#[]⟩ : ByteArray)]) ?_ 0 _ rfl; (with_reducible repeat (first | refine blk_drewN ?_ _ | refine blk_drew ?_ | refine blk_alloc ?_ _)); refine blk_far ?_ NB446_445.out _; (with_reducible repeat (first | refine blk_drewN ?_ _ | refine blk_drew ?_ | refine blk_alloc ?_ _)); refine blk_far ?_ NB446_445.out _; (with_reducible repeat (first | refine blk_drewN ?_ _ | refine blk_drew ?_ | refine blk_alloc ?_ _)); refine blk_far ?_ NB446_445.out _; (with_reducible repeat (first | refine blk_drewN ?_ _ | refine blk_drew ?_ | refine blk_alloc ?_ _)); exact BK446.out) hb); replace HB := Aside0.mk (below_step (bl HB) hb); (try clear hb); (try clear hb2); (try clear hk); (try clear hi)))
   go_loopg [] k (fun kq w' => Aside0 (size_floor.l0 kq  = some r) ∧ Aside0 (kq ≤ k) ∧ Aside0 (Kd.R (Kd.int .i64) 3 w' w.heap.size (fun k_ => some k_ ≠ ((.slice Ao46 t438.length co46) : Value).ownBlock) (.slice Ao41 t431.length co41) t431) ∧ Aside0 (Kd.R Kd.string 28 w' w.heap.size (fun k_ => some k_ ≠ ((.slice Ao49 t441.length co49) : Value).ownBlock) (.slice Ao45 t434.length co45) t434) ∧ Aside0 (Kd.R (Kd.int .i64) 3 w' w.heap.size (fun k_ => some k_ ≠ ((.slice Ao41 t431.length co41) : Value).ownBlock) (.slice Ao46 t438.length co46) t438) ∧ Aside0 (Kd.R Kd.string 28 w' w.heap.size (fun k_ => some k_ ≠ ((.slice Ao45 t434.length co45) : Value).ownBlock) (.slice Ao49 t441.length co49) t441) ∧ Aside0 (w'.heap[gb429]? = some (.cells #[.string t426, .string t427] 30 (0, 0))) ∧ Aside0 (w'.heap[gb445]? = some (.cells #[(.slice Ao41 t431.length co41), (.slice Ao45 t434.length co45), .string t437] 103 (0, 0))) ∧ Aside0 (w'.heap[gb446]? = some (.cells #[(.slice Ao46 t438.length co46), (.slice Ao49 t441.length co49), .string t444] 103 (0, 0))) ∧ Aside0 (Below w.heap.size w w'))
   case atStart => exact ⟨H', ⟨Nat.le_refl _⟩, ⟨by (with_reducible repeat (first | apply Kd.R_alloc | apply Kd.R_drewN | apply Kd.R_drew)); exact Kd.R_mono HO433.out (fun _ hk => hk.2)⟩, ⟨by (with_reducible repeat (first | apply Kd.R_alloc | apply Kd.R_drewN | apply Kd.R_drew)); exact Kd.R_mono HO436.out (fun _ hk => hk.2)⟩, ⟨by (with_reducible repeat (first | apply Kd.R_alloc | apply Kd.R_drewN | apply Kd.R_drew)); exact Kd.R_mono HO440.out (fun _ hk => hk.2)⟩, ⟨by (with_reducible repeat (first | apply Kd.R_alloc | apply Kd.R_drewN | apply Kd.R_drew)); exact Kd.R_mono HO443.out (fun _ hk => hk.2)⟩, ⟨bk BK429⟩, ⟨bk BK445⟩, ⟨bk BK446⟩, ⟨bl HB⟩⟩
   case round =>
    clear H'
    try clear c1
    try clear c2
    try clear p2
    try clear c4
    try clear c5
    try clear c6
    try clear c7
    try clear c9
    try clear c11
    try clear c14
    try clear c24
    try clear c25
    try clear c29
    try clear c42
    try clear c43
    try clear c47
    try clear hcz18_0
    try clear hcz18_1
    try clear hcz26_0
    try clear hcz26_1
    try clear hcz26_2
    try clear hcz30_0
    try clear hcz30_1
    try clear hcz30_2
    try clear hcz36_0
    try clear hcz36_1
    try clear hcz44_0
    try clear hcz44_1
    try clear hcz44_2
    try clear hcz48_0
    try clear hcz48_1
    try clear hcz48_2
    try clear hcz9_0
    try clear hcz9_1
    try clear hfz18_0
    try clear hfz18_1
    try clear hfz26_0
    try clear hfz26_1
    try clear hfz26_2
    try clear hfz30_0
    try clear hfz30_1
    try clear hfz30_2
    try clear hfz36_0
    try clear hfz36_1
    try clear hfz44_0
    try clear hfz44_1
    try clear hfz44_2
    try clear hfz48_0
    try clear hfz48_1
    try clear hfz48_2
    try clear hfz9_0
    try clear hfz9_1
    obtain ⟨HA, HK1, HO_446000, HO_446001, HO_447000, HO_447001, BK429, BK445, BK446, HB⟩ := hrel
    cases gk with
    | zero => exact absurd HA.out (by simp [size_floor.l0])
    | succ k1 =>
     have H := HA.out
     clear HA
     simp only [size_floor.l0] at H
     exact absurd H (by simp)
def size_Floor.f (k : Nat) (l0 : List Int) (l1 : List (S30)) (l2 : List (S30)) : Option (ByteArray × Int) := (size_checkQuotient.f k l0 l1 l2).bind fun t450 => (if t450 = 0 then ((size_floor.f k l0 l1 l2).bind fun t451 => (some (t451, 0))) else (some ((⟨#[]⟩ : ByteArray), t450)))
set_option maxHeartbeats 8000000 in
set_option maxRecDepth 100000 in
theorem size_Floor.calls (k : Nat) (A0 : Option Addr) (c0 : Nat) (l0 : List Int) (A1 : Option Addr) (c1 : Nat) (l1 : List (S30)) (A2 : Option Addr) (c2 : Nat) (l2 : List (S30)) (r1 : ByteArray) (r2 : Int) (w : World) (hG : Glob w) (hr0 : Kd.C (Kd.int .i64) w A0 l0.length l0) (hc0 : l0.length ≤ c0) (hr1 : Kd.C k30 w A1 l1.length l1) (hc1 : l1.length ≤ c1) (hr2 : Kd.C k30 w A2 l2.length l2) (hc2 : l2.length ≤ c2) (h : size_Floor.f k l0 l1 l2 = some (r1, r2)) :
  Calls Tryz.prog 30 #[.slice A0 l0.length c0, .slice A1 l1.length c1, .slice A2 l2.length c2] w fun e w' => e = .returned (.tuple #[.string r1, .int .i64 r2]) ∧ Below w.heap.size w w' := by
 have HR0 := Aside0.mk hr0
 have HC0 := Aside0.mk hc0
 clear hr0 hc0
 have HR1 := Aside0.mk hr1
 have HC1 := Aside0.mk hc1
 clear hr1 hc1
 have HR2 := Aside0.mk hr2
 have HC2 := Aside0.mk hc2
 clear hr2 hc2
 have HG0 := Aside0.mk hG
 clear hG
 have HB := Aside0.mk (Below.refl w.heap.size w)
 have H : ((size_checkQuotient.f k l0 l1 l2).bind fun t450 => (if t450 = 0 then ((size_floor.f k l0 l1 l2).bind fun t451 => (some (t451, 0))) else (some ((⟨#[]⟩ : ByteArray), t450)))) = some (r1, r2) := h
 clear h
 replace H := Option.bind_eq_some_iff.mp H
 obtain ⟨t450, A40, H⟩ := H
 replace H : (if t450 = 0 then ((size_floor.f k l0 l1 l2).bind fun t451 => (some (t451, 0))) else (some ((⟨#[]⟩ : ByteArray), t450))) = some (r1, r2) := H
 have A4 := Aside0.mk A40
 clear A40
 by_cases c5 : t450 = 0
 ·rw [if_pos c5] at H
  have c5b0 : (t450 == 0) = true := beq_iff_eq.mpr c5
  have c5b1 : (t450 != 0) = false := bne_eq_false_iff_eq.mpr c5
  clear c5
  replace H := Option.bind_eq_some_iff.mp H
  obtain ⟨t451, A60, H⟩ := H
  replace H : (some (t451, 0)) = some (r1, r2) := H
  have A6 := Aside0.mk A60
  clear A60
  simp only [Option.some.injEq, Prod.mk.injEq] at H
  obtain ⟨rfl, rfl⟩ := H
  go_enter Tryz.func30, Tryz.ntmps30
  go_wp2_with (first | ((with_reducible refine gate_callee (f := 74) rfl ?_); refine goesM (some 12) Tryz.func74 #[.slice A0 l0.length c0, .slice A1 l1.length c1, .slice A2 l2.length c2] ?_; (with_reducible refine (size_checkQuotient.calls k _ _ l0 (fun k_ => k_ < w.heap.size) _ _ l1 (fun k_ => k_ < w.heap.size) _ _ l2 t450 _ ?side1 ?side2 ?side3 ?side4 ?side5 A4.out).mono ?_); (case side1 => exact Glob.below HG0.out (bl HB)); (case side2 => repeat (first | exact HR0.out | (with_reducible refine Kd.C_alloc ?_ _) | (with_reducible refine Kd.C_drewN ?_ _) | (with_reducible refine Kd.C_drew ?_))); (case side3 => exact HC0.out); (case side4 => exact Kd.V_mk HC1.out (Kd.F_below (Kd.C_F k30_heap HR1.out) (bl HB))); (case side5 => exact Kd.V_mk HC2.out (Kd.F_below (Kd.C_F k30_heap HR2.out) (bl HB))); rintro e w7 ⟨rfl, hb⟩; refine ⟨_, rfl, ?_⟩; replace HB := Aside0.mk (below_step (bl HB) hb); (try clear hb); (try clear hb2); (try clear hk); (try clear hi)) | ((with_reducible refine gate_callee (f := 75) rfl ?_); refine goesM (some 19) Tryz.func75 #[.slice A0 l0.length c0, .slice A1 l1.length c1, .slice A2 l2.length c2] ?_; (with_reducible refine (size_floor.calls k _ _ l0 _ _ l1 _ _ l2 t451 _ ?side1 ?side2 ?side3 ?side4 ?side5 ?side6 ?side7 A6.out).mono ?_); (case side1 => exact Glob.below HG0.out (bl HB)); (case side2 => repeat (first | exact (Kd.C_below HR0.out HB.out) | (with_reducible refine Kd.C_alloc ?_ _) | (with_reducible refine Kd.C_drewN ?_ _) | (with_reducible refine Kd.C_drew ?_))); (case side3 => exact HC0.out); (case side4 => repeat (first | exact (Kd.C_below HR1.out HB.out) | (with_reducible refine Kd.C_alloc ?_ _) | (with_reducible refine Kd.C_drewN ?_ _) | (with_reducible refine Kd.C_drew ?_))); (case side5 => exact HC1.out); (case side6 => repeat (first | exact (Kd.C_below HR2.out HB.out) | (with_reducible refine Kd.C_alloc ?_ _) | (with_reducible refine Kd.C_drewN ?_ _) | (with_reducible refine Kd.C_drew ?_))); (case side7 => exact HC2.out); rintro e w8 ⟨rfl, hb⟩; refine ⟨_, rfl, ?_⟩; replace HB := Aside0.mk (below_step (bl HB) hb); (try clear hb); (try clear hb2); (try clear hk); (try clear hi)))
  go_ret2
  exact ⟨rl, bl HB⟩
 ·rw [if_neg c5] at H
  have c5b0 : (t450 == 0) = false := beq_eq_false_iff_ne.mpr c5
  have c5b1 : (t450 != 0) = true := bne_iff_ne.mpr c5
  simp only [Option.some.injEq, Prod.mk.injEq] at H
  obtain ⟨rfl, rfl⟩ := H
  go_enter Tryz.func30, Tryz.ntmps30
  go_wp2_with (first | ((with_reducible refine gate_callee (f := 74) rfl ?_); refine goesM (some 12) Tryz.func74 #[.slice A0 l0.length c0, .slice A1 l1.length c1, .slice A2 l2.length c2] ?_; (with_reducible refine (size_checkQuotient.calls k _ _ l0 (fun k_ => k_ < w.heap.size) _ _ l1 (fun k_ => k_ < w.heap.size) _ _ l2 t450 _ ?side1 ?side2 ?side3 ?side4 ?side5 A4.out).mono ?_); (case side1 => exact Glob.below HG0.out (bl HB)); (case side2 => repeat (first | exact HR0.out | (with_reducible refine Kd.C_alloc ?_ _) | (with_reducible refine Kd.C_drewN ?_ _) | (with_reducible refine Kd.C_drew ?_))); (case side3 => exact HC0.out); (case side4 => exact Kd.V_mk HC1.out (Kd.F_below (Kd.C_F k30_heap HR1.out) (bl HB))); (case side5 => exact Kd.V_mk HC2.out (Kd.F_below (Kd.C_F k30_heap HR2.out) (bl HB))); rintro e w9 ⟨rfl, hb⟩; refine ⟨_, rfl, ?_⟩; replace HB := Aside0.mk (below_step (bl HB) hb); (try clear hb); (try clear hb2); (try clear hk); (try clear hi)))
  go_ret2
  exact ⟨rl, bl HB⟩
def size_Round.f (k : Nat) (l0 : List Int) (l1 : List (S30)) (l2 : List (S30)) : Option (ByteArray × Int) := (size_checkQuotient.f k l0 l1 l2).bind fun t452 => (if t452 = 0 then ((size_number.f 2).bind fun bt456 => ((size_number.f 1).bind fun bt458 => ((size_sum.f k (l0.length : Int) (([l1, l2] : List (List (S30)))) (([(⟨bt456.1, bt456.2⟩ : S30), (⟨bt458.1, bt458.2⟩ : S30)] : List (S30)))).bind fun t463 => ((size_number.f 2).bind fun bt469 => ((size_sum.f k (l0.length : Int) (([l2] : List (List (S30)))) (([(⟨bt469.1, bt469.2⟩ : S30)] : List (S30)))).bind fun t474 => ((size_floor.f k l0 t463 t474).bind fun t477 => (some (t477, 0)))))))) else (some ((⟨#[]⟩ : ByteArray), t452)))
set_option maxHeartbeats 8000000 in
set_option maxRecDepth 100000 in
theorem size_Round.calls (k : Nat) (A0 : Option Addr) (c0 : Nat) (l0 : List Int) (P1_ : Nat → Prop) (A1 : Option Addr) (c1 : Nat) (l1 : List (S30)) (P2_ : Nat → Prop) (A2 : Option Addr) (c2 : Nat) (l2 : List (S30)) (r1 : ByteArray) (r2 : Int) (w : World) (hG : Glob w) (hr0 : Kd.C (Kd.int .i64) w A0 l0.length l0) (hc0 : l0.length ≤ c0) (hs1 : Kd.V k30 30 w w.heap.size (fun k_ => P1_ k_) (.slice A1 l1.length c1) l1) (hs2 : Kd.V k30 30 w w.heap.size (fun k_ => P2_ k_) (.slice A2 l2.length c2) l2) (h : size_Round.f k l0 l1 l2 = some (r1, r2)) :
  Calls Tryz.prog 31 #[.slice A0 l0.length c0, .slice A1 l1.length c1, .slice A2 l2.length c2] w fun e w' => e = .returned (.tuple #[.string r1, .int .i64 r2]) ∧ Below w.heap.size w w' := by
 have HR0 := Aside0.mk hr0
 have HC0 := Aside0.mk hc0
 clear hr0 hc0
 have HO1 := Aside0.mk (show Kd.V k30 30 w w.heap.size (fun k_ => ((P1_ k_ ∨ P2_ k_) ∨ w.heap.size ≤ k_)) (.slice A1 l1.length c1) l1 from Kd.V_mono hs1 (fun k_ hk => .inl (.inl hk)))
 have HO2 := Aside0.mk (show Kd.V k30 30 w w.heap.size (fun k_ => ((P1_ k_ ∨ P2_ k_) ∨ w.heap.size ≤ k_)) (.slice A2 l2.length c2) l2 from Kd.V_mono hs2 (fun k_ hk => .inl (.inr hk)))
 have HG0 := Aside0.mk hG
 clear hG
 have HB := Aside0.mk (Below.refl w.heap.size w)
 have H : ((size_checkQuotient.f k l0 l1 l2).bind fun t452 => (if t452 = 0 then ((size_number.f 2).bind fun bt456 => ((size_number.f 1).bind fun bt458 => ((size_sum.f k (l0.length : Int) (([l1, l2] : List (List (S30)))) (([(⟨bt456.1, bt456.2⟩ : S30), (⟨bt458.1, bt458.2⟩ : S30)] : List (S30)))).bind fun t463 => ((size_number.f 2).bind fun bt469 => ((size_sum.f k (l0.length : Int) (([l2] : List (List (S30)))) (([(⟨bt469.1, bt469.2⟩ : S30)] : List (S30)))).bind fun t474 => ((size_floor.f k l0 t463 t474).bind fun t477 => (some (t477, 0)))))))) else (some ((⟨#[]⟩ : ByteArray), t452)))) = some (r1, r2) := h
 clear h
 replace H := Option.bind_eq_some_iff.mp H
 obtain ⟨t452, A40, H⟩ := H
 replace H : (if t452 = 0 then ((size_number.f 2).bind fun bt456 => ((size_number.f 1).bind fun bt458 => ((size_sum.f k (l0.length : Int) (([l1, l2] : List (List (S30)))) (([(⟨bt456.1, bt456.2⟩ : S30), (⟨bt458.1, bt458.2⟩ : S30)] : List (S30)))).bind fun t463 => ((size_number.f 2).bind fun bt469 => ((size_sum.f k (l0.length : Int) (([l2] : List (List (S30)))) (([(⟨bt469.1, bt469.2⟩ : S30)] : List (S30)))).bind fun t474 => ((size_floor.f k l0 t463 t474).bind fun t477 => (some (t477, 0)))))))) else (some ((⟨#[]⟩ : ByteArray), t452))) = some (r1, r2) := H
 have A4 := Aside0.mk A40
 clear A40
 by_cases c5 : t452 = 0
 ·rw [if_pos c5] at H
  have c5b0 : (t452 == 0) = true := beq_iff_eq.mpr c5
  have c5b1 : (t452 != 0) = false := bne_eq_false_iff_eq.mpr c5
  clear c5
  obtain ⟨y453, hy453⟩ : ∃ y_ : List (List (S30)), y_ = (([l1, l2] : List (List (S30)))) := ⟨_, rfl⟩
  replace H : ((size_number.f 2).bind fun bt456 => ((size_number.f 1).bind fun bt458 => ((size_sum.f k (l0.length : Int) y453 (([(⟨bt456.1, bt456.2⟩ : S30), (⟨bt458.1, bt458.2⟩ : S30)] : List (S30)))).bind fun t463 => ((size_number.f 2).bind fun bt469 => ((size_sum.f k (l0.length : Int) (([l2] : List (List (S30)))) (([(⟨bt469.1, bt469.2⟩ : S30)] : List (S30)))).bind fun t474 => ((size_floor.f k l0 t463 t474).bind fun t477 => (some (t477, 0)))))))) = some (r1, r2) := by first | (rw [hy453]; with_reducible exact H) | (have H2_ := (Option.bind_some _ _).symm.trans H; rw [hy453]; with_reducible exact H2_) | (have H2_ := (Option.bind_some _ _).symm.trans H; with_reducible exact H2_) | with_reducible exact H | (rw [hy453]; exact H) | exact H
  have Ny453 := Aside0.mk hy453
  clear hy453
  replace H := Option.bind_eq_some_iff.mp H
  obtain ⟨⟨t456, t457⟩, A60, H⟩ := H
  replace H : ((size_number.f 1).bind fun bt458 => ((size_sum.f k (l0.length : Int) y453 (([(⟨t456, t457⟩ : S30), (⟨bt458.1, bt458.2⟩ : S30)] : List (S30)))).bind fun t463 => ((size_number.f 2).bind fun bt469 => ((size_sum.f k (l0.length : Int) (([l2] : List (List (S30)))) (([(⟨bt469.1, bt469.2⟩ : S30)] : List (S30)))).bind fun t474 => ((size_floor.f k l0 t463 t474).bind fun t477 => (some (t477, 0))))))) = some (r1, r2) := H
  have A6 := Aside0.mk A60
  clear A60
  replace H := Option.bind_eq_some_iff.mp H
  obtain ⟨⟨t458, t459⟩, A70, H⟩ := H
  replace H : ((size_sum.f k (l0.length : Int) y453 (([(⟨t456, t457⟩ : S30), (⟨t458, t459⟩ : S30)] : List (S30)))).bind fun t463 => ((size_number.f 2).bind fun bt469 => ((size_sum.f k (l0.length : Int) (([l2] : List (List (S30)))) (([(⟨bt469.1, bt469.2⟩ : S30)] : List (S30)))).bind fun t474 => ((size_floor.f k l0 t463 t474).bind fun t477 => (some (t477, 0)))))) = some (r1, r2) := H
  have A7 := Aside0.mk A70
  clear A70
  obtain ⟨y460, hy460⟩ : ∃ y_ : List (S30), y_ = (([(⟨t456, t457⟩ : S30), (⟨t458, t459⟩ : S30)] : List (S30))) := ⟨_, rfl⟩
  replace H : ((size_sum.f k (l0.length : Int) y453 y460).bind fun t463 => ((size_number.f 2).bind fun bt469 => ((size_sum.f k (l0.length : Int) (([l2] : List (List (S30)))) (([(⟨bt469.1, bt469.2⟩ : S30)] : List (S30)))).bind fun t474 => ((size_floor.f k l0 t463 t474).bind fun t477 => (some (t477, 0)))))) = some (r1, r2) := by first | (rw [hy460]; with_reducible exact H) | (have H2_ := (Option.bind_some _ _).symm.trans H; rw [hy460]; with_reducible exact H2_) | (have H2_ := (Option.bind_some _ _).symm.trans H; with_reducible exact H2_) | with_reducible exact H | (rw [hy460]; exact H) | exact H
  have Ny460 := Aside0.mk hy460
  clear hy460
  replace H := Option.bind_eq_some_iff.mp H
  obtain ⟨t463, A80, H⟩ := H
  replace H : ((size_number.f 2).bind fun bt469 => ((size_sum.f k (l0.length : Int) (([l2] : List (List (S30)))) (([(⟨bt469.1, bt469.2⟩ : S30)] : List (S30)))).bind fun t474 => ((size_floor.f k l0 t463 t474).bind fun t477 => (some (t477, 0))))) = some (r1, r2) := H
  have A8 := Aside0.mk A80
  clear A80
  obtain ⟨y466, hy466⟩ : ∃ y_ : List (List (S30)), y_ = (([l2] : List (List (S30)))) := ⟨_, rfl⟩
  replace H : ((size_number.f 2).bind fun bt469 => ((size_sum.f k (l0.length : Int) y466 (([(⟨bt469.1, bt469.2⟩ : S30)] : List (S30)))).bind fun t474 => ((size_floor.f k l0 t463 t474).bind fun t477 => (some (t477, 0))))) = some (r1, r2) := by first | (rw [hy466]; with_reducible exact H) | (have H2_ := (Option.bind_some _ _).symm.trans H; rw [hy466]; with_reducible exact H2_) | (have H2_ := (Option.bind_some _ _).symm.trans H; with_reducible exact H2_) | with_reducible exact H | (rw [hy466]; exact H) | exact H
  have Ny466 := Aside0.mk hy466
  clear hy466
  replace H := Option.bind_eq_some_iff.mp H
  obtain ⟨⟨t469, t470⟩, A90, H⟩ := H
  replace H : ((size_sum.f k (l0.length : Int) y466 (([(⟨t469, t470⟩ : S30)] : List (S30)))).bind fun t474 => ((size_floor.f k l0 t463 t474).bind fun t477 => (some (t477, 0)))) = some (r1, r2) := H
  have A9 := Aside0.mk A90
  clear A90
  obtain ⟨y471, hy471⟩ : ∃ y_ : List (S30), y_ = (([(⟨t469, t470⟩ : S30)] : List (S30))) := ⟨_, rfl⟩
  replace H : ((size_sum.f k (l0.length : Int) y466 y471).bind fun t474 => ((size_floor.f k l0 t463 t474).bind fun t477 => (some (t477, 0)))) = some (r1, r2) := by first | (rw [hy471]; with_reducible exact H) | (have H2_ := (Option.bind_some _ _).symm.trans H; rw [hy471]; with_reducible exact H2_) | (have H2_ := (Option.bind_some _ _).symm.trans H; with_reducible exact H2_) | with_reducible exact H | (rw [hy471]; exact H) | exact H
  have Ny471 := Aside0.mk hy471
  clear hy471
  replace H := Option.bind_eq_some_iff.mp H
  obtain ⟨t474, A100, H⟩ := H
  replace H : ((size_floor.f k l0 t463 t474).bind fun t477 => (some (t477, 0))) = some (r1, r2) := H
  have A10 := Aside0.mk A100
  clear A100
  replace H := Option.bind_eq_some_iff.mp H
  obtain ⟨t477, A110, H⟩ := H
  replace H : (some (t477, 0)) = some (r1, r2) := H
  have A11 := Aside0.mk A110
  clear A110
  simp only [Option.some.injEq, Prod.mk.injEq] at H
  obtain ⟨rfl, rfl⟩ := H
  go_enter Tryz.func31, Tryz.ntmps31
  go_wp2_with (first | ((with_reducible refine gate_callee (f := 74) rfl ?_); refine goesM (some 13) Tryz.func74 #[.slice A0 l0.length c0, .slice A1 l1.length c1, .slice A2 l2.length c2] ?_; (with_reducible refine (size_checkQuotient.calls k _ _ l0 (fun k_ => ((P1_ k_ ∨ P2_ k_) ∨ w.heap.size ≤ k_)) _ _ l1 (fun k_ => ((P1_ k_ ∨ P2_ k_) ∨ w.heap.size ≤ k_)) _ _ l2 t452 _ ?side1 ?side2 ?side3 ?side4 ?side5 A4.out).mono ?_); (case side1 => exact Glob.below HG0.out (bl HB)); (case side2 => repeat (first | exact HR0.out | (with_reducible refine Kd.C_alloc ?_ _) | (with_reducible refine Kd.C_drewN ?_ _) | (with_reducible refine Kd.C_drew ?_))); (case side3 => exact HC0.out); (case side4 => exact HO1.out); (case side5 => exact HO2.out); rintro e w12 ⟨rfl, hb⟩; refine ⟨_, rfl, ?_⟩; replace HO1 := Aside0.mk (Kd.V_below (by (with_reducible repeat (first | apply Kd.V_alloc | apply Kd.V_drewN | apply Kd.V_drew)); exact HO1.out) hb); replace HO2 := Aside0.mk (Kd.V_below (by (with_reducible repeat (first | apply Kd.V_alloc | apply Kd.V_drewN | apply Kd.V_drew)); exact HO2.out) hb); replace HB := Aside0.mk (below_step (bl HB) hb); (try clear hb); (try clear hb2); (try clear hk); (try clear hi)) | ((with_reducible refine gate_dst (N := 21) rfl ?_); refine Kd.N_lit (Kd.slice 30 k30) _ 34 ?hg (N' := 21) ?hd (xs := ([l1, l2] : List (List (S30)))) (inner := [.slice A1 l1.length c1, .slice A2 l2.length c2]) (ok := (fun k_ => ((P1_ k_ ∨ P2_ k_) ∨ w.heap.size ≤ k_))) (okp := (fun k_ => ((P1_ k_ ∨ P2_ k_) ∨ w.heap.size ≤ k_))) ?hr ?hp (fun _ hk => hk) ((show ∀ k_, w12.heap.size ≤ k_ → (fun k_ => ((P1_ k_ ∨ P2_ k_) ∨ w.heap.size ≤ k_)) k_ from fun k_ hk => (.inr (Nat.le_trans (below_size (bl HB)) hk))) _ (Nat.le_refl _)) (Below.refl _ _) (Nat.le_refl _) (by simp) ?_; (case hd => rfl); (case hg => rfl); (case hr => first | (go_simp; done) | (go_simp; rfl)); (case hp => exact (Reps.one (show Kd.FK (Kd.slice 30 k30) _ _ l1 [.slice A1 l1.length c1] from (Kd.FK_slice_mk (Kd.V_reads' (Kd.V_mono (ok' := (fun k_ => ((P1_ k_ ∨ P2_ k_) ∨ w.heap.size ≤ k_))) (HO1.out) (fun k_ hk => hk))).2.1 (Kd.V_F (Kd.V_mono (ok' := (fun k_ => ((P1_ k_ ∨ P2_ k_) ∨ w.heap.size ≤ k_))) (HO1.out) (fun k_ hk => hk))))) (Reps.one (show Kd.FK (Kd.slice 30 k30) _ _ l2 [.slice A2 l2.length c2] from (Kd.FK_slice_mk (Kd.V_reads' (Kd.V_mono (ok' := (fun k_ => ((P1_ k_ ∨ P2_ k_) ∨ w.heap.size ≤ k_))) (HO2.out) (fun k_ hk => hk))).2.1 (Kd.V_F (Kd.V_mono (ok' := (fun k_ => ((P1_ k_ ∨ P2_ k_) ∨ w.heap.size ≤ k_))) (HO2.out) (fun k_ hk => hk))))) (Reps.none _ _)))); intro v454 w13 ho14 hb hg_ hnew_; clear hg_ hnew_; (first | rw [← Ny453.out] at ho14 | (simp only [Int.reduceToNat] at ho14; rw [← Ny453.out] at ho14)); replace HO1 := Aside0.mk (Kd.V_elder' (by (with_reducible repeat (first | apply Kd.V_alloc | apply Kd.V_drewN | apply Kd.V_drew)); exact HO1.out) (Kd.N_base ho14) hb); replace HO2 := Aside0.mk (Kd.V_elder' (by (with_reducible repeat (first | apply Kd.V_alloc | apply Kd.V_drewN | apply Kd.V_drew)); exact HO2.out) (Kd.N_base ho14) hb); have HO455 := Aside0.mk (Kd.N_lower ho14 (below_size (bl HB))); replace HB := Aside0.mk (below_step (bl HB) hb); clear hb ho14) | ((with_reducible refine gate_callee (f := 65) rfl ?_); refine goesM (some 22) Tryz.func65 #[.int .i64 2] ?_; (with_reducible refine (size_number.calls 2 t456 t457 _ ?side1 A6.out).mono ?_); (case side1 => exact Glob.below HG0.out (bl HB)); rintro e w15 ⟨rfl, hb⟩; refine ⟨_, rfl, ?_⟩; replace HO1 := Aside0.mk (Kd.V_below (by (with_reducible repeat (first | apply Kd.V_alloc | apply Kd.V_drewN | apply Kd.V_drew)); exact HO1.out) hb); replace HO2 := Aside0.mk (Kd.V_below (by (with_reducible repeat (first | apply Kd.V_alloc | apply Kd.V_drewN | apply Kd.V_drew)); exact HO2.out) hb); replace HO455 := Aside0.mk (Kd.N_below (by (with_reducible repeat (first | apply Kd.N_alloc | apply Kd.N_drewN | apply Kd.N_drew)); exact HO455.out) hb); replace HB := Aside0.mk (below_step (bl HB) hb); (try clear hb); (try clear hb2); (try clear hk); (try clear hi)) | ((with_reducible refine gate_callee (f := 65) rfl ?_); refine goesM (some 23) Tryz.func65 #[.int .i64 1] ?_; (with_reducible refine (size_number.calls 1 t458 t459 _ ?side1 A7.out).mono ?_); (case side1 => exact Glob.below HG0.out (bl HB)); rintro e w16 ⟨rfl, hb⟩; refine ⟨_, rfl, ?_⟩; replace HO1 := Aside0.mk (Kd.V_below (by (with_reducible repeat (first | apply Kd.V_alloc | apply Kd.V_drewN | apply Kd.V_drew)); exact HO1.out) hb); replace HO2 := Aside0.mk (Kd.V_below (by (with_reducible repeat (first | apply Kd.V_alloc | apply Kd.V_drewN | apply Kd.V_drew)); exact HO2.out) hb); replace HO455 := Aside0.mk (Kd.N_below (by (with_reducible repeat (first | apply Kd.N_alloc | apply Kd.N_drewN | apply Kd.N_drew)); exact HO455.out) hb); replace HB := Aside0.mk (below_step (bl HB) hb); (try clear hb); (try clear hb2); (try clear hk); (try clear hi)) | ((with_reducible refine gate_dst (N := 24) rfl ?_); refine Kd.R_lit k30 _ 30 ?hg (N := 24) ?hd (xs := ([(⟨t456, t457⟩ : S30), (⟨t458, t459⟩ : S30)] : List (S30))) (inner := [.string t456, .string t457, .string t458, .string t459]) (ok := fun _ => True) (okp := fun _ => True) ?hr ?hp (fun _ hk => hk) trivial (Below.refl _ _) (Nat.le_refl _) (by simp) ?_; (case hd => rfl); (case hg => rfl); (case hr => first | (go_simp; done) | (go_simp; rfl)); (case hp => exact (Reps.c2 (show Kd.M k30 _ _ _ (⟨t456, t457⟩ : S30) [.string t456, .string t457] from (k30_mkM _ _ _ (⟨t456, t457⟩ : S30) )) (Reps.c2 (show Kd.M k30 _ _ _ (⟨t458, t459⟩ : S30) [.string t458, .string t459] from (k30_mkM _ _ _ (⟨t458, t459⟩ : S30) )) (Reps.none _ _)))); intro v461 w17 ho18 hb hg_ hnew_; clear hg_ hnew_; (first | rw [← Ny460.out] at ho18 | (simp only [Int.reduceToNat] at ho18; rw [← Ny460.out] at ho18)); replace HO1 := Aside0.mk (Kd.V_elder' (by (with_reducible repeat (first | apply Kd.V_alloc | apply Kd.V_drewN | apply Kd.V_drew)); exact HO1.out) (Kd.R_base ho18) hb); replace HO2 := Aside0.mk (Kd.V_elder' (by (with_reducible repeat (first | apply Kd.V_alloc | apply Kd.V_drewN | apply Kd.V_drew)); exact HO2.out) (Kd.R_base ho18) hb); replace HO455 := Aside0.mk (Kd.N_elder' (by (with_reducible repeat (first | apply Kd.N_alloc | apply Kd.N_drewN | apply Kd.N_drew)); exact HO455.out) (Kd.R_base ho18) hb); have HO462 := Aside0.mk (Kd.R_lower (Kd.R_newM (M := fun k_ => (w.heap.size ≤ k_)) ho18 (below_size (bl HB)) (fun k_ h_ => h_)) (below_size (bl HB))); replace HB := Aside0.mk (below_step (bl HB) hb); clear hb ho18; obtain ⟨Ao19, co19, eo19⟩ := Kd.N_slice HO455.out; subst eo19; obtain ⟨Ao20, co20, eo20⟩ := Kd.R_slice HO462.out; subst eo20) | ((with_reducible refine gate_callee (f := 59) rfl ?_); refine goesM (some 25) Tryz.func59 #[.int .i64 (l0.length : Int), .slice Ao19 y453.length co19, .slice Ao20 y460.length co20] ?_; (with_reducible refine (size_sum.calls k (l0.length : Int) _ _ y453 _ _ y460 t463 _ ?side1 ?side2 ?side3 ?side4 ?side5 A8.out).mono ?_); (case side1 => exact Glob.below HG0.out (bl HB)); (case side2 => repeat (first | exact (Kd.N_reads' HO455.out).2.2 | (with_reducible refine Kd.C_alloc ?_ _) | (with_reducible refine Kd.C_drewN ?_ _) | (with_reducible refine Kd.C_drew ?_))); (case side3 => exact (Kd.N_reads' HO455.out).2.1); (case side4 => repeat (first | exact (Kd.R_reads' HO462.out).2.2 | (with_reducible refine Kd.C_alloc ?_ _) | (with_reducible refine Kd.C_drewN ?_ _) | (with_reducible refine Kd.C_drew ?_))); (case side5 => exact (Kd.R_reads' HO462.out).2.1); rintro e w21 ⟨v464, rfl, ho0, hb⟩; refine ⟨_, rfl, ?_⟩; replace HO1 := Aside0.mk (Kd.V_elder' (by (with_reducible repeat (first | apply Kd.V_alloc | apply Kd.V_drewN | apply Kd.V_drew)); exact HO1.out) (Kd.R_base ho0) hb); replace HO2 := Aside0.mk (Kd.V_elder' (by (with_reducible repeat (first | apply Kd.V_alloc | apply Kd.V_drewN | apply Kd.V_drew)); exact HO2.out) (Kd.R_base ho0) hb); replace HO455 := Aside0.mk (Kd.N_elder' (by (with_reducible repeat (first | apply Kd.N_alloc | apply Kd.N_drewN | apply Kd.N_drew)); exact HO455.out) (Kd.R_base ho0) hb); have HO465 := Aside0.mk (Kd.R_lower (Kd.R_new' (Kd.R_newM (M := fun k_ => (w.heap.size ≤ k_)) ho0 (below_size (bl HB)) (fun k_ h_ => h_)) (Kd.R_lt (kr HO462))) (below_size (bl HB))); replace HO462 := Aside0.mk (Kd.R_elder' (kr HO462) (Kd.R_base ho0) hb); replace HB := Aside0.mk (below_step (bl HB) hb); (try clear hb); (try clear hb2); (try clear hk); (try clear hi); (try clear ho0)) | ((with_reducible refine gate_dst (N := 31) rfl ?_); refine Kd.N_lit (Kd.slice 30 k30) _ 34 ?hg (N' := 31) ?hd (xs := ([l2] : List (List (S30)))) (inner := [.slice A2 l2.length c2]) (ok := (fun k_ => ((P1_ k_ ∨ P2_ k_) ∨ w.heap.size ≤ k_) ∧ some k_ ≠ (.slice Ao19 y453.length co19 : Value).ownBlock ∧ some k_ ≠ (.slice Ao20 y460.length co20 : Value).ownBlock ∧ some k_ ≠ (v464 : Value).ownBlock)) (okp := (fun k_ => ((P1_ k_ ∨ P2_ k_) ∨ w.heap.size ≤ k_) ∧ some k_ ≠ (.slice Ao19 y453.length co19 : Value).ownBlock ∧ some k_ ≠ (.slice Ao20 y460.length co20 : Value).ownBlock ∧ some k_ ≠ (v464 : Value).ownBlock)) ?hr ?hp (fun _ hk => hk) ((show ∀ k_, w21.heap.size ≤ k_ → (fun k_ => ((P1_ k_ ∨ P2_ k_) ∨ w.heap.size ≤ k_) ∧ some k_ ≠ (.slice Ao19 y453.length co19 : Value).ownBlock ∧ some k_ ≠ (.slice Ao20 y460.length co20 : Value).ownBlock ∧ some k_ ≠ (v464 : Value).ownBlock) k_ from fun k_ hk => ⟨(.inr (Nat.le_trans (below_size (bl HB)) hk)), Kd.fresh' (Kd.N_lt (by (with_reducible repeat (first | apply Kd.N_alloc | apply Kd.N_drewN | apply Kd.N_drew)); exact HO455.out)) k_ hk, Kd.fresh' (Kd.R_lt (kr HO462)) k_ hk, Kd.fresh' (Kd.R_lt (kr HO465)) k_ hk⟩) _ (Nat.le_refl _)) (Below.refl _ _) (Nat.le_refl _) (by simp) ?_; (case hd => rfl); (case hg => rfl); (case hr => first | (go_simp; done) | (go_simp; rfl)); (case hp => exact (Reps.one (show Kd.FK (Kd.slice 30 k30) _ _ l2 [.slice A2 l2.length c2] from (Kd.FK_slice_mk (Kd.V_reads' (Kd.V_mono (ok' := (fun k_ => ((P1_ k_ ∨ P2_ k_) ∨ w.heap.size ≤ k_) ∧ some k_ ≠ (.slice Ao19 y453.length co19 : Value).ownBlock ∧ some k_ ≠ (.slice Ao20 y460.length co20 : Value).ownBlock ∧ some k_ ≠ (v464 : Value).ownBlock)) (HO2.out) (fun k_ hk => ⟨hk.1.1.1, ⟨hk.1.1.2, ⟨hk.1.2, hk.2⟩⟩⟩))).2.1 (Kd.V_F (Kd.V_mono (ok' := (fun k_ => ((P1_ k_ ∨ P2_ k_) ∨ w.heap.size ≤ k_) ∧ some k_ ≠ (.slice Ao19 y453.length co19 : Value).ownBlock ∧ some k_ ≠ (.slice Ao20 y460.length co20 : Value).ownBlock ∧ some k_ ≠ (v464 : Value).ownBlock)) (HO2.out) (fun k_ hk => ⟨hk.1.1.1, ⟨hk.1.1.2, ⟨hk.1.2, hk.2⟩⟩⟩))))) (Reps.none _ _))); intro v467 w22 ho23 hb hg_ hnew_; clear hg_ hnew_; (first | rw [← Ny466.out] at ho23 | (simp only [Int.reduceToNat] at ho23; rw [← Ny466.out] at ho23)); replace HO1 := Aside0.mk (Kd.V_elder' (by (with_reducible repeat (first | apply Kd.V_alloc | apply Kd.V_drewN | apply Kd.V_drew)); exact HO1.out) (Kd.N_base ho23) hb); replace HO2 := Aside0.mk (Kd.V_elder' (by (with_reducible repeat (first | apply Kd.V_alloc | apply Kd.V_drewN | apply Kd.V_drew)); exact HO2.out) (Kd.N_base ho23) hb); replace HO455 := Aside0.mk (Kd.N_elder' (by (with_reducible repeat (first | apply Kd.N_alloc | apply Kd.N_drewN | apply Kd.N_drew)); exact HO455.out) (Kd.N_base ho23) hb); replace HO462 := Aside0.mk (Kd.R_below (kr HO462) hb); replace HO465 := Aside0.mk (Kd.R_below (kr HO465) hb); have HO468 := Aside0.mk (Kd.N_lower ho23 (below_size (bl HB))); replace HB := Aside0.mk (below_step (bl HB) hb); clear hb ho23) | ((with_reducible refine gate_callee (f := 65) rfl ?_); refine goesM (some 32) Tryz.func65 #[.int .i64 2] ?_; (with_reducible refine (size_number.calls 2 t469 t470 _ ?side1 A9.out).mono ?_); (case side1 => exact Glob.below HG0.out (bl HB)); rintro e w24 ⟨rfl, hb⟩; refine ⟨_, rfl, ?_⟩; replace HO1 := Aside0.mk (Kd.V_below (by (with_reducible repeat (first | apply Kd.V_alloc | apply Kd.V_drewN | apply Kd.V_drew)); exact HO1.out) hb); replace HO2 := Aside0.mk (Kd.V_below (by (with_reducible repeat (first | apply Kd.V_alloc | apply Kd.V_drewN | apply Kd.V_drew)); exact HO2.out) hb); replace HO455 := Aside0.mk (Kd.N_below (by (with_reducible repeat (first | apply Kd.N_alloc | apply Kd.N_drewN | apply Kd.N_drew)); exact HO455.out) hb); replace HO462 := Aside0.mk (Kd.R_below (kr HO462) hb); replace HO465 := Aside0.mk (Kd.R_below (kr HO465) hb); replace HO468 := Aside0.mk (Kd.N_below (by (with_reducible repeat (first | apply Kd.N_alloc | apply Kd.N_drewN | apply Kd.N_drew)); exact HO468.out) hb); replace HB := Aside0.mk (below_step (bl HB) hb); (try clear hb); (try clear hb2); (try clear hk); (try clear hi)) | ((with_reducible refine gate_dst (N := 33) rfl ?_); refine Kd.R_lit k30 _ 30 ?hg (N := 33) ?hd (xs := ([(⟨t469, t470⟩ : S30)] : List (S30))) (inner := [.string t469, .string t470]) (ok := fun _ => True) (okp := fun _ => True) ?hr ?hp (fun _ hk => hk) trivial (Below.refl _ _) (Nat.le_refl _) (by simp) ?_; (case hd => rfl); (case hg => rfl); (case hr => first | (go_simp; done) | (go_simp; rfl)); (case hp => exact (Reps.c2 (show Kd.M k30 _ _ _ (⟨t469, t470⟩ : S30) [.string t469, .string t470] from (k30_mkM _ _ _ (⟨t469, t470⟩ : S30) )) (Reps.none _ _))); intro v472 w25 ho26 hb hg_ hnew_; clear hg_ hnew_; (first | rw [← Ny471.out] at ho26 | (simp only [Int.reduceToNat] at ho26; rw [← Ny471.out] at ho26)); replace HO1 := Aside0.mk (Kd.V_elder' (by (with_reducible repeat (first | apply Kd.V_alloc | apply Kd.V_drewN | apply Kd.V_drew)); exact HO1.out) (Kd.R_base ho26) hb); replace HO2 := Aside0.mk (Kd.V_elder' (by (with_reducible repeat (first | apply Kd.V_alloc | apply Kd.V_drewN | apply Kd.V_drew)); exact HO2.out) (Kd.R_base ho26) hb); replace HO455 := Aside0.mk (Kd.N_elder' (by (with_reducible repeat (first | apply Kd.N_alloc | apply Kd.N_drewN | apply Kd.N_drew)); exact HO455.out) (Kd.R_base ho26) hb); replace HO468 := Aside0.mk (Kd.N_elder' (by (with_reducible repeat (first | apply Kd.N_alloc | apply Kd.N_drewN | apply Kd.N_drew)); exact HO468.out) (Kd.R_base ho26) hb); have HO473 := Aside0.mk (Kd.R_lower (Kd.R_new' (Kd.R_new' (Kd.R_newM (M := fun k_ => (w.heap.size ≤ k_)) ho26 (below_size (bl HB)) (fun k_ h_ => h_)) (Kd.R_lt (kr HO462))) (Kd.R_lt (kr HO465))) (below_size (bl HB))); replace HO462 := Aside0.mk (Kd.R_elder' (kr HO462) (Kd.R_base ho26) hb); replace HO465 := Aside0.mk (Kd.R_elder' (kr HO465) (Kd.R_base ho26) hb); replace HB := Aside0.mk (below_step (bl HB) hb); clear hb ho26; obtain ⟨Ao27, co27, eo27⟩ := Kd.N_slice HO468.out; subst eo27; obtain ⟨Ao28, co28, eo28⟩ := Kd.R_slice HO473.out; subst eo28) | ((with_reducible refine gate_callee (f := 59) rfl ?_); refine goesM (some 34) Tryz.func59 #[.int .i64 (l0.length : Int), .slice Ao27 y466.length co27, .slice Ao28 y471.length co28] ?_; (with_reducible refine (size_sum.calls k (l0.length : Int) _ _ y466 _ _ y471 t474 _ ?side1 ?side2 ?side3 ?side4 ?side5 A10.out).mono ?_); (case side1 => exact Glob.below HG0.out (bl HB)); (case side2 => repeat (first | exact (Kd.N_reads' HO468.out).2.2 | (with_reducible refine Kd.C_alloc ?_ _) | (with_reducible refine Kd.C_drewN ?_ _) | (with_reducible refine Kd.C_drew ?_))); (case side3 => exact (Kd.N_reads' HO468.out).2.1); (case side4 => repeat (first | exact (Kd.R_reads' HO473.out).2.2 | (with_reducible refine Kd.C_alloc ?_ _) | (with_reducible refine Kd.C_drewN ?_ _) | (with_reducible refine Kd.C_drew ?_))); (case side5 => exact (Kd.R_reads' HO473.out).2.1); rintro e w29 ⟨v475, rfl, ho0, hb⟩; refine ⟨_, rfl, ?_⟩; replace HO1 := Aside0.mk (Kd.V_elder' (by (with_reducible repeat (first | apply Kd.V_alloc | apply Kd.V_drewN | apply Kd.V_drew)); exact HO1.out) (Kd.R_base ho0) hb); replace HO2 := Aside0.mk (Kd.V_elder' (by (with_reducible repeat (first | apply Kd.V_alloc | apply Kd.V_drewN | apply Kd.V_drew)); exact HO2.out) (Kd.R_base ho0) hb); replace HO455 := Aside0.mk (Kd.N_elder' (by (with_reducible repeat (first | apply Kd.N_alloc | apply Kd.N_drewN | apply Kd.N_drew)); exact HO455.out) (Kd.R_base ho0) hb); replace HO468 := Aside0.mk (Kd.N_elder' (by (with_reducible repeat (first | apply Kd.N_alloc | apply Kd.N_drewN | apply Kd.N_drew)); exact HO468.out) (Kd.R_base ho0) hb); have HO476 := Aside0.mk (Kd.R_lower (Kd.R_new' (Kd.R_new' (Kd.R_new' (Kd.R_newM (M := fun k_ => (w.heap.size ≤ k_)) ho0 (below_size (bl HB)) (fun k_ h_ => h_)) (Kd.R_lt (kr HO462))) (Kd.R_lt (kr HO465))) (Kd.R_lt (kr HO473))) (below_size (bl HB))); replace HO462 := Aside0.mk (Kd.R_elder' (kr HO462) (Kd.R_base ho0) hb); replace HO465 := Aside0.mk (Kd.R_elder' (kr HO465) (Kd.R_base ho0) hb); replace HO473 := Aside0.mk (Kd.R_elder' (kr HO473) (Kd.R_base ho0) hb); replace HB := Aside0.mk (below_step (bl HB) hb); (try clear hb); (try clear hb2); (try clear hk); (try clear hi); (try clear ho0); obtain ⟨Ao30, co30, eo30⟩ := Kd.R_slice HO465.out; subst eo30; obtain ⟨Ao31, co31, eo31⟩ := Kd.R_slice HO476.out; subst eo31) | ((with_reducible refine gate_callee (f := 75) rfl ?_); refine goesM (some 35) Tryz.func75 #[.slice A0 l0.length c0, .slice Ao30 t463.length co30, .slice Ao31 t474.length co31] ?_; (with_reducible refine (size_floor.calls k _ _ l0 _ _ t463 _ _ t474 t477 _ ?side1 ?side2 ?side3 ?side4 ?side5 ?side6 ?side7 A11.out).mono ?_); (case side1 => exact Glob.below HG0.out (bl HB)); (case side2 => repeat (first | exact (Kd.C_below HR0.out HB.out) | (with_reducible refine Kd.C_alloc ?_ _) | (with_reducible refine Kd.C_drewN ?_ _) | (with_reducible refine Kd.C_drew ?_))); (case side3 => exact HC0.out); (case side4 => repeat (first | exact (Kd.R_reads' HO465.out).2.2 | (with_reducible refine Kd.C_alloc ?_ _) | (with_reducible refine Kd.C_drewN ?_ _) | (with_reducible refine Kd.C_drew ?_))); (case side5 => exact (Kd.R_reads' HO465.out).2.1); (case side6 => repeat (first | exact (Kd.R_reads' HO476.out).2.2 | (with_reducible refine Kd.C_alloc ?_ _) | (with_reducible refine Kd.C_drewN ?_ _) | (with_reducible refine Kd.C_drew ?_))); (case side7 => exact (Kd.R_reads' HO476.out).2.1); rintro e w32 ⟨rfl, hb⟩; refine ⟨_, rfl, ?_⟩; replace HO1 := Aside0.mk (Kd.V_below (by (with_reducible repeat (first | apply Kd.V_alloc | apply Kd.V_drewN | apply Kd.V_drew)); exact HO1.out) hb); replace HO2 := Aside0.mk (Kd.V_below (by (with_reducible repeat (first | apply Kd.V_alloc | apply Kd.V_drewN | apply Kd.V_drew)); exact HO2.out) hb); replace HO455 := Aside0.mk (Kd.N_below (by (with_reducible repeat (first | apply Kd.N_alloc | apply Kd.N_drewN | apply Kd.N_drew)); exact HO455.out) hb); replace HO462 := Aside0.mk (Kd.R_below (kr HO462) hb); replace HO465 := Aside0.mk (Kd.R_below (kr HO465) hb); replace HO468 := Aside0.mk (Kd.N_below (by (with_reducible repeat (first | apply Kd.N_alloc | apply Kd.N_drewN | apply Kd.N_drew)); exact HO468.out) hb); replace HO473 := Aside0.mk (Kd.R_below (kr HO473) hb); replace HO476 := Aside0.mk (Kd.R_below (kr HO476) hb); replace HB := Aside0.mk (below_step (bl HB) hb); (try clear hb); (try clear hb2); (try clear hk); (try clear hi)))
  go_ret2
  exact ⟨rl, bl HB⟩
 ·rw [if_neg c5] at H
  have c5b0 : (t452 == 0) = false := beq_eq_false_iff_ne.mpr c5
  have c5b1 : (t452 != 0) = true := bne_iff_ne.mpr c5
  simp only [Option.some.injEq, Prod.mk.injEq] at H
  obtain ⟨rfl, rfl⟩ := H
  go_enter Tryz.func31, Tryz.ntmps31
  go_wp2_with (first | ((with_reducible refine gate_callee (f := 74) rfl ?_); refine goesM (some 13) Tryz.func74 #[.slice A0 l0.length c0, .slice A1 l1.length c1, .slice A2 l2.length c2] ?_; (with_reducible refine (size_checkQuotient.calls k _ _ l0 (fun k_ => ((P1_ k_ ∨ P2_ k_) ∨ w.heap.size ≤ k_)) _ _ l1 (fun k_ => ((P1_ k_ ∨ P2_ k_) ∨ w.heap.size ≤ k_)) _ _ l2 t452 _ ?side1 ?side2 ?side3 ?side4 ?side5 A4.out).mono ?_); (case side1 => exact Glob.below HG0.out (bl HB)); (case side2 => repeat (first | exact HR0.out | (with_reducible refine Kd.C_alloc ?_ _) | (with_reducible refine Kd.C_drewN ?_ _) | (with_reducible refine Kd.C_drew ?_))); (case side3 => exact HC0.out); (case side4 => exact HO1.out); (case side5 => exact HO2.out); rintro e w33 ⟨rfl, hb⟩; refine ⟨_, rfl, ?_⟩; replace HO1 := Aside0.mk (Kd.V_below (by (with_reducible repeat (first | apply Kd.V_alloc | apply Kd.V_drewN | apply Kd.V_drew)); exact HO1.out) hb); replace HO2 := Aside0.mk (Kd.V_below (by (with_reducible repeat (first | apply Kd.V_alloc | apply Kd.V_drewN | apply Kd.V_drew)); exact HO2.out) hb); replace HB := Aside0.mk (below_step (bl HB) hb); (try clear hb); (try clear hb2); (try clear hk); (try clear hi)))
  go_ret2
  exact ⟨rl, bl HB⟩
end Go.Proofs.YtailoobjgbldgaaGreatDoor.P
end
section
namespace Go.Proofs.YtailoobjgbldgaaGreatDoor.P
open Go.RowKit Go.Proofs.YtailoobjgbldgaaGreatDoorW.PrintWords Go.Proofs.YtailoobjgbldgaaGreatDoorW.PrintLast Go.Proofs.YtailoobjgbldgaaGreatDoorW.PrintMore
attribute [local go_sem] max2_int min2_int max_two min_two max_three min_three max_four min_four   
set_option linter.unusedVariables false
set_option linter.unusedSimpArgs false
def size_Check.f (k : Nat) (l0 : List Int) (l1 : List (S30)) : Option (Int) := (prime_Check.f k l0).bind fun t478 => (if t478 = 0 then ((size_check.f k l0 l1).bind fun t479 => (some t479)) else (some t478))
set_option maxHeartbeats 8000000 in
set_option maxRecDepth 100000 in
theorem size_Check.calls (k : Nat) (A0 : Option Addr) (c0 : Nat) (l0 : List Int) (A1 : Option Addr) (c1 : Nat) (l1 : List (S30)) (r : Int) (w : World) (hG : Glob w) (hr0 : Kd.C (Kd.int .i64) w A0 l0.length l0) (hc0 : l0.length ≤ c0) (hr1 : Kd.C k30 w A1 l1.length l1) (hc1 : l1.length ≤ c1) (h : size_Check.f k l0 l1 = some r) :
  Calls Tryz.prog 51 #[.slice A0 l0.length c0, .slice A1 l1.length c1] w fun e w' => e = .returned (.int .i64 r) ∧ Below w.heap.size w w' := by
 have HR0 := Aside0.mk hr0
 have HC0 := Aside0.mk hc0
 clear hr0 hc0
 have HR1 := Aside0.mk hr1
 have HC1 := Aside0.mk hc1
 clear hr1 hc1
 have HG0 := Aside0.mk hG
 clear hG
 have HB := Aside0.mk (Below.refl w.heap.size w)
 have H : ((prime_Check.f k l0).bind fun t478 => (if t478 = 0 then ((size_check.f k l0 l1).bind fun t479 => (some t479)) else (some t478))) = some r := h
 clear h
 replace H := Option.bind_eq_some_iff.mp H
 obtain ⟨t478, A30, H⟩ := H
 replace H : (if t478 = 0 then ((size_check.f k l0 l1).bind fun t479 => (some t479)) else (some t478)) = some r := H
 have A3 := Aside0.mk A30
 clear A30
 by_cases c4 : t478 = 0
 ·rw [if_pos c4] at H
  have c4b0 : (t478 == 0) = true := beq_iff_eq.mpr c4
  have c4b1 : (t478 != 0) = false := bne_eq_false_iff_eq.mpr c4
  clear c4
  replace H := Option.bind_eq_some_iff.mp H
  obtain ⟨t479, A50, H⟩ := H
  replace H : (some t479) = some r := H
  have A5 := Aside0.mk A50
  clear A50
  obtain rfl := Option.some.inj H
  go_enter Tryz.func51, Tryz.ntmps51
  go_wp2_with (first | ((with_reducible refine gate_callee (f := 40) rfl ?_); refine goesM (some 7) Tryz.func40 #[.slice A0 l0.length c0] ?_; (with_reducible refine (prime_Check.calls k _ _ l0 t478 _ ?side1 ?side2 A3.out).mono ?_); (case side1 => repeat (first | exact HR0.out | (with_reducible refine Kd.C_alloc ?_ _) | (with_reducible refine Kd.C_drewN ?_ _) | (with_reducible refine Kd.C_drew ?_))); (case side2 => exact HC0.out); rintro e w' ⟨rfl, ⟨nd, rfl⟩⟩; refine ⟨_, rfl, ?_⟩) | ((with_reducible refine gate_callee (f := 94) rfl ?_); refine goesM (some 13) Tryz.func94 #[.slice A0 l0.length c0, .slice A1 l1.length c1] ?_; (with_reducible refine (size_check.calls k _ _ l0 _ _ l1 t479 _ ?side1 ?side2 ?side3 ?side4 ?side5 A5.out).mono ?_); (case side1 => exact Glob.below HG0.out (bl HB)); (case side2 => repeat (first | exact HR0.out | (with_reducible refine Kd.C_alloc ?_ _) | (with_reducible refine Kd.C_drewN ?_ _) | (with_reducible refine Kd.C_drew ?_))); (case side3 => exact HC0.out); (case side4 => repeat (first | exact HR1.out | (with_reducible refine Kd.C_alloc ?_ _) | (with_reducible refine Kd.C_drewN ?_ _) | (with_reducible refine Kd.C_drew ?_))); (case side5 => exact HC1.out); rintro e w6 ⟨rfl, hb⟩; refine ⟨_, rfl, ?_⟩; replace HB := Aside0.mk (below_step (bl HB) hb); (try clear hb); (try clear hb2); (try clear hk); (try clear hi)))
  go_ret
  exact ⟨rl, bl HB⟩
 ·rw [if_neg c4] at H
  have c4b0 : (t478 == 0) = false := beq_eq_false_iff_ne.mpr c4
  have c4b1 : (t478 != 0) = true := bne_iff_ne.mpr c4
  obtain rfl := Option.some.inj H
  go_enter Tryz.func51, Tryz.ntmps51
  go_wp2_with (first | ((with_reducible refine gate_callee (f := 40) rfl ?_); refine goesM (some 7) Tryz.func40 #[.slice A0 l0.length c0] ?_; (with_reducible refine (prime_Check.calls k _ _ l0 t478 _ ?side1 ?side2 A3.out).mono ?_); (case side1 => repeat (first | exact HR0.out | (with_reducible refine Kd.C_alloc ?_ _) | (with_reducible refine Kd.C_drewN ?_ _) | (with_reducible refine Kd.C_drew ?_))); (case side2 => exact HC0.out); rintro e w' ⟨rfl, ⟨nd, rfl⟩⟩; refine ⟨_, rfl, ?_⟩))
  go_ret
  exact ⟨rl, bl HB⟩
def fraction_Text.f (a0_0 : ByteArray) (a0_1 : ByteArray) : Option (ByteArray) := if a0_1.toList = ([49] : List UInt8) then (some a0_0) else (if a0_0.size + 1 ≤ 9223372036854775807 then (if (a0_0 ++ (⟨#[47]⟩ : ByteArray)).size + a0_1.size ≤ 9223372036854775807 then (some ((a0_0 ++ (⟨#[47]⟩ : ByteArray)) ++ a0_1)) else (none)) else (none))
set_option maxHeartbeats 8000000 in
set_option maxRecDepth 100000 in
theorem fraction_Text.calls (a0_0 : ByteArray) (a0_1 : ByteArray) (r : ByteArray) (w : World) (h : fraction_Text.f a0_0 a0_1 = some r) :
  Calls Tryz.prog 90 #[.agg #[.string a0_0, .string a0_1]] w fun e w' => e = .returned (.string r) ∧ Below w.heap.size w w' := by
 have hu30 := Tryz.underlying30
 have HB := Aside0.mk (Below.refl w.heap.size w)
 have H : (if a0_1.toList = ([49] : List UInt8) then (some a0_0) else (if a0_0.size + 1 ≤ 9223372036854775807 then (if (a0_0 ++ (⟨#[47]⟩ : ByteArray)).size + a0_1.size ≤ 9223372036854775807 then (some ((a0_0 ++ (⟨#[47]⟩ : ByteArray)) ++ a0_1)) else (none)) else (none))) = some r := h
 clear h
 by_cases c2 : a0_1.toList = ([49] : List UInt8)
 ·rw [if_pos c2] at H
  have c2b0 : (a0_1.toList == ([49] : List UInt8)) = true := beq_iff_eq.mpr c2
  have c2b1 : (a0_1.toList != ([49] : List UInt8)) = false := bne_eq_false_iff_eq.mpr c2
  clear c2
  obtain rfl := Option.some.inj H
  go_enter Tryz.func90, Tryz.ntmps90
  go_wp2_with (first | ((with_reducible refine gate_dst (N := 1) rfl ?_); refine boxM (N := 1) #[.string a0_0, .string a0_1] 30 ?_; intro gb480 hg w3 hbox hb; have BK480 := Aside0.mk (hbox); have GW480 := Aside0.mk ((by rw [hg]; exact (below_size (bl HB)) : w.heap.size ≤ gb480)); have GE480 := Aside0.mk ((by rw [hg]; exact (below_size (bl HB)) : w.heap.size ≤ gb480)); replace HB := Aside0.mk (below_step (bl HB) hb); clear hb hbox hg; have hcz4_0 : w3.cell? ⟨gb480, 0, none⟩ = some (.string a0_0) := (blk_cell BK480.out 0).trans rfl; have hcz4_1 : w3.cell? ⟨gb480, 1, none⟩ = some (.string a0_1) := (blk_cell BK480.out 1).trans rfl; have hfz4_0 := blk_frozen BK480.out 0; have hfz4_1 := blk_frozen BK480.out 1))
  go_ret
  exact ⟨rl, bl HB⟩
 ·rw [if_neg c2] at H
  have c2b0 : (a0_1.toList == ([49] : List UInt8)) = false := beq_eq_false_iff_ne.mpr c2
  have c2b1 : (a0_1.toList != ([49] : List UInt8)) = true := bne_iff_ne.mpr c2
  by_cases c5 : a0_0.size + 1 ≤ 9223372036854775807
  ·rw [if_pos c5] at H
   have c5b0 := eq_true c5
   have c5b1 : decide (a0_0.size + 1 ≤ 9223372036854775807) = true := decide_eq_true c5
   try have c5b2 : (9223372036854775807 < a0_0.size + 1) = False := eq_false (Nat.not_lt.2 c5)
   by_cases c6 : (a0_0 ++ (⟨#[47]⟩ : ByteArray)).size + a0_1.size ≤ 9223372036854775807
   ·rw [if_pos c6] at H
    have c6b0 := eq_true c6
    have c6b1 : decide ((a0_0 ++ (⟨#[47]⟩ : ByteArray)).size + a0_1.size ≤ 9223372036854775807) = true := decide_eq_true c6
    try have c6b2 : (9223372036854775807 < (a0_0 ++ (⟨#[47]⟩ : ByteArray)).size + a0_1.size) = False := eq_false (Nat.not_lt.2 c6)
    (try have c6b3 : (9223372036854775807 < a0_0.size + 1 + a0_1.size) = False := by have h_ := of_eq_true c6b0; simp only [ByteArray.size_append] at h_; exact eq_false (Nat.not_lt.2 h_))
    obtain rfl := Option.some.inj H
    go_enter Tryz.func90, Tryz.ntmps90
    go_wp2_with (first | ((with_reducible refine gate_dst (N := 1) rfl ?_); refine boxM (N := 1) #[.string a0_0, .string a0_1] 30 ?_; intro gb480 hg w7 hbox hb; have BK480 := Aside0.mk (hbox); have GW480 := Aside0.mk ((by rw [hg]; exact (below_size (bl HB)) : w.heap.size ≤ gb480)); have GE480 := Aside0.mk ((by rw [hg]; exact (below_size (bl HB)) : w.heap.size ≤ gb480)); replace HB := Aside0.mk (below_step (bl HB) hb); clear hb hbox hg; have hcz8_0 : w7.cell? ⟨gb480, 0, none⟩ = some (.string a0_0) := (blk_cell BK480.out 0).trans rfl; have hcz8_1 : w7.cell? ⟨gb480, 1, none⟩ = some (.string a0_1) := (blk_cell BK480.out 1).trans rfl; have hfz8_0 := blk_frozen BK480.out 0; have hfz8_1 := blk_frozen BK480.out 1))
    go_ret
    exact ⟨rl, bl HB⟩
   ·rw [if_neg c6] at H
    exact absurd H (by simp)
  ·rw [if_neg c5] at H
   exact absurd H (by simp)
end Go.Proofs.YtailoobjgbldgaaGreatDoor.P
end
section
namespace Go.Proofs.YtailoobjgbldgaaGreatDoor.P
open Go.RowKit Go.Proofs.YtailoobjgbldgaaGreatDoorW.PrintWords Go.Proofs.YtailoobjgbldgaaGreatDoorW.PrintLast Go.Proofs.YtailoobjgbldgaaGreatDoorW.PrintMore
attribute [local go_sem] max2_int min2_int max_two min_two max_three min_three max_four min_four   
set_option linter.unusedVariables false
set_option linter.unusedSimpArgs false
attribute [local go_sem high] eqA30
mutual
def size_Text.l0 : Nat → List Int → List ByteArray → List (S30) → Int → Int → Option (ByteArray × Int)
 | 0, _, _, _, _, _ => none
 | k + 1, x0, x7, x17, x18, x19 => if x19 < x18 then (if 0 ≤ x19 then (if x19 < (x17.length : Int) then (if x19 < (x0.length : Int) then ((goItoa.f (rd x0 x19)).bind fun t486 => (if ((rd_T30 x17 x19).f0).toList = ([48] : List UInt8) then (size_Text.l0 k x0 x7 x17 x18 (wrap64 (x19 + 1))) else ((size_number.f 1).bind fun bt487 => (if ((((rd_T30 x17 x19).f0).toList) == bt487.1.toList && ((((rd_T30 x17 x19).f1).toList) == bt487.2.toList)) = true then (if x7.length < 8796093022208 then (size_Text.l0 k x0 (x7 ++ [t486]) x17 x18 (wrap64 (x19 + 1))) else (none)) else (if ((rd_T30 x17 x19).f1).toList = ([49] : List UInt8) then ((whole_Sign.f ((rd_T30 x17 x19).f0)).bind fun t492 => (size_Text.j1 k x0 x7 t486 x17 x18 x19 (decide (t492 > 0)) ((rd_T30 x17 x19).f0) ((rd_T30 x17 x19).f1))) else (size_Text.j1 k x0 x7 t486 x17 x18 x19 false ((rd_T30 x17 x19).f0) ((rd_T30 x17 x19).f1))))))) else (none)) else (none)) else (none)) else (if (x7.length : Int) = 0 then (some ((⟨#[49]⟩ : ByteArray), 0)) else ((goJoin.f x7 (⟨#[32]⟩ : ByteArray)).bind fun t482 => (some (t482, 0))))
def size_Text.j1 : Nat → List Int → List ByteArray → ByteArray → List (S30) → Int → Int → Bool → ByteArray → ByteArray → Option (ByteArray × Int)
 | 0, _, _, _, _, _, _, _, _, _ => none
 | k + 1, x0, x7, x10, x17, x18, x19, x43, x485000, x485001 => if x43 = true then ((fraction_Text.f x485000 x485001).bind fun t493 => (if 1 + t493.size ≤ 9223372036854775807 then (if x10.size + ((⟨#[94]⟩ : ByteArray) ++ t493).size ≤ 9223372036854775807 then (if x7.length < 8796093022208 then (size_Text.l0 k x0 (x7 ++ [x10 ++ ((⟨#[94]⟩ : ByteArray) ++ t493)]) x17 x18 (wrap64 (x19 + 1))) else (none)) else (none)) else (none))) else ((fraction_Text.f x485000 x485001).bind fun t497 => (if 2 + t497.size ≤ 9223372036854775807 then (if ((⟨#[94, 40]⟩ : ByteArray) ++ t497).size + 1 ≤ 9223372036854775807 then (if x10.size + (((⟨#[94, 40]⟩ : ByteArray) ++ t497) ++ (⟨#[41]⟩ : ByteArray)).size ≤ 9223372036854775807 then (if x7.length < 8796093022208 then (size_Text.l0 k x0 (x7 ++ [x10 ++ (((⟨#[94, 40]⟩ : ByteArray) ++ t497) ++ (⟨#[41]⟩ : ByteArray))]) x17 x18 (wrap64 (x19 + 1))) else (none)) else (none)) else (none)) else (none)))
end
def size_Text.f (k : Nat) (l0 : List Int) (l1 : List (S30)) : Option (ByteArray × Int) := (size_Check.f k l0 l1).bind fun t481 => (if t481 = 0 then (size_Text.l0 k l0 ([] : List ByteArray) l1 (l1.length : Int) 0) else (some ((⟨#[]⟩ : ByteArray), t481)))
set_option maxHeartbeats 8000000 in
set_option maxRecDepth 100000 in
theorem size_Text.calls (k : Nat) (A0 : Option Addr) (c0 : Nat) (l0 : List Int) (A1 : Option Addr) (c1 : Nat) (l1 : List (S30)) (r1 : ByteArray) (r2 : Int) (w : World) (hG : Glob w) (hr0 : Kd.C (Kd.int .i64) w A0 l0.length l0) (hc0 : l0.length ≤ c0) (hr1 : Kd.C k30 w A1 l1.length l1) (hc1 : l1.length ≤ c1) (h : size_Text.f k l0 l1 = some (r1, r2)) :
  Calls Tryz.prog 45 #[.slice A0 l0.length c0, .slice A1 l1.length c1] w fun e w' => e = .returned (.tuple #[.string r1, .int .i64 r2]) ∧ Below w.heap.size w w' := by
 have hu30 := Tryz.underlying30
 have HR0 := Aside0.mk hr0
 have HC0 := Aside0.mk hc0
 clear hr0 hc0
 have HR1 := Aside0.mk hr1
 have HC1 := Aside0.mk hc1
 clear hr1 hc1
 have HG0 := Aside0.mk hG
 clear hG
 have HB := Aside0.mk (Below.refl w.heap.size w)
 have H : ((size_Check.f k l0 l1).bind fun t481 => (if t481 = 0 then (size_Text.l0 k l0 ([] : List ByteArray) l1 (l1.length : Int) 0) else (some ((⟨#[]⟩ : ByteArray), t481)))) = some (r1, r2) := h
 clear h
 replace H := Option.bind_eq_some_iff.mp H
 obtain ⟨t481, A30, H⟩ := H
 replace H : (if t481 = 0 then (size_Text.l0 k l0 ([] : List ByteArray) l1 (l1.length : Int) 0) else (some ((⟨#[]⟩ : ByteArray), t481))) = some (r1, r2) := H
 have A3 := Aside0.mk A30
 clear A30
 by_cases c4 : t481 = 0
 ·rw [if_pos c4] at H
  have c4b0 : (t481 == 0) = true := beq_iff_eq.mpr c4
  have c4b1 : (t481 != 0) = false := bne_eq_false_iff_eq.mpr c4
  clear c4
  have H' := Aside0.mk H
  clear H
  go_enter Tryz.func45, Tryz.ntmps45
  go_wp2_with (first | ((with_reducible refine gate_callee (f := 51) rfl ?_); refine goesM (some 13) Tryz.func51 #[.slice A0 l0.length c0, .slice A1 l1.length c1] ?_; (with_reducible refine (size_Check.calls k _ _ l0 _ _ l1 t481 _ ?side1 ?side2 ?side3 ?side4 ?side5 A3.out).mono ?_); (case side1 => exact Glob.below HG0.out (bl HB)); (case side2 => repeat (first | exact HR0.out | (with_reducible refine Kd.C_alloc ?_ _) | (with_reducible refine Kd.C_drewN ?_ _) | (with_reducible refine Kd.C_drew ?_))); (case side3 => exact HC0.out); (case side4 => repeat (first | exact HR1.out | (with_reducible refine Kd.C_alloc ?_ _) | (with_reducible refine Kd.C_drewN ?_ _) | (with_reducible refine Kd.C_drew ?_))); (case side5 => exact HC1.out); rintro e w5 ⟨rfl, hb⟩; refine ⟨_, rfl, ?_⟩; replace HB := Aside0.mk (below_step (bl HB) hb); (try clear hb); (try clear hb2); (try clear hk); (try clear hi)))
  go_loopg [7, 19] k (fun kq v7 v19 w' => ∃ (x7_1 : List ByteArray) (x19_1 : Int), v19 = .int .i64 x19_1 ∧ Aside0 (size_Text.l0 kq l0 x7_1 l1 (l1.length : Int) x19_1 = some (r1, r2)) ∧ Aside0 (kq ≤ k) ∧ Aside0 (Kd.R Kd.string 9 w' w.heap.size (fun _ => True) v7 x7_1) ∧ Aside0 (Below w.heap.size w w'))
  case atStart => exact ⟨(([] : List ByteArray)), (0), rs, H', ⟨Nat.le_refl _⟩, ⟨by first | exact Kd.R_nil _ _ _ _ _ | exact Kd.N_nil _ _ _ _ _ | exact Kd.V_nil _ _ _ _ _ | exact Kd.Q_nil _ _ _ _ _ | exact Kd.S_nil _ _ _ _ _⟩, ⟨bl HB⟩⟩
  case round =>
   clear H'
   try clear c1
   try clear p2
   try clear c4
   try clear c4b0
   try clear c4b1
   try clear c5
   obtain ⟨x7_1, x19_1, rfl, HA, HK1, HO_7, HB⟩ := hrel
   cases gk with
   | zero => exact absurd HA.out (by simp [size_Text.l0])
   | succ k1 =>
    have H := HA.out
    clear HA
    simp only [size_Text.l0] at H
    by_cases c6 : x19_1 < (l1.length : Int)
    ·rw [if_pos c6] at H
     have c6b0 : decide (x19_1 < (l1.length : Int)) = true := decide_eq_true c6
     clear c6
     by_cases c7 : 0 ≤ x19_1
     ·rw [if_pos c7] at H
      have c7b0 : decide (0 ≤ x19_1) = true := decide_eq_true c7
      clear c7
      by_cases c8 : x19_1 < (l1.length : Int)
      ·rw [if_pos c8] at H
       have c8b0 : decide (x19_1 < (l1.length : Int)) = true := decide_eq_true c8
       clear c8
       by_cases c9 : x19_1 < (l0.length : Int)
       ·rw [if_pos c9] at H
        have c9b0 : decide (x19_1 < (l0.length : Int)) = true := decide_eq_true c9
        clear c9
        replace H := Option.bind_eq_some_iff.mp H
        obtain ⟨t486, A100, H⟩ := H
        replace H : (if ((rd_T30 l1 x19_1).f0).toList = ([48] : List UInt8) then (size_Text.l0 k1 l0 x7_1 l1 (l1.length : Int) (wrap64 (x19_1 + 1))) else ((size_number.f 1).bind fun bt487 => (if ((((rd_T30 l1 x19_1).f0).toList) == bt487.1.toList && ((((rd_T30 l1 x19_1).f1).toList) == bt487.2.toList)) = true then (if x7_1.length < 8796093022208 then (size_Text.l0 k1 l0 (x7_1 ++ [t486]) l1 (l1.length : Int) (wrap64 (x19_1 + 1))) else (none)) else (if ((rd_T30 l1 x19_1).f1).toList = ([49] : List UInt8) then ((whole_Sign.f ((rd_T30 l1 x19_1).f0)).bind fun t492 => (size_Text.j1 k1 l0 x7_1 t486 l1 (l1.length : Int) x19_1 (decide (t492 > 0)) ((rd_T30 l1 x19_1).f0) ((rd_T30 l1 x19_1).f1))) else (size_Text.j1 k1 l0 x7_1 t486 l1 (l1.length : Int) x19_1 false ((rd_T30 l1 x19_1).f0) ((rd_T30 l1 x19_1).f1)))))) = some (r1, r2) := H
        have A10 := Aside0.mk A100
        clear A100
        by_cases c11 : ((rd_T30 l1 x19_1).f0).toList = ([48] : List UInt8)
        ·rw [if_pos c11] at H
         have c11b0 : (((rd_T30 l1 x19_1).f0).toList == ([48] : List UInt8)) = true := beq_iff_eq.mpr c11
         have c11b1 : (((rd_T30 l1 x19_1).f0).toList != ([48] : List UInt8)) = false := bne_eq_false_iff_eq.mpr c11
         clear c11
         have H' := Aside0.mk H
         clear H
         have p483 : 0 ≤ (x19_1 : Int) := of_decide_eq_true (by first | (with_reducible assumption) | assumption)
         have q483 : x19_1 < (l1.length : Int) := of_decide_eq_true (by first | (with_reducible assumption) | assumption)
         obtain ⟨ad483, e483, hx483_0, hx483_1⟩ := at_T30 HR1.out x19_1 p483 q483
         cases e483
         replace hx483_0 := (HB.out.cell (World.block_lt_of_cell? w _ hx483_0)).trans hx483_0
         replace hx483_1 := (HB.out.cell (World.block_lt_of_cell? w _ hx483_1)).trans hx483_1
         replace p483 := eq_true p483
         replace q483 := eq_true q483
         go_wp2_with (first | ((with_reducible refine gate_dst (N := 9) rfl ?_); refine boxM (N := 9) #[.string (⟨#[]⟩ : ByteArray), .string (⟨#[]⟩ : ByteArray)] 30 ?_; intro gb484 hg w12 hbox hb; replace HO_7 := Aside0.mk (Kd.R_below (kr HO_7) hb); have BK484 := Aside0.mk (hbox); have GW484 := Aside0.mk ((by rw [hg]; exact (below_size (bl HB)) : w.heap.size ≤ gb484)); have GE484 := Aside0.mk ((by rw [hg]; exact (below_size (bl HB)) : w.heap.size ≤ gb484)); replace HB := Aside0.mk (below_step (bl HB) hb); clear hb hbox hg; have hcz13_0 : w12.cell? ⟨gb484, 0, none⟩ = some (.string (⟨#[]⟩ : ByteArray)) := (blk_cell BK484.out 0).trans rfl; have hcz13_1 : w12.cell? ⟨gb484, 1, none⟩ = some (.string (⟨#[]⟩ : ByteArray)) := (blk_cell BK484.out 1).trans rfl; have hfz13_0 := blk_frozen BK484.out 0; have hfz13_1 := blk_frozen BK484.out 1; have p485 : 0 ≤ (x19_1 : Int) := of_decide_eq_true (by first | (with_reducible assumption) | assumption); have q485 : x19_1 < (l0.length : Int) := of_decide_eq_true (by first | (with_reducible assumption) | assumption); obtain ⟨ad485, e485, hx485_0⟩ := Kd.at_int HR0.out x19_1 p485 q485; cases e485; have hn485_0 : ad485.block ≠ gb484 := Nat.ne_of_lt (Nat.lt_of_lt_of_le (by have := World.block_lt_of_cell? _ _ hx485_0; first | rwa [add_block] at this | exact this) GW484.out); have hn485_1 : ad485.block ≠ gb484 := Nat.ne_of_lt (Nat.lt_of_lt_of_le (by have := World.block_lt_of_cell? _ _ hx485_0; first | rwa [add_block] at this | exact this) GW484.out); replace hx485_0 := (HB.out.cell (World.block_lt_of_cell? w _ hx485_0)).trans hx485_0; replace hx485_0 := (cell_far (p := ⟨gb484, 0, none⟩) (by first | (rw [add_block]; exact hn485_0) | (show (Addr.add _ _).block ≠ _; rw [add_block]; exact hn485_0) | exact hn485_0) (.string ((rd_T30 l1 x19_1).f0))).trans hx485_0; replace hx485_0 := (cell_far (p := ⟨gb484, 1, none⟩) (by first | (rw [add_block]; exact hn485_1) | (show (Addr.add _ _).block ≠ _; rw [add_block]; exact hn485_1) | exact hn485_1) (.string ((rd_T30 l1 x19_1).f1))).trans hx485_0; clear hn485_0; clear hn485_1; replace p485 := eq_true p485; replace q485 := eq_true q485) | ((with_reducible refine gate_callee (f := 89) rfl ?_); refine goesM (some 28) Tryz.func89 #[.int .i64 (rd l0 x19_1)] ?_; (with_reducible refine (goItoa.calls (rd l0 x19_1) t486 _ ?side1 A10.out).mono ?_); (case side1 => exact Glob.below HG0.out (bl HB)); rintro e w14 ⟨rfl, hb⟩; refine ⟨_, rfl, ?_⟩; replace HO_7 := Aside0.mk (Kd.R_below (by (with_reducible repeat (first | apply Kd.R_alloc | apply Kd.R_drewN | apply Kd.R_drew)); exact (Kd.R_mono (Kd.R_far (p := ⟨gb484, 1, none⟩) (Kd.R_far (p := ⟨gb484, 0, none⟩) (Kd.R_types HO_7.out BK484.out (by decide)) (fun _ hk => hk.2) (.string ((rd_T30 l1 x19_1).f0))) (fun _ hk => hk.2) (.string ((rd_T30 l1 x19_1).f1))) (fun _ h_ => h_.1))) hb); replace BK484 := Aside0.mk (blk_below (g := gb484) (o := .cells #[.string ((rd_T30 l1 x19_1).f0), .string ((rd_T30 l1 x19_1).f1)] 30 (0, 0)) (by (with_reducible repeat (first | refine blk_drewN ?_ _ | refine blk_drew ?_ | refine blk_alloc ?_ _)); refine blk_put (cs := #[.string ((rd_T30 l1 x19_1).f0), .string (⟨#[]⟩ : ByteArray)]) ?_ 1 _ rfl; (with_reducible repeat (first | refine blk_drewN ?_ _ | refine blk_drew ?_ | refine blk_alloc ?_ _)); refine blk_put (cs := #[.string (⟨#[]⟩ : ByteArray), .string (⟨#[]⟩ : ByteArray)]) ?_ 0 _ rfl; (with_reducible repeat (first | refine blk_drewN ?_ _ | refine blk_drew ?_ | refine blk_alloc ?_ _)); exact BK484.out) hb); replace HB := Aside0.mk (below_step (bl HB) hb); (try clear hb); (try clear hb2); (try clear hk); (try clear hi); have hcz15_0 : w14.cell? ⟨gb484, 0, none⟩ = some (.string ((rd_T30 l1 x19_1).f0)) := (blk_cell BK484.out 0).trans rfl; have hcz15_1 : w14.cell? ⟨gb484, 1, none⟩ = some (.string ((rd_T30 l1 x19_1).f1)) := (blk_cell BK484.out 1).trans rfl; have hfz15_0 := blk_frozen BK484.out 0; have hfz15_1 := blk_frozen BK484.out 1))
         go_roundg k1
         case measure => have := HK1.out; omega
         case rel => exact ⟨(x7_1), (wrap64 (x19_1 + 1)), rs, H', ⟨by have := HK1.out; omega⟩, ⟨kr HO_7⟩, ⟨bl HB⟩⟩
        ·rw [if_neg c11] at H
         have c11b0 : (((rd_T30 l1 x19_1).f0).toList == ([48] : List UInt8)) = false := beq_eq_false_iff_ne.mpr c11
         have c11b1 : (((rd_T30 l1 x19_1).f0).toList != ([48] : List UInt8)) = true := bne_iff_ne.mpr c11
         replace H := Option.bind_eq_some_iff.mp H
         obtain ⟨⟨t487, t488⟩, A160, H⟩ := H
         replace H : (if ((((rd_T30 l1 x19_1).f0).toList) == t487.toList && ((((rd_T30 l1 x19_1).f1).toList) == t488.toList)) = true then (if x7_1.length < 8796093022208 then (size_Text.l0 k1 l0 (x7_1 ++ [t486]) l1 (l1.length : Int) (wrap64 (x19_1 + 1))) else (none)) else (if ((rd_T30 l1 x19_1).f1).toList = ([49] : List UInt8) then ((whole_Sign.f ((rd_T30 l1 x19_1).f0)).bind fun t492 => (size_Text.j1 k1 l0 x7_1 t486 l1 (l1.length : Int) x19_1 (decide (t492 > 0)) ((rd_T30 l1 x19_1).f0) ((rd_T30 l1 x19_1).f1))) else (size_Text.j1 k1 l0 x7_1 t486 l1 (l1.length : Int) x19_1 false ((rd_T30 l1 x19_1).f0) ((rd_T30 l1 x19_1).f1)))) = some (r1, r2) := H
         have A16 := Aside0.mk A160
         clear A160
         by_cases c17 : ((((rd_T30 l1 x19_1).f0).toList) == t487.toList && ((((rd_T30 l1 x19_1).f1).toList) == t488.toList)) = true
         ·rw [if_pos c17] at H
          have c17b0 : ((((rd_T30 l1 x19_1).f0).toList) == t487.toList && ((((rd_T30 l1 x19_1).f1).toList) == t488.toList)) = true := c17
          (try (have c17b1 : decide ((((rd_T30 l1 x19_1).f0).toList) = t487.toList && ((((rd_T30 l1 x19_1).f1).toList) == t488.toList)) = true := by simpa using c17))
          (try (have c17b2 : ((((rd_T30 l1 x19_1).f0).toList) == t487.toList && ((((rd_T30 l1 x19_1).f1).toList) == t488.toList)) = true := by simpa using c17))
          clear c17
          by_cases c18 : x7_1.length < 8796093022208
          ·rw [if_pos c18] at H
           have LMc18 := Aside0.mk c18
           clear c18
           obtain ⟨y489, hy489⟩ : ∃ y_ : List ByteArray, y_ = (x7_1 ++ [t486]) := ⟨_, rfl⟩
           replace H : (size_Text.l0 k1 l0 y489 l1 (l1.length : Int) (wrap64 (x19_1 + 1))) = some (r1, r2) := by first | (rw [hy489]; with_reducible exact H) | (have H2_ := (Option.bind_some _ _).symm.trans H; rw [hy489]; with_reducible exact H2_) | (have H2_ := (Option.bind_some _ _).symm.trans H; with_reducible exact H2_) | with_reducible exact H | (rw [hy489]; exact H) | exact H
           have Ny489 := Aside0.mk hy489
           clear hy489
           have H' := Aside0.mk H
           clear H
           have p483 : 0 ≤ (x19_1 : Int) := of_decide_eq_true (by first | (with_reducible assumption) | assumption)
           have q483 : x19_1 < (l1.length : Int) := of_decide_eq_true (by first | (with_reducible assumption) | assumption)
           obtain ⟨ad483, e483, hx483_0, hx483_1⟩ := at_T30 HR1.out x19_1 p483 q483
           cases e483
           replace hx483_0 := (HB.out.cell (World.block_lt_of_cell? w _ hx483_0)).trans hx483_0
           replace hx483_1 := (HB.out.cell (World.block_lt_of_cell? w _ hx483_1)).trans hx483_1
           replace p483 := eq_true p483
           replace q483 := eq_true q483
           try go_wp2_with (first | ((with_reducible refine gate_dst (N := 9) rfl ?_); refine boxM (N := 9) #[.string (⟨#[]⟩ : ByteArray), .string (⟨#[]⟩ : ByteArray)] 30 ?_; intro gb484 hg w19 hbox hb; replace HO_7 := Aside0.mk (Kd.R_below (kr HO_7) hb); have BK484 := Aside0.mk (hbox); have GW484 := Aside0.mk ((by rw [hg]; exact (below_size (bl HB)) : w.heap.size ≤ gb484)); have GE484 := Aside0.mk ((by rw [hg]; exact (below_size (bl HB)) : w.heap.size ≤ gb484)); replace HB := Aside0.mk (below_step (bl HB) hb); clear hb hbox hg; have hcz20_0 : w19.cell? ⟨gb484, 0, none⟩ = some (.string (⟨#[]⟩ : ByteArray)) := (blk_cell BK484.out 0).trans rfl; have hcz20_1 : w19.cell? ⟨gb484, 1, none⟩ = some (.string (⟨#[]⟩ : ByteArray)) := (blk_cell BK484.out 1).trans rfl; have hfz20_0 := blk_frozen BK484.out 0; have hfz20_1 := blk_frozen BK484.out 1; have p485 : 0 ≤ (x19_1 : Int) := of_decide_eq_true (by first | (with_reducible assumption) | assumption); have q485 : x19_1 < (l0.length : Int) := of_decide_eq_true (by first | (with_reducible assumption) | assumption); obtain ⟨ad485, e485, hx485_0⟩ := Kd.at_int HR0.out x19_1 p485 q485; cases e485; have hn485_0 : ad485.block ≠ gb484 := Nat.ne_of_lt (Nat.lt_of_lt_of_le (by have := World.block_lt_of_cell? _ _ hx485_0; first | rwa [add_block] at this | exact this) GW484.out); have hn485_1 : ad485.block ≠ gb484 := Nat.ne_of_lt (Nat.lt_of_lt_of_le (by have := World.block_lt_of_cell? _ _ hx485_0; first | rwa [add_block] at this | exact this) GW484.out); replace hx485_0 := (HB.out.cell (World.block_lt_of_cell? w _ hx485_0)).trans hx485_0; replace hx485_0 := (cell_far (p := ⟨gb484, 0, none⟩) (by first | (rw [add_block]; exact hn485_0) | (show (Addr.add _ _).block ≠ _; rw [add_block]; exact hn485_0) | exact hn485_0) (.string ((rd_T30 l1 x19_1).f0))).trans hx485_0; replace hx485_0 := (cell_far (p := ⟨gb484, 1, none⟩) (by first | (rw [add_block]; exact hn485_1) | (show (Addr.add _ _).block ≠ _; rw [add_block]; exact hn485_1) | exact hn485_1) (.string ((rd_T30 l1 x19_1).f1))).trans hx485_0; clear hn485_0; clear hn485_1; replace p485 := eq_true p485; replace q485 := eq_true q485) | ((with_reducible refine gate_callee (f := 89) rfl ?_); refine goesM (some 28) Tryz.func89 #[.int .i64 (rd l0 x19_1)] ?_; (with_reducible refine (goItoa.calls (rd l0 x19_1) t486 _ ?side1 A10.out).mono ?_); (case side1 => exact Glob.below HG0.out (bl HB)); rintro e w21 ⟨rfl, hb⟩; refine ⟨_, rfl, ?_⟩; replace HO_7 := Aside0.mk (Kd.R_below (by (with_reducible repeat (first | apply Kd.R_alloc | apply Kd.R_drewN | apply Kd.R_drew)); exact (Kd.R_mono (Kd.R_far (p := ⟨gb484, 1, none⟩) (Kd.R_far (p := ⟨gb484, 0, none⟩) (Kd.R_types HO_7.out BK484.out (by decide)) (fun _ hk => hk.2) (.string ((rd_T30 l1 x19_1).f0))) (fun _ hk => hk.2) (.string ((rd_T30 l1 x19_1).f1))) (fun _ h_ => h_.1))) hb); replace BK484 := Aside0.mk (blk_below (g := gb484) (o := .cells #[.string ((rd_T30 l1 x19_1).f0), .string ((rd_T30 l1 x19_1).f1)] 30 (0, 0)) (by (with_reducible repeat (first | refine blk_drewN ?_ _ | refine blk_drew ?_ | refine blk_alloc ?_ _)); refine blk_put (cs := #[.string ((rd_T30 l1 x19_1).f0), .string (⟨#[]⟩ : ByteArray)]) ?_ 1 _ rfl; (with_reducible repeat (first | refine blk_drewN ?_ _ | refine blk_drew ?_ | refine blk_alloc ?_ _)); refine blk_put (cs := #[.string (⟨#[]⟩ : ByteArray), .string (⟨#[]⟩ : ByteArray)]) ?_ 0 _ rfl; (with_reducible repeat (first | refine blk_drewN ?_ _ | refine blk_drew ?_ | refine blk_alloc ?_ _)); exact BK484.out) hb); replace HB := Aside0.mk (below_step (bl HB) hb); (try clear hb); (try clear hb2); (try clear hk); (try clear hi); have hcz22_0 : w21.cell? ⟨gb484, 0, none⟩ = some (.string ((rd_T30 l1 x19_1).f0)) := (blk_cell BK484.out 0).trans rfl; have hcz22_1 : w21.cell? ⟨gb484, 1, none⟩ = some (.string ((rd_T30 l1 x19_1).f1)) := (blk_cell BK484.out 1).trans rfl; have hfz22_0 := blk_frozen BK484.out 0; have hfz22_1 := blk_frozen BK484.out 1))
           replace HO_7 := Aside0.mk (Kd.R_drew HO_7.out)
           replace BK484 := Aside0.mk (blk_drew BK484.out)
           replace HB := Aside0.mk (below_drew1 HB.out)
           refine start_ (n := 4) (S := fun w' => w'.cell? ⟨gb484, 0, none⟩ = some (.string ((rd_T30 l1 x19_1).f0)) ∧ w'.cell? ⟨gb484, 1, none⟩ = some (.string ((rd_T30 l1 x19_1).f1))) (ds := []) #[false, false, false, false] (by kernel_rfl) rfl rfl ⟨(blk_cell BK484.out 0).trans rfl, (blk_cell BK484.out 1).trans rfl⟩ (fun hHeld => ?_)
           generalize w21.drew = w23 at HO_7 BK484 HB hHeld ⊢
           refine take_ (i := 0) (N := some 40) (v := ?_) (a' := ?_) #[true, false, false, false] rfl rfl (by kernel_rfl) (fun _ _ _ h => h) (Or.inl ⟨by rfl, ?_⟩) hHeld ?_ ?_
           rotate_left
           ·rintro w' ⟨s0, s1⟩
            go_simp
            with_reducible rfl
           rotate_left
           ·simp only [Act.put, List.setIfInBounds_toArray, List.set_cons_zero, List.set_cons_succ, i64_w, i32_w]
            rfl
           refine one_ (i := 1) (N := some 41) #[true, true, false, false] rfl rfl (by kernel_rfl) (by decide) (fun K hK => ?_)
           refine goesR Tryz.func65 #[.int .i64 1] ?_
           with_reducible refine (size_number.calls 1 t487 t488 _ ?side1 A16.out).mono ?_
           (case side1 => exact Glob.below HG0.out (bl HB))
           rintro e w24 ⟨rfl, hb⟩
           refine ⟨_, rfl, ?_⟩
           replace HO_7 := Aside0.mk (Kd.R_below (kr HO_7) hb)
           replace BK484 := Aside0.mk (blk_below (g := gb484) (o := .cells #[.string ((rd_T30 l1 x19_1).f0), .string ((rd_T30 l1 x19_1).f1)] 30 (0, 0)) (bk BK484) hb)
           replace HB := Aside0.mk (below_step (bl HB) hb)
           (try clear hb)
           (try clear hb2)
           (try clear hk)
           (try clear hi)
           refine hK.out _ _ ⟨(blk_cell BK484.out 0).trans rfl, (blk_cell BK484.out 1).trans rfl⟩ (fun hHeld => ?_)
           clear hK K
           refine norm_ (a' := ?_) ?_ ?_
           rotate_left
           ·show Act.put _ (some 41) _ = _
            simp only [Act.put, List.setIfInBounds_toArray, List.set_cons_zero, List.set_cons_succ, i64_w, i32_w]
            rfl
           refine pure_ (i := 2) (N := some 42) (v := ?_) (a' := ?_) #[true, true, true, false] rfl rfl (by kernel_rfl) (fun _ _ _ h => h) (Or.inl ⟨by rfl, ?_⟩) ?_ ?_
           rotate_left
           ·intro w'
            go_simp
            with_reducible rfl
           rotate_left
           ·simp only [Act.put, List.setIfInBounds_toArray, List.set_cons_zero, List.set_cons_succ, i64_w, i32_w]
            rfl
           refine pure_ (i := 3) (N := some 39) (v := ?_) (a' := ?_) #[true, true, true, true] rfl rfl (by kernel_rfl) (fun _ _ _ h => h) (Or.inl ⟨by rfl, ?_⟩) ?_ ?_
           rotate_left
           ·intro w'
            go_simp
            with_reducible rfl
           rotate_left
           ·simp only [Act.put, List.setIfInBounds_toArray, List.set_cons_zero, List.set_cons_succ, i64_w, i32_w]
            rfl
           refine done_ (by kernel_rfl) ?_
           try go_wp2_with (first | ((with_reducible refine gate_builtin (b := .append) (xs := #[.tmp 58, .tmp 60]) rfl ?_); at_builtin; refine Kd.R_append Kd.string (w0 := w) w.heap.size rfl (.tmp 58) (.tmp 60) 127 9 (.string ⟨#[]⟩) 16 rfl Tryz.underlying127 info9 rfl (by decide) (by omega) u7 x7_1 t486 [.string t486] (fun _ => True) (fun _ => False) rfl rfl ?aP (fun _ hk => hk.elim) ?aF ?aO ?aB ?aS ?aL ?_; (case aP => exact rfl); (case aB => exact (bl HB)); (case aF => exact (fun _ _ => trivial)); (case aO => exact (kr HO_7)); (case aS => exact (below_size (bl HB))); (case aL => have := LMc18.out; omega); intro v490 w25 ho hb hg hat; rw [← Ny489.out] at ho; have n0_ := Aside0.mk (blk_grown (g := gb484) (o := .cells #[.string ((rd_T30 l1 x19_1).f0), .string ((rd_T30 l1 x19_1).f1)] 30 (0, 0)) (bk BK484) hg (Kd.R_ne HO_7.out BK484.out (by decide))); have n1_ := Aside0.mk (hb); have n2_ := Aside0.mk (ho); clear BK484; clear HB; clear HO_7; have BK484 := n0_; have HB := n1_; have HO491 := n2_; clear n0_ n1_ n2_; clear ho hb hg hat))
           go_roundg k1
           case measure => have := HK1.out; omega
           case rel => exact ⟨(y489), (wrap64 (x19_1 + 1)), rs, H', ⟨by have := HK1.out; omega⟩, ⟨kr HO491⟩, ⟨bl HB⟩⟩
          ·rw [if_neg c18] at H
           exact absurd H (by simp)
         ·rw [if_neg c17] at H
          have c17b0 : ((((rd_T30 l1 x19_1).f0).toList) == t487.toList && ((((rd_T30 l1 x19_1).f1).toList) == t488.toList)) = false := by simpa using c17
          (try (have c17b1 : decide ((((rd_T30 l1 x19_1).f0).toList) = t487.toList && ((((rd_T30 l1 x19_1).f1).toList) == t488.toList)) = false := by simpa using c17))
          (try (have c17b2 : ((((rd_T30 l1 x19_1).f0).toList) == t487.toList && ((((rd_T30 l1 x19_1).f1).toList) == t488.toList)) = false := by simpa using c17))
          (try (have c17b3 : ¬ ((((rd_T30 l1 x19_1).f0).toList) = t487.toList && ((((rd_T30 l1 x19_1).f1).toList) == t488.toList)) := by simpa using c17))
          clear c17
          have HC26 := Aside0.mk H
          clear H
          have p483 : 0 ≤ (x19_1 : Int) := of_decide_eq_true (by first | (with_reducible assumption) | assumption)
          have q483 : x19_1 < (l1.length : Int) := of_decide_eq_true (by first | (with_reducible assumption) | assumption)
          obtain ⟨ad483, e483, hx483_0, hx483_1⟩ := at_T30 HR1.out x19_1 p483 q483
          cases e483
          replace hx483_0 := (HB.out.cell (World.block_lt_of_cell? w _ hx483_0)).trans hx483_0
          replace hx483_1 := (HB.out.cell (World.block_lt_of_cell? w _ hx483_1)).trans hx483_1
          replace p483 := eq_true p483
          replace q483 := eq_true q483
          try go_wp2_with (first | ((with_reducible refine gate_dst (N := 9) rfl ?_); refine boxM (N := 9) #[.string (⟨#[]⟩ : ByteArray), .string (⟨#[]⟩ : ByteArray)] 30 ?_; intro gb484 hg w27 hbox hb; replace HO_7 := Aside0.mk (Kd.R_below (kr HO_7) hb); have BK484 := Aside0.mk (hbox); have GW484 := Aside0.mk ((by rw [hg]; exact (below_size (bl HB)) : w.heap.size ≤ gb484)); have GE484 := Aside0.mk ((by rw [hg]; exact (below_size (bl HB)) : w.heap.size ≤ gb484)); replace HB := Aside0.mk (below_step (bl HB) hb); clear hb hbox hg; have hcz28_0 : w27.cell? ⟨gb484, 0, none⟩ = some (.string (⟨#[]⟩ : ByteArray)) := (blk_cell BK484.out 0).trans rfl; have hcz28_1 : w27.cell? ⟨gb484, 1, none⟩ = some (.string (⟨#[]⟩ : ByteArray)) := (blk_cell BK484.out 1).trans rfl; have hfz28_0 := blk_frozen BK484.out 0; have hfz28_1 := blk_frozen BK484.out 1; have p485 : 0 ≤ (x19_1 : Int) := of_decide_eq_true (by first | (with_reducible assumption) | assumption); have q485 : x19_1 < (l0.length : Int) := of_decide_eq_true (by first | (with_reducible assumption) | assumption); obtain ⟨ad485, e485, hx485_0⟩ := Kd.at_int HR0.out x19_1 p485 q485; cases e485; have hn485_0 : ad485.block ≠ gb484 := Nat.ne_of_lt (Nat.lt_of_lt_of_le (by have := World.block_lt_of_cell? _ _ hx485_0; first | rwa [add_block] at this | exact this) GW484.out); have hn485_1 : ad485.block ≠ gb484 := Nat.ne_of_lt (Nat.lt_of_lt_of_le (by have := World.block_lt_of_cell? _ _ hx485_0; first | rwa [add_block] at this | exact this) GW484.out); replace hx485_0 := (HB.out.cell (World.block_lt_of_cell? w _ hx485_0)).trans hx485_0; replace hx485_0 := (cell_far (p := ⟨gb484, 0, none⟩) (by first | (rw [add_block]; exact hn485_0) | (show (Addr.add _ _).block ≠ _; rw [add_block]; exact hn485_0) | exact hn485_0) (.string ((rd_T30 l1 x19_1).f0))).trans hx485_0; replace hx485_0 := (cell_far (p := ⟨gb484, 1, none⟩) (by first | (rw [add_block]; exact hn485_1) | (show (Addr.add _ _).block ≠ _; rw [add_block]; exact hn485_1) | exact hn485_1) (.string ((rd_T30 l1 x19_1).f1))).trans hx485_0; clear hn485_0; clear hn485_1; replace p485 := eq_true p485; replace q485 := eq_true q485) | ((with_reducible refine gate_callee (f := 89) rfl ?_); refine goesM (some 28) Tryz.func89 #[.int .i64 (rd l0 x19_1)] ?_; (with_reducible refine (goItoa.calls (rd l0 x19_1) t486 _ ?side1 A10.out).mono ?_); (case side1 => exact Glob.below HG0.out (bl HB)); rintro e w29 ⟨rfl, hb⟩; refine ⟨_, rfl, ?_⟩; replace HO_7 := Aside0.mk (Kd.R_below (by (with_reducible repeat (first | apply Kd.R_alloc | apply Kd.R_drewN | apply Kd.R_drew)); exact (Kd.R_mono (Kd.R_far (p := ⟨gb484, 1, none⟩) (Kd.R_far (p := ⟨gb484, 0, none⟩) (Kd.R_types HO_7.out BK484.out (by decide)) (fun _ hk => hk.2) (.string ((rd_T30 l1 x19_1).f0))) (fun _ hk => hk.2) (.string ((rd_T30 l1 x19_1).f1))) (fun _ h_ => h_.1))) hb); replace BK484 := Aside0.mk (blk_below (g := gb484) (o := .cells #[.string ((rd_T30 l1 x19_1).f0), .string ((rd_T30 l1 x19_1).f1)] 30 (0, 0)) (by (with_reducible repeat (first | refine blk_drewN ?_ _ | refine blk_drew ?_ | refine blk_alloc ?_ _)); refine blk_put (cs := #[.string ((rd_T30 l1 x19_1).f0), .string (⟨#[]⟩ : ByteArray)]) ?_ 1 _ rfl; (with_reducible repeat (first | refine blk_drewN ?_ _ | refine blk_drew ?_ | refine blk_alloc ?_ _)); refine blk_put (cs := #[.string (⟨#[]⟩ : ByteArray), .string (⟨#[]⟩ : ByteArray)]) ?_ 0 _ rfl; (with_reducible repeat (first | refine blk_drewN ?_ _ | refine blk_drew ?_ | refine blk_alloc ?_ _)); exact BK484.out) hb); replace HB := Aside0.mk (below_step (bl HB) hb); (try clear hb); (try clear hb2); (try clear hk); (try clear hi); have hcz30_0 : w29.cell? ⟨gb484, 0, none⟩ = some (.string ((rd_T30 l1 x19_1).f0)) := (blk_cell BK484.out 0).trans rfl; have hcz30_1 : w29.cell? ⟨gb484, 1, none⟩ = some (.string ((rd_T30 l1 x19_1).f1)) := (blk_cell BK484.out 1).trans rfl; have hfz30_0 := blk_frozen BK484.out 0; have hfz30_1 := blk_frozen BK484.out 1))
          replace HO_7 := Aside0.mk (Kd.R_drew HO_7.out)
          replace BK484 := Aside0.mk (blk_drew BK484.out)
          replace HB := Aside0.mk (below_drew1 HB.out)
          refine start_ (n := 4) (S := fun w' => w'.cell? ⟨gb484, 0, none⟩ = some (.string ((rd_T30 l1 x19_1).f0)) ∧ w'.cell? ⟨gb484, 1, none⟩ = some (.string ((rd_T30 l1 x19_1).f1))) (ds := []) #[false, false, false, false] (by kernel_rfl) rfl rfl ⟨(blk_cell BK484.out 0).trans rfl, (blk_cell BK484.out 1).trans rfl⟩ (fun hHeld => ?_)
          generalize w29.drew = w31 at HO_7 BK484 HB hHeld ⊢
          refine take_ (i := 0) (N := some 40) (v := ?_) (a' := ?_) #[true, false, false, false] rfl rfl (by kernel_rfl) (fun _ _ _ h => h) (Or.inl ⟨by rfl, ?_⟩) hHeld ?_ ?_
          rotate_left
          ·rintro w' ⟨s0, s1⟩
           go_simp
           with_reducible rfl
          rotate_left
          ·simp only [Act.put, List.setIfInBounds_toArray, List.set_cons_zero, List.set_cons_succ, i64_w, i32_w]
           rfl
          refine one_ (i := 1) (N := some 41) #[true, true, false, false] rfl rfl (by kernel_rfl) (by decide) (fun K hK => ?_)
          refine goesR Tryz.func65 #[.int .i64 1] ?_
          with_reducible refine (size_number.calls 1 t487 t488 _ ?side1 A16.out).mono ?_
          (case side1 => exact Glob.below HG0.out (bl HB))
          rintro e w32 ⟨rfl, hb⟩
          refine ⟨_, rfl, ?_⟩
          replace HO_7 := Aside0.mk (Kd.R_below (kr HO_7) hb)
          replace BK484 := Aside0.mk (blk_below (g := gb484) (o := .cells #[.string ((rd_T30 l1 x19_1).f0), .string ((rd_T30 l1 x19_1).f1)] 30 (0, 0)) (bk BK484) hb)
          replace HB := Aside0.mk (below_step (bl HB) hb)
          (try clear hb)
          (try clear hb2)
          (try clear hk)
          (try clear hi)
          refine hK.out _ _ ⟨(blk_cell BK484.out 0).trans rfl, (blk_cell BK484.out 1).trans rfl⟩ (fun hHeld => ?_)
          clear hK K
          refine norm_ (a' := ?_) ?_ ?_
          rotate_left
          ·show Act.put _ (some 41) _ = _
           simp only [Act.put, List.setIfInBounds_toArray, List.set_cons_zero, List.set_cons_succ, i64_w, i32_w]
           rfl
          refine pure_ (i := 2) (N := some 42) (v := ?_) (a' := ?_) #[true, true, true, false] rfl rfl (by kernel_rfl) (fun _ _ _ h => h) (Or.inl ⟨by rfl, ?_⟩) ?_ ?_
          rotate_left
          ·intro w'
           go_simp
           with_reducible rfl
          rotate_left
          ·simp only [Act.put, List.setIfInBounds_toArray, List.set_cons_zero, List.set_cons_succ, i64_w, i32_w]
           rfl
          refine pure_ (i := 3) (N := some 39) (v := ?_) (a' := ?_) #[true, true, true, true] rfl rfl (by kernel_rfl) (fun _ _ _ h => h) (Or.inl ⟨by rfl, ?_⟩) ?_ ?_
          rotate_left
          ·intro w'
           go_simp
           with_reducible rfl
          rotate_left
          ·simp only [Act.put, List.setIfInBounds_toArray, List.set_cons_zero, List.set_cons_succ, i64_w, i32_w]
           rfl
          refine done_ (by kernel_rfl) ?_
          go_upto_region 12 with (fail)
          go_cut [43] (fun v43 wc => ∃ (kq : Nat) (x43_25 : Bool), v43 = .bool x43_25 ∧ Aside0 (size_Text.j1 kq l0 x7_1 t486 l1 (l1.length : Int) x19_1 x43_25 ((rd_T30 l1 x19_1).f0) ((rd_T30 l1 x19_1).f1) = some (r1, r2)) ∧ Aside0 (kq ≤ k1) ∧ Aside0 (Kd.R Kd.string 9 wc w.heap.size (fun _ => True) u7 x7_1) ∧ Aside0 (wc.heap[gb484]? = some (.cells #[.string ((rd_T30 l1 x19_1).f0), .string ((rd_T30 l1 x19_1).f1)] 30 (0, 0))) ∧ Aside0 (Below w.heap.size w wc))
          case first =>
           have H := HC26.out
           clear HC26
           by_cases c33 : ((rd_T30 l1 x19_1).f1).toList = ([49] : List UInt8)
           ·rw [if_pos c33] at H
            have c33b0 : (((rd_T30 l1 x19_1).f1).toList == ([49] : List UInt8)) = true := beq_iff_eq.mpr c33
            have c33b1 : (((rd_T30 l1 x19_1).f1).toList != ([49] : List UInt8)) = false := bne_eq_false_iff_eq.mpr c33
            clear c33
            (first | rw [c33b0] | (simp only [i64_w, i32_w]; rw [c33b0]) | skip)
            replace H := Option.bind_eq_some_iff.mp H
            obtain ⟨t492, A340, H⟩ := H
            replace H : (size_Text.j1 k1 l0 x7_1 t486 l1 (l1.length : Int) x19_1 (decide (t492 > 0)) ((rd_T30 l1 x19_1).f0) ((rd_T30 l1 x19_1).f1)) = some (r1, r2) := H
            have A34 := Aside0.mk A340
            clear A340
            have H' := Aside0.mk H
            clear H
            have hcz35_0 : w32.cell? ⟨gb484, 0, none⟩ = some (.string ((rd_T30 l1 x19_1).f0)) := (blk_cell BK484.out 0).trans rfl
            have hcz35_1 : w32.cell? ⟨gb484, 1, none⟩ = some (.string ((rd_T30 l1 x19_1).f1)) := (blk_cell BK484.out 1).trans rfl
            have hfz35_0 := blk_frozen BK484.out 0
            have hfz35_1 := blk_frozen BK484.out 1
            go_wp2_with (first | (go_at_call 54; (with_reducible refine (whole_Sign.calls ((rd_T30 l1 x19_1).f0) t492 _ A34.out).mono ?_); rintro e w' ⟨rfl, ⟨nd, rfl⟩⟩))
            go_meet
            case rel => exact ⟨_, (decide (t492 > 0)), rs, H', ⟨by have := HK1.out; first | omega | exact Nat.le_refl _⟩, ⟨kr HO_7⟩, ⟨bk BK484⟩, ⟨bl HB⟩⟩
           ·rw [if_neg c33] at H
            have c33b0 : (((rd_T30 l1 x19_1).f1).toList == ([49] : List UInt8)) = false := beq_eq_false_iff_ne.mpr c33
            have c33b1 : (((rd_T30 l1 x19_1).f1).toList != ([49] : List UInt8)) = true := bne_iff_ne.mpr c33
            (first | rw [c33b0] | (simp only [i64_w, i32_w]; rw [c33b0]) | skip)
            have H' := Aside0.mk H
            clear H
            have hcz36_0 : w32.cell? ⟨gb484, 0, none⟩ = some (.string ((rd_T30 l1 x19_1).f0)) := (blk_cell BK484.out 0).trans rfl
            have hcz36_1 : w32.cell? ⟨gb484, 1, none⟩ = some (.string ((rd_T30 l1 x19_1).f1)) := (blk_cell BK484.out 1).trans rfl
            have hfz36_0 := blk_frozen BK484.out 0
            have hfz36_1 := blk_frozen BK484.out 1
            go_wp2
            go_meet
            case rel => exact ⟨_, (false), rs, H', ⟨by have := HK1.out; first | omega | exact Nat.le_refl _⟩, ⟨kr HO_7⟩, ⟨bk BK484⟩, ⟨bl HB⟩⟩
          case rest =>
           clear HC26
           try clear c1
           try clear p2
           try clear c3
           try clear c4
           try clear c4b0
           try clear c4b1
           try clear p4
           try clear q4
           try clear hx4
           try clear c5
           try clear c6
           try clear c6b0
           try clear p6
           try clear c7
           try clear c7b0
           try clear c8
           try clear c8b0
           try clear c9
           try clear c9b0
           try clear c11
           try clear c11b0
           try clear c11b1
           try clear c17
           try clear c17b0
           try clear c17b1
           try clear c17b2
           try clear c18
           try clear c33
           try clear c33b0
           try clear c33b1
           try clear hcz13_0
           try clear hcz13_1
           try clear hcz15_0
           try clear hcz15_1
           try clear hcz20_0
           try clear hcz20_1
           try clear hcz22_0
           try clear hcz22_1
           try clear hcz28_0
           try clear hcz28_1
           try clear hcz30_0
           try clear hcz30_1
           try clear hcz35_0
           try clear hcz35_1
           try clear hcz36_0
           try clear hcz36_1
           try clear hfz13_0
           try clear hfz13_1
           try clear hfz15_0
           try clear hfz15_1
           try clear hfz20_0
           try clear hfz20_1
           try clear hfz22_0
           try clear hfz22_1
           try clear hfz28_0
           try clear hfz28_1
           try clear hfz30_0
           try clear hfz30_1
           try clear hfz35_0
           try clear hfz35_1
           try clear hfz36_0
           try clear hfz36_1
           try clear hx483_0
           try clear hx483_1
           try clear hx485_0
           try clear p2
           try clear p483
           try clear p485
           try clear q483
           try clear q485
           obtain ⟨kq, x43_25, rfl, HA, HJ25, HO_7, BK484, HB⟩ := hcut
           cases kq with
           | zero => exact absurd HA.out (by simp [size_Text.j1])
           | succ kj25 =>
            have H := HA.out
            clear HA
            simp only [size_Text.j1] at H
            by_cases c37 : x43_25 = true
            ·subst c37
             have H1 : ((fraction_Text.f ((rd_T30 l1 x19_1).f0) ((rd_T30 l1 x19_1).f1)).bind fun t493 => (if 1 + t493.size ≤ 9223372036854775807 then (if t486.size + ((⟨#[94]⟩ : ByteArray) ++ t493).size ≤ 9223372036854775807 then (if x7_1.length < 8796093022208 then (size_Text.l0 kj25 l0 (x7_1 ++ [t486 ++ ((⟨#[94]⟩ : ByteArray) ++ t493)]) l1 (l1.length : Int) (wrap64 (x19_1 + 1))) else (none)) else (none)) else (none))) = some (r1, r2) := by rw [if_pos rfl] at H; exact H
             clear H
             have H := H1
             clear H1
             replace H := Option.bind_eq_some_iff.mp H
             obtain ⟨t493, A380, H⟩ := H
             replace H : (if 1 + t493.size ≤ 9223372036854775807 then (if t486.size + ((⟨#[94]⟩ : ByteArray) ++ t493).size ≤ 9223372036854775807 then (if x7_1.length < 8796093022208 then (size_Text.l0 kj25 l0 (x7_1 ++ [t486 ++ ((⟨#[94]⟩ : ByteArray) ++ t493)]) l1 (l1.length : Int) (wrap64 (x19_1 + 1))) else (none)) else (none)) else (none)) = some (r1, r2) := H
             have A38 := Aside0.mk A380
             clear A380
             by_cases c39 : 1 + t493.size ≤ 9223372036854775807
             ·rw [if_pos c39] at H
              have c39b0 := eq_true c39
              have c39b1 : decide (1 + t493.size ≤ 9223372036854775807) = true := decide_eq_true c39
              try have c39b2 : (9223372036854775807 < 1 + t493.size) = False := eq_false (Nat.not_lt.2 c39)
              by_cases c40 : t486.size + ((⟨#[94]⟩ : ByteArray) ++ t493).size ≤ 9223372036854775807
              ·rw [if_pos c40] at H
               have c40b0 := eq_true c40
               have c40b1 : decide (t486.size + ((⟨#[94]⟩ : ByteArray) ++ t493).size ≤ 9223372036854775807) = true := decide_eq_true c40
               try have c40b2 : (9223372036854775807 < t486.size + ((⟨#[94]⟩ : ByteArray) ++ t493).size) = False := eq_false (Nat.not_lt.2 c40)
               (try have c40b3 : (9223372036854775807 < t486.size + (1 + t493.size)) = False := by have h_ := of_eq_true c40b0; simp only [ByteArray.size_append] at h_; exact eq_false (Nat.not_lt.2 h_))
               by_cases c41 : x7_1.length < 8796093022208
               ·rw [if_pos c41] at H
                have LMc41 := Aside0.mk c41
                clear c41
                obtain ⟨y494, hy494⟩ : ∃ y_ : List ByteArray, y_ = (x7_1 ++ [t486 ++ ((⟨#[94]⟩ : ByteArray) ++ t493)]) := ⟨_, rfl⟩
                replace H : (size_Text.l0 kj25 l0 y494 l1 (l1.length : Int) (wrap64 (x19_1 + 1))) = some (r1, r2) := by first | (rw [hy494]; with_reducible exact H) | (have H2_ := (Option.bind_some _ _).symm.trans H; rw [hy494]; with_reducible exact H2_) | (have H2_ := (Option.bind_some _ _).symm.trans H; with_reducible exact H2_) | with_reducible exact H | (rw [hy494]; exact H) | exact H
                have Ny494 := Aside0.mk hy494
                clear hy494
                have H' := Aside0.mk H
                clear H
                have hcz42_0 : wc.cell? ⟨gb484, 0, none⟩ = some (.string ((rd_T30 l1 x19_1).f0)) := (blk_cell BK484.out 0).trans rfl
                have hcz42_1 : wc.cell? ⟨gb484, 1, none⟩ = some (.string ((rd_T30 l1 x19_1).f1)) := (blk_cell BK484.out 1).trans rfl
                have hfz42_0 := blk_frozen BK484.out 0
                have hfz42_1 := blk_frozen BK484.out 1
                go_wp2_with (first | ((with_reducible refine gate_callee (f := 90) rfl ?_); refine goesM (some 55) Tryz.func90 #[.agg #[.string ((rd_T30 l1 x19_1).f0), .string ((rd_T30 l1 x19_1).f1)]] ?_; (with_reducible refine (fraction_Text.calls ((rd_T30 l1 x19_1).f0) ((rd_T30 l1 x19_1).f1) t493 _ A38.out).mono ?_); rintro e w43 ⟨rfl, hb⟩; refine ⟨_, rfl, ?_⟩; replace HO_7 := Aside0.mk (Kd.R_below (kr HO_7) hb); replace BK484 := Aside0.mk (blk_below (g := gb484) (o := .cells #[.string ((rd_T30 l1 x19_1).f0), .string ((rd_T30 l1 x19_1).f1)] 30 (0, 0)) (bk BK484) hb); replace HB := Aside0.mk (below_step (bl HB) hb); (try clear hb); (try clear hb2); (try clear hk); (try clear hi)) | ((with_reducible refine gate_builtin (b := .append) (xs := #[.tmp 58, .tmp 60]) rfl ?_); at_builtin; refine Kd.R_append Kd.string (w0 := w) w.heap.size rfl (.tmp 58) (.tmp 60) 127 9 (.string ⟨#[]⟩) 16 rfl Tryz.underlying127 info9 rfl (by decide) (by omega) u7 x7_1 (t486 ++ ((⟨#[94]⟩ : ByteArray) ++ t493)) [.string (t486 ++ ((⟨#[94]⟩ : ByteArray) ++ t493))] (fun _ => True) (fun _ => False) rfl rfl ?aP (fun _ hk => hk.elim) ?aF ?aO ?aB ?aS ?aL ?_; (case aP => exact rfl); (case aB => exact (bl HB)); (case aF => exact (fun _ _ => trivial)); (case aO => exact (kr HO_7)); (case aS => exact (below_size (bl HB))); (case aL => have := LMc41.out; omega); intro v495 w44 ho hb hg hat; rw [← Ny494.out] at ho; have n0_ := Aside0.mk (blk_grown (g := gb484) (o := .cells #[.string ((rd_T30 l1 x19_1).f0), .string ((rd_T30 l1 x19_1).f1)] 30 (0, 0)) (bk BK484) hg (Kd.R_ne HO_7.out BK484.out (by decide))); have n1_ := Aside0.mk (hb); have n2_ := Aside0.mk (ho); clear BK484; clear HB; clear HO_7; have BK484 := n0_; have HB := n1_; have HO496 := n2_; clear n0_ n1_ n2_; clear ho hb hg hat))
                go_roundg kj25
                case measure => have := HK1.out; have := HJ25.out; omega
                case rel => exact ⟨(y494), (wrap64 (x19_1 + 1)), rs, H', ⟨by have := HK1.out; have := HJ25.out; omega⟩, ⟨kr HO496⟩, ⟨bl HB⟩⟩
               ·rw [if_neg c41] at H
                exact absurd H (by simp)
              ·rw [if_neg c40] at H
               exact absurd H (by simp)
             ·rw [if_neg c39] at H
              exact absurd H (by simp)
            ·replace c37 := Bool.eq_false_iff.mpr c37
             subst c37
             have H1 : ((fraction_Text.f ((rd_T30 l1 x19_1).f0) ((rd_T30 l1 x19_1).f1)).bind fun t497 => (if 2 + t497.size ≤ 9223372036854775807 then (if ((⟨#[94, 40]⟩ : ByteArray) ++ t497).size + 1 ≤ 9223372036854775807 then (if t486.size + (((⟨#[94, 40]⟩ : ByteArray) ++ t497) ++ (⟨#[41]⟩ : ByteArray)).size ≤ 9223372036854775807 then (if x7_1.length < 8796093022208 then (size_Text.l0 kj25 l0 (x7_1 ++ [t486 ++ (((⟨#[94, 40]⟩ : ByteArray) ++ t497) ++ (⟨#[41]⟩ : ByteArray))]) l1 (l1.length : Int) (wrap64 (x19_1 + 1))) else (none)) else (none)) else (none)) else (none))) = some (r1, r2) := by rw [if_neg (show ¬ (false = true) by decide)] at H; exact H
             clear H
             have H := H1
             clear H1
             replace H := Option.bind_eq_some_iff.mp H
             obtain ⟨t497, A450, H⟩ := H
             replace H : (if 2 + t497.size ≤ 9223372036854775807 then (if ((⟨#[94, 40]⟩ : ByteArray) ++ t497).size + 1 ≤ 9223372036854775807 then (if t486.size + (((⟨#[94, 40]⟩ : ByteArray) ++ t497) ++ (⟨#[41]⟩ : ByteArray)).size ≤ 9223372036854775807 then (if x7_1.length < 8796093022208 then (size_Text.l0 kj25 l0 (x7_1 ++ [t486 ++ (((⟨#[94, 40]⟩ : ByteArray) ++ t497) ++ (⟨#[41]⟩ : ByteArray))]) l1 (l1.length : Int) (wrap64 (x19_1 + 1))) else (none)) else (none)) else (none)) else (none)) = some (r1, r2) := H
             have A45 := Aside0.mk A450
             clear A450
             by_cases c46 : 2 + t497.size ≤ 9223372036854775807
             ·rw [if_pos c46] at H
              have c46b0 := eq_true c46
              have c46b1 : decide (2 + t497.size ≤ 9223372036854775807) = true := decide_eq_true c46
              try have c46b2 : (9223372036854775807 < 2 + t497.size) = False := eq_false (Nat.not_lt.2 c46)
              by_cases c47 : ((⟨#[94, 40]⟩ : ByteArray) ++ t497).size + 1 ≤ 9223372036854775807
              ·rw [if_pos c47] at H
               have c47b0 := eq_true c47
               have c47b1 : decide (((⟨#[94, 40]⟩ : ByteArray) ++ t497).size + 1 ≤ 9223372036854775807) = true := decide_eq_true c47
               try have c47b2 : (9223372036854775807 < ((⟨#[94, 40]⟩ : ByteArray) ++ t497).size + 1) = False := eq_false (Nat.not_lt.2 c47)
               (try have c47b3 : (9223372036854775807 < 2 + t497.size + 1) = False := by have h_ := of_eq_true c47b0; simp only [ByteArray.size_append] at h_; exact eq_false (Nat.not_lt.2 h_))
               by_cases c48 : t486.size + (((⟨#[94, 40]⟩ : ByteArray) ++ t497) ++ (⟨#[41]⟩ : ByteArray)).size ≤ 9223372036854775807
               ·rw [if_pos c48] at H
                have c48b0 := eq_true c48
                have c48b1 : decide (t486.size + (((⟨#[94, 40]⟩ : ByteArray) ++ t497) ++ (⟨#[41]⟩ : ByteArray)).size ≤ 9223372036854775807) = true := decide_eq_true c48
                try have c48b2 : (9223372036854775807 < t486.size + (((⟨#[94, 40]⟩ : ByteArray) ++ t497) ++ (⟨#[41]⟩ : ByteArray)).size) = False := eq_false (Nat.not_lt.2 c48)
                (try have c48b3 : (9223372036854775807 < t486.size + (2 + t497.size + 1)) = False := by have h_ := of_eq_true c48b0; simp only [ByteArray.size_append] at h_; exact eq_false (Nat.not_lt.2 h_))
                by_cases c49 : x7_1.length < 8796093022208
                ·rw [if_pos c49] at H
                 have LMc49 := Aside0.mk c49
                 clear c49
                 obtain ⟨y498, hy498⟩ : ∃ y_ : List ByteArray, y_ = (x7_1 ++ [t486 ++ (((⟨#[94, 40]⟩ : ByteArray) ++ t497) ++ (⟨#[41]⟩ : ByteArray))]) := ⟨_, rfl⟩
                 replace H : (size_Text.l0 kj25 l0 y498 l1 (l1.length : Int) (wrap64 (x19_1 + 1))) = some (r1, r2) := by first | (rw [hy498]; with_reducible exact H) | (have H2_ := (Option.bind_some _ _).symm.trans H; rw [hy498]; with_reducible exact H2_) | (have H2_ := (Option.bind_some _ _).symm.trans H; with_reducible exact H2_) | with_reducible exact H | (rw [hy498]; exact H) | exact H
                 have Ny498 := Aside0.mk hy498
                 clear hy498
                 have H' := Aside0.mk H
                 clear H
                 have hcz50_0 : wc.cell? ⟨gb484, 0, none⟩ = some (.string ((rd_T30 l1 x19_1).f0)) := (blk_cell BK484.out 0).trans rfl
                 have hcz50_1 : wc.cell? ⟨gb484, 1, none⟩ = some (.string ((rd_T30 l1 x19_1).f1)) := (blk_cell BK484.out 1).trans rfl
                 have hfz50_0 := blk_frozen BK484.out 0
                 have hfz50_1 := blk_frozen BK484.out 1
                 go_wp2_with (first | ((with_reducible refine gate_callee (f := 90) rfl ?_); refine goesM (some 31) Tryz.func90 #[.agg #[.string ((rd_T30 l1 x19_1).f0), .string ((rd_T30 l1 x19_1).f1)]] ?_; (with_reducible refine (fraction_Text.calls ((rd_T30 l1 x19_1).f0) ((rd_T30 l1 x19_1).f1) t497 _ A45.out).mono ?_); rintro e w51 ⟨rfl, hb⟩; refine ⟨_, rfl, ?_⟩; replace HO_7 := Aside0.mk (Kd.R_below (kr HO_7) hb); replace BK484 := Aside0.mk (blk_below (g := gb484) (o := .cells #[.string ((rd_T30 l1 x19_1).f0), .string ((rd_T30 l1 x19_1).f1)] 30 (0, 0)) (bk BK484) hb); replace HB := Aside0.mk (below_step (bl HB) hb); (try clear hb); (try clear hb2); (try clear hk); (try clear hi)) | ((with_reducible refine gate_builtin (b := .append) (xs := #[.tmp 58, .tmp 60]) rfl ?_); at_builtin; refine Kd.R_append Kd.string (w0 := w) w.heap.size rfl (.tmp 58) (.tmp 60) 127 9 (.string ⟨#[]⟩) 16 rfl Tryz.underlying127 info9 rfl (by decide) (by omega) u7 x7_1 (t486 ++ (((⟨#[94, 40]⟩ : ByteArray) ++ t497) ++ (⟨#[41]⟩ : ByteArray))) [.string (t486 ++ (((⟨#[94, 40]⟩ : ByteArray) ++ t497) ++ (⟨#[41]⟩ : ByteArray)))] (fun _ => True) (fun _ => False) rfl rfl ?aP (fun _ hk => hk.elim) ?aF ?aO ?aB ?aS ?aL ?_; (case aP => exact rfl); (case aB => exact (bl HB)); (case aF => exact (fun _ _ => trivial)); (case aO => exact (kr HO_7)); (case aS => exact (below_size (bl HB))); (case aL => have := LMc49.out; omega); intro v499 w52 ho hb hg hat; rw [← Ny498.out] at ho; have n0_ := Aside0.mk (blk_grown (g := gb484) (o := .cells #[.string ((rd_T30 l1 x19_1).f0), .string ((rd_T30 l1 x19_1).f1)] 30 (0, 0)) (bk BK484) hg (Kd.R_ne HO_7.out BK484.out (by decide))); have n1_ := Aside0.mk (hb); have n2_ := Aside0.mk (ho); clear BK484; clear HB; clear HO_7; have BK484 := n0_; have HB := n1_; have HO500 := n2_; clear n0_ n1_ n2_; clear ho hb hg hat))
                 go_roundg kj25
                 case measure => have := HK1.out; have := HJ25.out; omega
                 case rel => exact ⟨(y498), (wrap64 (x19_1 + 1)), rs, H', ⟨by have := HK1.out; have := HJ25.out; omega⟩, ⟨kr HO500⟩, ⟨bl HB⟩⟩
                ·rw [if_neg c49] at H
                 exact absurd H (by simp)
               ·rw [if_neg c48] at H
                exact absurd H (by simp)
              ·rw [if_neg c47] at H
               exact absurd H (by simp)
             ·rw [if_neg c46] at H
              exact absurd H (by simp)
       ·rw [if_neg c9] at H
        exact absurd H (by simp)
      ·rw [if_neg c8] at H
       exact absurd H (by simp)
     ·rw [if_neg c7] at H
      exact absurd H (by simp)
    ·rw [if_neg c6] at H
     have c6b0 : decide (x19_1 < (l1.length : Int)) = false := decide_eq_false c6
     clear c6
     by_cases c53 : (x7_1.length : Int) = 0
     ·rw [if_pos c53] at H
      have c53b0 : ((x7_1.length : Int) == 0) = true := beq_iff_eq.mpr c53
      have c53b1 : ((x7_1.length : Int) != 0) = false := bne_eq_false_iff_eq.mpr c53
      clear c53
      simp only [Option.some.injEq, Prod.mk.injEq] at H
      obtain ⟨rfl, rfl⟩ := H
      obtain ⟨Ao54, co54, eo54⟩ := Kd.R_slice HO_7.out
      subst eo54
      go_wp2
      go_ret2
      exact ⟨rl, bl HB⟩
     ·rw [if_neg c53] at H
      have c53b0 : ((x7_1.length : Int) == 0) = false := beq_eq_false_iff_ne.mpr c53
      have c53b1 : ((x7_1.length : Int) != 0) = true := bne_iff_ne.mpr c53
      have c53b2 : ¬ (x7_1 = []) := fun h_ => c53 (by rw [h_]; rfl)
      replace H := Option.bind_eq_some_iff.mp H
      obtain ⟨t482, A550, H⟩ := H
      replace H : (some (t482, 0)) = some (r1, r2) := H
      have A55 := Aside0.mk A550
      clear A550
      simp only [Option.some.injEq, Prod.mk.injEq] at H
      obtain ⟨rfl, rfl⟩ := H
      obtain ⟨Ao56, co56, eo56⟩ := Kd.R_slice HO_7.out
      subst eo56
      go_wp2_with (first | ((with_reducible refine gate_callee (f := 91) rfl ?_); refine goesM (some 67) Tryz.func91 #[.slice Ao56 x7_1.length co56, .string (⟨#[32]⟩ : ByteArray)] ?_; (with_reducible refine (goJoin.calls _ _ x7_1 (⟨#[32]⟩ : ByteArray) t482 _ ?side1 ?side2 ?side3 A55.out).mono ?_); (case side1 => repeat (first | exact (Kd.R_reads' HO_7.out).2.2 | (with_reducible refine Kd.C_alloc ?_ _) | (with_reducible refine Kd.C_drewN ?_ _) | (with_reducible refine Kd.C_drew ?_))); (case side2 => exact (Kd.R_reads' HO_7.out).2.1); (case side3 => exact spot_of_R HO_7.out); rintro e w57 ⟨rfl, hb⟩; refine ⟨_, rfl, ?_⟩; replace HO_7 := Aside0.mk (Kd.R_below (kr HO_7) hb); replace HB := Aside0.mk (below_step (bl HB) hb); (try clear hb); (try clear hb2); (try clear hk); (try clear hi)))
      go_ret2
      exact ⟨rl, bl HB⟩
 ·rw [if_neg c4] at H
  have c4b0 : (t481 == 0) = false := beq_eq_false_iff_ne.mpr c4
  have c4b1 : (t481 != 0) = true := bne_iff_ne.mpr c4
  simp only [Option.some.injEq, Prod.mk.injEq] at H
  obtain ⟨rfl, rfl⟩ := H
  go_enter Tryz.func45, Tryz.ntmps45
  go_wp2_with (first | ((with_reducible refine gate_callee (f := 51) rfl ?_); refine goesM (some 13) Tryz.func51 #[.slice A0 l0.length c0, .slice A1 l1.length c1] ?_; (with_reducible refine (size_Check.calls k _ _ l0 _ _ l1 t481 _ ?side1 ?side2 ?side3 ?side4 ?side5 A3.out).mono ?_); (case side1 => exact Glob.below HG0.out (bl HB)); (case side2 => repeat (first | exact HR0.out | (with_reducible refine Kd.C_alloc ?_ _) | (with_reducible refine Kd.C_drewN ?_ _) | (with_reducible refine Kd.C_drew ?_))); (case side3 => exact HC0.out); (case side4 => repeat (first | exact HR1.out | (with_reducible refine Kd.C_alloc ?_ _) | (with_reducible refine Kd.C_drewN ?_ _) | (with_reducible refine Kd.C_drew ?_))); (case side5 => exact HC1.out); rintro e w58 ⟨rfl, hb⟩; refine ⟨_, rfl, ?_⟩; replace HB := Aside0.mk (below_step (bl HB) hb); (try clear hb); (try clear hb2); (try clear hk); (try clear hi)))
  go_ret2
  exact ⟨rl, bl HB⟩
end Go.Proofs.YtailoobjgbldgaaGreatDoor.P
end
