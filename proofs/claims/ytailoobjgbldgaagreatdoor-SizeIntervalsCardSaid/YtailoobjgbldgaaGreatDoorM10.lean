/- Part 10 of the proof: functions' contracts and what they lean on. -/
import Derived.Test.YtailoobjgbldgaaGreatDoorM9
section
namespace Go.Proofs.YtailoobjgbldgaaGreatDoor.P
open Go.RowKit Go.Proofs.YtailoobjgbldgaaGreatDoorW.PrintWords Go.Proofs.YtailoobjgbldgaaGreatDoorW.PrintLast Go.Proofs.YtailoobjgbldgaaGreatDoorW.PrintMore
attribute [local go_sem] max2_int min2_int max_two min_two max_three min_three max_four min_four   
set_option linter.unusedVariables false
set_option linter.unusedSimpArgs false
mutual
def schismalaw13_known.j0 : Nat → List Int → List (S30) → List (S30) → Option (Bool)
 | 0, _, _, _ => none
 | k + 1, x1, x2, x3 => (schismalaw13_part.f k 1 1).bind fun bt522 => ((schismalaw13_part.f k 0 1).bind fun bt524 => ((schismalaw13_part.f k 0 1).bind fun bt526 => ((schismalaw13_part.f k 0 1).bind fun bt531 => ((schismalaw13_part.f k 0 1).bind fun bt533 => ((schismalaw13_part.f k 1 4).bind fun bt535 => ((size_Compare.f k x1 (([(⟨bt531.1, bt531.2⟩ : S30), (⟨bt533.1, bt533.2⟩ : S30), (⟨bt535.1, bt535.2⟩ : S30)] : List (S30))) x3).bind fun bt540 => (schismalaw13_known.j1 k x1 x2 x3 (([(⟨bt522.1, bt522.2⟩ : S30), (⟨bt524.1, bt524.2⟩ : S30), (⟨bt526.1, bt526.2⟩ : S30)] : List (S30))) bt540.1 bt540.2)))))))
def schismalaw13_known.j1 : Nat → List Int → List (S30) → List (S30) → List (S30) → Int → Int → Option (Bool)
 | 0, _, _, _, _, _, _ => none
 | k + 1, x1, x2, x3, x4, x5, x6 => (size_Floor.f k x1 x4 x2).bind fun bt542 => ((schismalaw13_part.f k 12 1).bind fun bt544 => ((size_Scale.f k x1 x3 bt544.1 bt544.2).bind fun bt546 => ((size_Round.f k x1 bt546.1 x4).bind fun bt550 => (schismalaw13_known.j2 k x1 x5 x6 bt542.1 bt542.2 bt546.2 bt550.1 bt550.2))))
def schismalaw13_known.j2 : Nat → List Int → Int → Int → ByteArray → Int → Int → ByteArray → Int → Option (Bool)
 | 0, _, _, _, _, _, _, _, _ => none
 | k + 1, x1, x5, x6, x7, x8, x10, x11, x12 => (schismalaw13_part.f k 1 2).bind fun bt552 => ((schismalaw13_part.f k (-1) 4).bind fun bt554 => ((schismalaw13_part.f k 1 1).bind fun bt556 => ((size_Text.f k x1 (([(⟨bt552.1, bt552.2⟩ : S30), (⟨bt554.1, bt554.2⟩ : S30), (⟨bt556.1, bt556.2⟩ : S30)] : List (S30)))).bind fun bt561 => (if x6 = 0 then (if x5 = (-1) then (if x8 = 0 then (if x7.toList = ([53, 53] : List UInt8) then (if x10 = 0 then (if x12 = 0 then (if x11.toList = ([55] : List UInt8) then (if bt561.2 = 0 then (some (bt561.1.toList == ([50, 94, 40, 49, 47, 50, 41, 32, 51, 94, 40, 45, 49, 47, 52, 41, 32, 53] : List UInt8))) else (some false)) else (some false)) else (some false)) else (some false)) else (some false)) else (some false)) else (some false)) else (some false)))))
end
def schismalaw13_known.f (k : Nat)  : Option (Bool) := (schismalaw13_part.f k (-4) 1).bind fun bt504 => ((schismalaw13_part.f k 4 1).bind fun bt506 => ((schismalaw13_part.f k (-1) 1).bind fun bt508 => ((schismalaw13_part.f k (-1) 1).bind fun bt513 => ((schismalaw13_part.f k 1 1).bind fun bt515 => ((schismalaw13_part.f k 0 1).bind fun bt517 => (schismalaw13_known.j0 k (([2, 3, 5] : List Int)) (([(⟨bt504.1, bt504.2⟩ : S30), (⟨bt506.1, bt506.2⟩ : S30), (⟨bt508.1, bt508.2⟩ : S30)] : List (S30))) (([(⟨bt513.1, bt513.2⟩ : S30), (⟨bt515.1, bt515.2⟩ : S30), (⟨bt517.1, bt517.2⟩ : S30)] : List (S30)))))))))
set_option maxHeartbeats 8000000 in
set_option maxRecDepth 100000 in
theorem schismalaw13_known.calls (k : Nat)  (r : Bool) (w : World) (hG : Glob w) (h : schismalaw13_known.f k  = some r) :
  Calls Tryz.prog 12 #[] w fun e w' => e = .returned (.bool r) ∧ Below w.heap.size w w' := by
 have HG0 := Aside0.mk hG
 clear hG
 have HB := Aside0.mk (Below.refl w.heap.size w)
 have H : ((schismalaw13_part.f k (-4) 1).bind fun bt504 => ((schismalaw13_part.f k 4 1).bind fun bt506 => ((schismalaw13_part.f k (-1) 1).bind fun bt508 => ((schismalaw13_part.f k (-1) 1).bind fun bt513 => ((schismalaw13_part.f k 1 1).bind fun bt515 => ((schismalaw13_part.f k 0 1).bind fun bt517 => (schismalaw13_known.j0 k (([2, 3, 5] : List Int)) (([(⟨bt504.1, bt504.2⟩ : S30), (⟨bt506.1, bt506.2⟩ : S30), (⟨bt508.1, bt508.2⟩ : S30)] : List (S30))) (([(⟨bt513.1, bt513.2⟩ : S30), (⟨bt515.1, bt515.2⟩ : S30), (⟨bt517.1, bt517.2⟩ : S30)] : List (S30)))))))))) = some r := h
 clear h
 obtain ⟨y501, hy501⟩ : ∃ y_ : List Int, y_ = (([2, 3, 5] : List Int)) := ⟨_, rfl⟩
 replace H : ((schismalaw13_part.f k (-4) 1).bind fun bt504 => ((schismalaw13_part.f k 4 1).bind fun bt506 => ((schismalaw13_part.f k (-1) 1).bind fun bt508 => ((schismalaw13_part.f k (-1) 1).bind fun bt513 => ((schismalaw13_part.f k 1 1).bind fun bt515 => ((schismalaw13_part.f k 0 1).bind fun bt517 => (schismalaw13_known.j0 k y501 (([(⟨bt504.1, bt504.2⟩ : S30), (⟨bt506.1, bt506.2⟩ : S30), (⟨bt508.1, bt508.2⟩ : S30)] : List (S30))) (([(⟨bt513.1, bt513.2⟩ : S30), (⟨bt515.1, bt515.2⟩ : S30), (⟨bt517.1, bt517.2⟩ : S30)] : List (S30)))))))))) = some r := by first | (rw [hy501]; with_reducible exact H) | (have H2_ := (Option.bind_some _ _).symm.trans H; rw [hy501]; with_reducible exact H2_) | (have H2_ := (Option.bind_some _ _).symm.trans H; with_reducible exact H2_) | with_reducible exact H | (rw [hy501]; exact H) | exact H
 have Ny501 := Aside0.mk hy501
 clear hy501
 replace H := Option.bind_eq_some_iff.mp H
 obtain ⟨⟨t504, t505⟩, A10, H⟩ := H
 replace H : ((schismalaw13_part.f k 4 1).bind fun bt506 => ((schismalaw13_part.f k (-1) 1).bind fun bt508 => ((schismalaw13_part.f k (-1) 1).bind fun bt513 => ((schismalaw13_part.f k 1 1).bind fun bt515 => ((schismalaw13_part.f k 0 1).bind fun bt517 => (schismalaw13_known.j0 k y501 (([(⟨t504, t505⟩ : S30), (⟨bt506.1, bt506.2⟩ : S30), (⟨bt508.1, bt508.2⟩ : S30)] : List (S30))) (([(⟨bt513.1, bt513.2⟩ : S30), (⟨bt515.1, bt515.2⟩ : S30), (⟨bt517.1, bt517.2⟩ : S30)] : List (S30))))))))) = some r := H
 have A1 := Aside0.mk A10
 clear A10
 replace H := Option.bind_eq_some_iff.mp H
 obtain ⟨⟨t506, t507⟩, A20, H⟩ := H
 replace H : ((schismalaw13_part.f k (-1) 1).bind fun bt508 => ((schismalaw13_part.f k (-1) 1).bind fun bt513 => ((schismalaw13_part.f k 1 1).bind fun bt515 => ((schismalaw13_part.f k 0 1).bind fun bt517 => (schismalaw13_known.j0 k y501 (([(⟨t504, t505⟩ : S30), (⟨t506, t507⟩ : S30), (⟨bt508.1, bt508.2⟩ : S30)] : List (S30))) (([(⟨bt513.1, bt513.2⟩ : S30), (⟨bt515.1, bt515.2⟩ : S30), (⟨bt517.1, bt517.2⟩ : S30)] : List (S30)))))))) = some r := H
 have A2 := Aside0.mk A20
 clear A20
 replace H := Option.bind_eq_some_iff.mp H
 obtain ⟨⟨t508, t509⟩, A30, H⟩ := H
 replace H : ((schismalaw13_part.f k (-1) 1).bind fun bt513 => ((schismalaw13_part.f k 1 1).bind fun bt515 => ((schismalaw13_part.f k 0 1).bind fun bt517 => (schismalaw13_known.j0 k y501 (([(⟨t504, t505⟩ : S30), (⟨t506, t507⟩ : S30), (⟨t508, t509⟩ : S30)] : List (S30))) (([(⟨bt513.1, bt513.2⟩ : S30), (⟨bt515.1, bt515.2⟩ : S30), (⟨bt517.1, bt517.2⟩ : S30)] : List (S30))))))) = some r := H
 have A3 := Aside0.mk A30
 clear A30
 obtain ⟨y510, hy510⟩ : ∃ y_ : List (S30), y_ = (([(⟨t504, t505⟩ : S30), (⟨t506, t507⟩ : S30), (⟨t508, t509⟩ : S30)] : List (S30))) := ⟨_, rfl⟩
 replace H : ((schismalaw13_part.f k (-1) 1).bind fun bt513 => ((schismalaw13_part.f k 1 1).bind fun bt515 => ((schismalaw13_part.f k 0 1).bind fun bt517 => (schismalaw13_known.j0 k y501 y510 (([(⟨bt513.1, bt513.2⟩ : S30), (⟨bt515.1, bt515.2⟩ : S30), (⟨bt517.1, bt517.2⟩ : S30)] : List (S30))))))) = some r := by first | (rw [hy510]; with_reducible exact H) | (have H2_ := (Option.bind_some _ _).symm.trans H; rw [hy510]; with_reducible exact H2_) | (have H2_ := (Option.bind_some _ _).symm.trans H; with_reducible exact H2_) | with_reducible exact H | (rw [hy510]; exact H) | exact H
 have Ny510 := Aside0.mk hy510
 clear hy510
 have HC4 := Aside0.mk H
 clear H
 go_enter Tryz.func12, Tryz.ntmps12
 go_upto_region 3 with (first | ((with_reducible refine gate_dst (N := 15) rfl ?_); refine Kd.R_lit (Kd.int .i64) _ 3 ?hg (N := 15) ?hd (xs := ([2, 3, 5] : List Int)) (inner := [.int .i64 2, .int .i64 3, .int .i64 5]) (ok := fun _ => True) (okp := fun _ => True) ?hr ?hp (fun _ hk => hk) trivial (Below.refl _ _) (Nat.le_refl _) (by simp) ?_; (case hd => rfl); (case hg => rfl); (case hr => first | (go_simp; done) | (go_simp; rfl)); (case hp => exact (Reps.one (show Kd.M (Kd.int .i64) _ _ _ 2 [.int .i64 2] from rfl) (Reps.one (show Kd.M (Kd.int .i64) _ _ _ 3 [.int .i64 3] from rfl) (Reps.one (show Kd.M (Kd.int .i64) _ _ _ 5 [.int .i64 5] from rfl) (Reps.none _ _))))); intro v502 w5 ho6 hb hg_ hnew_; clear hg_ hnew_; (first | rw [← Ny501.out] at ho6 | (simp only [Int.reduceToNat] at ho6; rw [← Ny501.out] at ho6)); have HO503 := Aside0.mk (Kd.R_lower ho6 (below_size (bl HB))); replace HB := Aside0.mk (below_step (bl HB) hb); clear hb ho6) | ((with_reducible refine gate_callee (f := 18) rfl ?_); refine goesM (some 16) Tryz.func18 #[.int .i64 (-4), .int .i64 1] ?_; (with_reducible refine (schismalaw13_part.calls k (-4) 1 t504 t505 _ ?side1 A1.out).mono ?_); (case side1 => exact Glob.below HG0.out (bl HB)); rintro e w7 ⟨rfl, hb⟩; refine ⟨_, rfl, ?_⟩; replace HO503 := Aside0.mk (Kd.R_below (kr HO503) hb); replace HB := Aside0.mk (below_step (bl HB) hb); (try clear hb); (try clear hb2); (try clear hk); (try clear hi)) | ((with_reducible refine gate_callee (f := 18) rfl ?_); refine goesM (some 17) Tryz.func18 #[.int .i64 4, .int .i64 1] ?_; (with_reducible refine (schismalaw13_part.calls k 4 1 t506 t507 _ ?side1 A2.out).mono ?_); (case side1 => exact Glob.below HG0.out (bl HB)); rintro e w8 ⟨rfl, hb⟩; refine ⟨_, rfl, ?_⟩; replace HO503 := Aside0.mk (Kd.R_below (kr HO503) hb); replace HB := Aside0.mk (below_step (bl HB) hb); (try clear hb); (try clear hb2); (try clear hk); (try clear hi)) | ((with_reducible refine gate_callee (f := 18) rfl ?_); refine goesM (some 18) Tryz.func18 #[.int .i64 (-1), .int .i64 1] ?_; (with_reducible refine (schismalaw13_part.calls k (-1) 1 t508 t509 _ ?side1 A3.out).mono ?_); (case side1 => exact Glob.below HG0.out (bl HB)); rintro e w9 ⟨rfl, hb⟩; refine ⟨_, rfl, ?_⟩; replace HO503 := Aside0.mk (Kd.R_below (kr HO503) hb); replace HB := Aside0.mk (below_step (bl HB) hb); (try clear hb); (try clear hb2); (try clear hk); (try clear hi)) | ((with_reducible refine gate_dst (N := 19) rfl ?_); refine Kd.R_lit k30 _ 30 ?hg (N := 19) ?hd (xs := ([(⟨t504, t505⟩ : S30), (⟨t506, t507⟩ : S30), (⟨t508, t509⟩ : S30)] : List (S30))) (inner := [.string t504, .string t505, .string t506, .string t507, .string t508, .string t509]) (ok := fun _ => True) (okp := fun _ => True) ?hr ?hp (fun _ hk => hk) trivial (Below.refl _ _) (Nat.le_refl _) (by simp) ?_; (case hd => rfl); (case hg => rfl); (case hr => first | (go_simp; done) | (go_simp; rfl)); (case hp => exact (Reps.c2 (show Kd.M k30 _ _ _ (⟨t504, t505⟩ : S30) [.string t504, .string t505] from (k30_mkM _ _ _ (⟨t504, t505⟩ : S30) )) (Reps.c2 (show Kd.M k30 _ _ _ (⟨t506, t507⟩ : S30) [.string t506, .string t507] from (k30_mkM _ _ _ (⟨t506, t507⟩ : S30) )) (Reps.c2 (show Kd.M k30 _ _ _ (⟨t508, t509⟩ : S30) [.string t508, .string t509] from (k30_mkM _ _ _ (⟨t508, t509⟩ : S30) )) (Reps.none _ _))))); intro v511 w10 ho11 hb hg_ hnew_; clear hg_ hnew_; (first | rw [← Ny510.out] at ho11 | (simp only [Int.reduceToNat] at ho11; rw [← Ny510.out] at ho11)); replace HO503 := Aside0.mk (Kd.R_below (kr HO503) hb); have HO512 := Aside0.mk (Kd.R_lower ho11 (below_size (bl HB))); replace HB := Aside0.mk (below_step (bl HB) hb); clear hb ho11))
 (try simp only [Act.put, List.setIfInBounds_toArray, List.set_cons_zero, List.set_cons_succ])
 go_cut [3] (fun v3 wc => ∃ (kq : Nat) (x3_3 : List (S30)), Aside0 (schismalaw13_known.j0 kq y501 y510 x3_3 = some r) ∧ Aside0 (kq ≤ k) ∧ Aside0 (Kd.R (Kd.int .i64) 3 wc w.heap.size (fun _ => True) v502 y501) ∧ Aside0 (Kd.R k30 30 wc w.heap.size (fun k_ => some k_ ≠ (v3 : Value).ownBlock) v511 y510) ∧ Aside0 (Kd.R k30 30 wc w.heap.size (fun k_ => some k_ ≠ (v511 : Value).ownBlock) v3 x3_3) ∧ Aside0 (Below w.heap.size w wc))
 case first =>
  have H := HC4.out
  clear HC4
  replace H := Option.bind_eq_some_iff.mp H
  obtain ⟨⟨t513, t514⟩, A120, H⟩ := H
  replace H : ((schismalaw13_part.f k 1 1).bind fun bt515 => ((schismalaw13_part.f k 0 1).bind fun bt517 => (schismalaw13_known.j0 k y501 y510 (([(⟨t513, t514⟩ : S30), (⟨bt515.1, bt515.2⟩ : S30), (⟨bt517.1, bt517.2⟩ : S30)] : List (S30)))))) = some r := H
  have A12 := Aside0.mk A120
  clear A120
  replace H := Option.bind_eq_some_iff.mp H
  obtain ⟨⟨t515, t516⟩, A130, H⟩ := H
  replace H : ((schismalaw13_part.f k 0 1).bind fun bt517 => (schismalaw13_known.j0 k y501 y510 (([(⟨t513, t514⟩ : S30), (⟨t515, t516⟩ : S30), (⟨bt517.1, bt517.2⟩ : S30)] : List (S30))))) = some r := H
  have A13 := Aside0.mk A130
  clear A130
  replace H := Option.bind_eq_some_iff.mp H
  obtain ⟨⟨t517, t518⟩, A140, H⟩ := H
  replace H : (schismalaw13_known.j0 k y501 y510 (([(⟨t513, t514⟩ : S30), (⟨t515, t516⟩ : S30), (⟨t517, t518⟩ : S30)] : List (S30)))) = some r := H
  have A14 := Aside0.mk A140
  clear A140
  obtain ⟨y519, hy519⟩ : ∃ y_ : List (S30), y_ = (([(⟨t513, t514⟩ : S30), (⟨t515, t516⟩ : S30), (⟨t517, t518⟩ : S30)] : List (S30))) := ⟨_, rfl⟩
  replace H : (schismalaw13_known.j0 k y501 y510 y519) = some r := by first | (rw [hy519]; with_reducible exact H) | (have H2_ := (Option.bind_some _ _).symm.trans H; rw [hy519]; with_reducible exact H2_) | (have H2_ := (Option.bind_some _ _).symm.trans H; with_reducible exact H2_) | with_reducible exact H | (rw [hy519]; exact H) | exact H
  have Ny519 := Aside0.mk hy519
  clear hy519
  have H' := Aside0.mk H
  clear H
  go_wp2_with (first | ((with_reducible refine gate_callee (f := 18) rfl ?_); refine goesM (some 20) Tryz.func18 #[.int .i64 (-1), .int .i64 1] ?_; (with_reducible refine (schismalaw13_part.calls k (-1) 1 t513 t514 _ ?side1 A12.out).mono ?_); (case side1 => exact Glob.below HG0.out (bl HB)); rintro e w15 ⟨rfl, hb⟩; refine ⟨_, rfl, ?_⟩; replace HO503 := Aside0.mk (Kd.R_below (kr HO503) hb); replace HO512 := Aside0.mk (Kd.R_below (kr HO512) hb); replace HB := Aside0.mk (below_step (bl HB) hb); (try clear hb); (try clear hb2); (try clear hk); (try clear hi)) | ((with_reducible refine gate_callee (f := 18) rfl ?_); refine goesM (some 21) Tryz.func18 #[.int .i64 1, .int .i64 1] ?_; (with_reducible refine (schismalaw13_part.calls k 1 1 t515 t516 _ ?side1 A13.out).mono ?_); (case side1 => exact Glob.below HG0.out (bl HB)); rintro e w16 ⟨rfl, hb⟩; refine ⟨_, rfl, ?_⟩; replace HO503 := Aside0.mk (Kd.R_below (kr HO503) hb); replace HO512 := Aside0.mk (Kd.R_below (kr HO512) hb); replace HB := Aside0.mk (below_step (bl HB) hb); (try clear hb); (try clear hb2); (try clear hk); (try clear hi)) | ((with_reducible refine gate_callee (f := 18) rfl ?_); refine goesM (some 22) Tryz.func18 #[.int .i64 0, .int .i64 1] ?_; (with_reducible refine (schismalaw13_part.calls k 0 1 t517 t518 _ ?side1 A14.out).mono ?_); (case side1 => exact Glob.below HG0.out (bl HB)); rintro e w17 ⟨rfl, hb⟩; refine ⟨_, rfl, ?_⟩; replace HO503 := Aside0.mk (Kd.R_below (kr HO503) hb); replace HO512 := Aside0.mk (Kd.R_below (kr HO512) hb); replace HB := Aside0.mk (below_step (bl HB) hb); (try clear hb); (try clear hb2); (try clear hk); (try clear hi)) | ((with_reducible refine gate_dst (N := 23) rfl ?_); refine Kd.R_lit k30 _ 30 ?hg (N := 23) ?hd (xs := ([(⟨t513, t514⟩ : S30), (⟨t515, t516⟩ : S30), (⟨t517, t518⟩ : S30)] : List (S30))) (inner := [.string t513, .string t514, .string t515, .string t516, .string t517, .string t518]) (ok := fun _ => True) (okp := fun _ => True) ?hr ?hp (fun _ hk => hk) trivial (Below.refl _ _) (Nat.le_refl _) (by simp) ?_; (case hd => rfl); (case hg => rfl); (case hr => first | (go_simp; done) | (go_simp; rfl)); (case hp => exact (Reps.c2 (show Kd.M k30 _ _ _ (⟨t513, t514⟩ : S30) [.string t513, .string t514] from (k30_mkM _ _ _ (⟨t513, t514⟩ : S30) )) (Reps.c2 (show Kd.M k30 _ _ _ (⟨t515, t516⟩ : S30) [.string t515, .string t516] from (k30_mkM _ _ _ (⟨t515, t516⟩ : S30) )) (Reps.c2 (show Kd.M k30 _ _ _ (⟨t517, t518⟩ : S30) [.string t517, .string t518] from (k30_mkM _ _ _ (⟨t517, t518⟩ : S30) )) (Reps.none _ _))))); intro v520 w18 ho19 hb hg_ hnew_; clear hg_ hnew_; (first | rw [← Ny519.out] at ho19 | (simp only [Int.reduceToNat] at ho19; rw [← Ny519.out] at ho19)); replace HO503 := Aside0.mk (Kd.R_below (kr HO503) hb); have HO521 := Aside0.mk (Kd.R_lower (Kd.R_new' ho19 (Kd.R_lt (kr HO512))) (below_size (bl HB))); replace HO512 := Aside0.mk (Kd.R_elder' (kr HO512) (Kd.R_base ho19) hb); replace HB := Aside0.mk (below_step (bl HB) hb); clear hb ho19))
  go_meet
  case rel => exact ⟨_, (y519), H', ⟨by first | omega | exact Nat.le_refl _⟩, ⟨kr HO503⟩, ⟨by (with_reducible repeat (first | apply Kd.R_alloc | apply Kd.R_drewN | apply Kd.R_drew)); exact Kd.R_mono HO512.out (fun _ hk => hk.2)⟩, ⟨by (with_reducible repeat (first | apply Kd.R_alloc | apply Kd.R_drewN | apply Kd.R_drew)); exact Kd.R_mono HO521.out (fun _ hk => hk.2)⟩, ⟨bl HB⟩⟩
 case rest =>
  clear HC4
  try clear c1
  try clear c2
  try clear p2
  try clear c12
  try clear c18
  obtain ⟨kq, x3_3, HA, HJ3, HO_1, HO_2, HO_3, HB⟩ := hcut
  cases kq with
  | zero => exact absurd HA.out (by simp [schismalaw13_known.j0])
  | succ kj3 =>
   have H := HA.out
   clear HA
   simp only [schismalaw13_known.j0] at H
   replace H := Option.bind_eq_some_iff.mp H
   obtain ⟨⟨t522, t523⟩, A200, H⟩ := H
   replace H : ((schismalaw13_part.f kj3 0 1).bind fun bt524 => ((schismalaw13_part.f kj3 0 1).bind fun bt526 => ((schismalaw13_part.f kj3 0 1).bind fun bt531 => ((schismalaw13_part.f kj3 0 1).bind fun bt533 => ((schismalaw13_part.f kj3 1 4).bind fun bt535 => ((size_Compare.f kj3 y501 (([(⟨bt531.1, bt531.2⟩ : S30), (⟨bt533.1, bt533.2⟩ : S30), (⟨bt535.1, bt535.2⟩ : S30)] : List (S30))) x3_3).bind fun bt540 => (schismalaw13_known.j1 kj3 y501 y510 x3_3 (([(⟨t522, t523⟩ : S30), (⟨bt524.1, bt524.2⟩ : S30), (⟨bt526.1, bt526.2⟩ : S30)] : List (S30))) bt540.1 bt540.2))))))) = some r := H
   have A20 := Aside0.mk A200
   clear A200
   replace H := Option.bind_eq_some_iff.mp H
   obtain ⟨⟨t524, t525⟩, A210, H⟩ := H
   replace H : ((schismalaw13_part.f kj3 0 1).bind fun bt526 => ((schismalaw13_part.f kj3 0 1).bind fun bt531 => ((schismalaw13_part.f kj3 0 1).bind fun bt533 => ((schismalaw13_part.f kj3 1 4).bind fun bt535 => ((size_Compare.f kj3 y501 (([(⟨bt531.1, bt531.2⟩ : S30), (⟨bt533.1, bt533.2⟩ : S30), (⟨bt535.1, bt535.2⟩ : S30)] : List (S30))) x3_3).bind fun bt540 => (schismalaw13_known.j1 kj3 y501 y510 x3_3 (([(⟨t522, t523⟩ : S30), (⟨t524, t525⟩ : S30), (⟨bt526.1, bt526.2⟩ : S30)] : List (S30))) bt540.1 bt540.2)))))) = some r := H
   have A21 := Aside0.mk A210
   clear A210
   replace H := Option.bind_eq_some_iff.mp H
   obtain ⟨⟨t526, t527⟩, A220, H⟩ := H
   replace H : ((schismalaw13_part.f kj3 0 1).bind fun bt531 => ((schismalaw13_part.f kj3 0 1).bind fun bt533 => ((schismalaw13_part.f kj3 1 4).bind fun bt535 => ((size_Compare.f kj3 y501 (([(⟨bt531.1, bt531.2⟩ : S30), (⟨bt533.1, bt533.2⟩ : S30), (⟨bt535.1, bt535.2⟩ : S30)] : List (S30))) x3_3).bind fun bt540 => (schismalaw13_known.j1 kj3 y501 y510 x3_3 (([(⟨t522, t523⟩ : S30), (⟨t524, t525⟩ : S30), (⟨t526, t527⟩ : S30)] : List (S30))) bt540.1 bt540.2))))) = some r := H
   have A22 := Aside0.mk A220
   clear A220
   obtain ⟨y528, hy528⟩ : ∃ y_ : List (S30), y_ = (([(⟨t522, t523⟩ : S30), (⟨t524, t525⟩ : S30), (⟨t526, t527⟩ : S30)] : List (S30))) := ⟨_, rfl⟩
   replace H : ((schismalaw13_part.f kj3 0 1).bind fun bt531 => ((schismalaw13_part.f kj3 0 1).bind fun bt533 => ((schismalaw13_part.f kj3 1 4).bind fun bt535 => ((size_Compare.f kj3 y501 (([(⟨bt531.1, bt531.2⟩ : S30), (⟨bt533.1, bt533.2⟩ : S30), (⟨bt535.1, bt535.2⟩ : S30)] : List (S30))) x3_3).bind fun bt540 => (schismalaw13_known.j1 kj3 y501 y510 x3_3 y528 bt540.1 bt540.2))))) = some r := by first | (rw [hy528]; with_reducible exact H) | (have H2_ := (Option.bind_some _ _).symm.trans H; rw [hy528]; with_reducible exact H2_) | (have H2_ := (Option.bind_some _ _).symm.trans H; with_reducible exact H2_) | with_reducible exact H | (rw [hy528]; exact H) | exact H
   have Ny528 := Aside0.mk hy528
   clear hy528
   have HC23 := Aside0.mk H
   clear H
   go_upto_region 5 with (first | ((with_reducible refine gate_callee (f := 18) rfl ?_); refine goesM (some 24) Tryz.func18 #[.int .i64 1, .int .i64 1] ?_; (with_reducible refine (schismalaw13_part.calls kj3 1 1 t522 t523 _ ?side1 A20.out).mono ?_); (case side1 => exact Glob.below HG0.out (bl HB)); rintro e w24 ⟨rfl, hb⟩; refine ⟨_, rfl, ?_⟩; replace HO_1 := Aside0.mk (Kd.R_below (kr HO_1) hb); replace HO_2 := Aside0.mk (Kd.R_below (kr HO_2) hb); replace HO_3 := Aside0.mk (Kd.R_below (kr HO_3) hb); replace HB := Aside0.mk (below_step (bl HB) hb); (try clear hb); (try clear hb2); (try clear hk); (try clear hi)) | ((with_reducible refine gate_callee (f := 18) rfl ?_); refine goesM (some 25) Tryz.func18 #[.int .i64 0, .int .i64 1] ?_; (with_reducible refine (schismalaw13_part.calls kj3 0 1 t524 t525 _ ?side1 A21.out).mono ?_); (case side1 => exact Glob.below HG0.out (bl HB)); rintro e w25 ⟨rfl, hb⟩; refine ⟨_, rfl, ?_⟩; replace HO_1 := Aside0.mk (Kd.R_below (kr HO_1) hb); replace HO_2 := Aside0.mk (Kd.R_below (kr HO_2) hb); replace HO_3 := Aside0.mk (Kd.R_below (kr HO_3) hb); replace HB := Aside0.mk (below_step (bl HB) hb); (try clear hb); (try clear hb2); (try clear hk); (try clear hi)) | ((with_reducible refine gate_callee (f := 18) rfl ?_); refine goesM (some 26) Tryz.func18 #[.int .i64 0, .int .i64 1] ?_; (with_reducible refine (schismalaw13_part.calls kj3 0 1 t526 t527 _ ?side1 A22.out).mono ?_); (case side1 => exact Glob.below HG0.out (bl HB)); rintro e w26 ⟨rfl, hb⟩; refine ⟨_, rfl, ?_⟩; replace HO_1 := Aside0.mk (Kd.R_below (kr HO_1) hb); replace HO_2 := Aside0.mk (Kd.R_below (kr HO_2) hb); replace HO_3 := Aside0.mk (Kd.R_below (kr HO_3) hb); replace HB := Aside0.mk (below_step (bl HB) hb); (try clear hb); (try clear hb2); (try clear hk); (try clear hi)) | ((with_reducible refine gate_dst (N := 27) rfl ?_); refine Kd.R_lit k30 _ 30 ?hg (N := 27) ?hd (xs := ([(⟨t522, t523⟩ : S30), (⟨t524, t525⟩ : S30), (⟨t526, t527⟩ : S30)] : List (S30))) (inner := [.string t522, .string t523, .string t524, .string t525, .string t526, .string t527]) (ok := fun _ => True) (okp := fun _ => True) ?hr ?hp (fun _ hk => hk) trivial (Below.refl _ _) (Nat.le_refl _) (by simp) ?_; (case hd => rfl); (case hg => rfl); (case hr => first | (go_simp; done) | (go_simp; rfl)); (case hp => exact (Reps.c2 (show Kd.M k30 _ _ _ (⟨t522, t523⟩ : S30) [.string t522, .string t523] from (k30_mkM _ _ _ (⟨t522, t523⟩ : S30) )) (Reps.c2 (show Kd.M k30 _ _ _ (⟨t524, t525⟩ : S30) [.string t524, .string t525] from (k30_mkM _ _ _ (⟨t524, t525⟩ : S30) )) (Reps.c2 (show Kd.M k30 _ _ _ (⟨t526, t527⟩ : S30) [.string t526, .string t527] from (k30_mkM _ _ _ (⟨t526, t527⟩ : S30) )) (Reps.none _ _))))); intro v529 w27 ho28 hb hg_ hnew_; clear hg_ hnew_; (first | rw [← Ny528.out] at ho28 | (simp only [Int.reduceToNat] at ho28; rw [← Ny528.out] at ho28)); replace HO_1 := Aside0.mk (Kd.R_below (kr HO_1) hb); have HO530 := Aside0.mk (Kd.R_lower (Kd.R_new' (Kd.R_new' ho28 (Kd.R_lt (kr HO_2))) (Kd.R_lt (kr HO_3))) (below_size (bl HB))); replace HO_2 := Aside0.mk (Kd.R_elder' (kr HO_2) (Kd.R_base ho28) hb); replace HO_3 := Aside0.mk (Kd.R_elder' (kr HO_3) (Kd.R_base ho28) hb); replace HB := Aside0.mk (below_step (bl HB) hb); clear hb ho28))
   (try simp only [Act.put, List.setIfInBounds_toArray, List.set_cons_zero, List.set_cons_succ])
   go_cut [5, 6] (fun v5 v6 wc => ∃ (kq : Nat) (x5_22 : Int) (x6_22 : Int), v5 = .int .i64 x5_22 ∧ v6 = .int .i64 x6_22 ∧ Aside0 (schismalaw13_known.j1 kq y501 y510 x3_3 y528 x5_22 x6_22 = some r) ∧ Aside0 (kq ≤ kj3) ∧ Aside0 (Kd.R (Kd.int .i64) 3 wc w.heap.size (fun _ => True) v502 y501) ∧ Aside0 (Kd.R k30 30 wc w.heap.size (fun k_ => some k_ ≠ (u3 : Value).ownBlock ∧ some k_ ≠ (v529 : Value).ownBlock) v511 y510) ∧ Aside0 (Kd.R k30 30 wc w.heap.size (fun k_ => some k_ ≠ (v511 : Value).ownBlock ∧ some k_ ≠ (v529 : Value).ownBlock) u3 x3_3) ∧ Aside0 (Kd.R k30 30 wc w.heap.size (fun k_ => some k_ ≠ (v511 : Value).ownBlock ∧ some k_ ≠ (u3 : Value).ownBlock) v529 y528) ∧ Aside0 (Below w.heap.size w wc))
   case first =>
    have H := HC23.out
    clear HC23
    replace H := Option.bind_eq_some_iff.mp H
    obtain ⟨⟨t531, t532⟩, A290, H⟩ := H
    replace H : ((schismalaw13_part.f kj3 0 1).bind fun bt533 => ((schismalaw13_part.f kj3 1 4).bind fun bt535 => ((size_Compare.f kj3 y501 (([(⟨t531, t532⟩ : S30), (⟨bt533.1, bt533.2⟩ : S30), (⟨bt535.1, bt535.2⟩ : S30)] : List (S30))) x3_3).bind fun bt540 => (schismalaw13_known.j1 kj3 y501 y510 x3_3 y528 bt540.1 bt540.2)))) = some r := H
    have A29 := Aside0.mk A290
    clear A290
    replace H := Option.bind_eq_some_iff.mp H
    obtain ⟨⟨t533, t534⟩, A300, H⟩ := H
    replace H : ((schismalaw13_part.f kj3 1 4).bind fun bt535 => ((size_Compare.f kj3 y501 (([(⟨t531, t532⟩ : S30), (⟨t533, t534⟩ : S30), (⟨bt535.1, bt535.2⟩ : S30)] : List (S30))) x3_3).bind fun bt540 => (schismalaw13_known.j1 kj3 y501 y510 x3_3 y528 bt540.1 bt540.2))) = some r := H
    have A30 := Aside0.mk A300
    clear A300
    replace H := Option.bind_eq_some_iff.mp H
    obtain ⟨⟨t535, t536⟩, A310, H⟩ := H
    replace H : ((size_Compare.f kj3 y501 (([(⟨t531, t532⟩ : S30), (⟨t533, t534⟩ : S30), (⟨t535, t536⟩ : S30)] : List (S30))) x3_3).bind fun bt540 => (schismalaw13_known.j1 kj3 y501 y510 x3_3 y528 bt540.1 bt540.2)) = some r := H
    have A31 := Aside0.mk A310
    clear A310
    obtain ⟨y537, hy537⟩ : ∃ y_ : List (S30), y_ = (([(⟨t531, t532⟩ : S30), (⟨t533, t534⟩ : S30), (⟨t535, t536⟩ : S30)] : List (S30))) := ⟨_, rfl⟩
    replace H : ((size_Compare.f kj3 y501 y537 x3_3).bind fun bt540 => (schismalaw13_known.j1 kj3 y501 y510 x3_3 y528 bt540.1 bt540.2)) = some r := by first | (rw [hy537]; with_reducible exact H) | (have H2_ := (Option.bind_some _ _).symm.trans H; rw [hy537]; with_reducible exact H2_) | (have H2_ := (Option.bind_some _ _).symm.trans H; with_reducible exact H2_) | with_reducible exact H | (rw [hy537]; exact H) | exact H
    have Ny537 := Aside0.mk hy537
    clear hy537
    replace H := Option.bind_eq_some_iff.mp H
    obtain ⟨⟨t540, t541⟩, A320, H⟩ := H
    replace H : (schismalaw13_known.j1 kj3 y501 y510 x3_3 y528 t540 t541) = some r := H
    have A32 := Aside0.mk A320
    clear A320
    have H' := Aside0.mk H
    clear H
    go_wp2_with (first | ((with_reducible refine gate_callee (f := 18) rfl ?_); refine goesM (some 30) Tryz.func18 #[.int .i64 0, .int .i64 1] ?_; (with_reducible refine (schismalaw13_part.calls kj3 0 1 t531 t532 _ ?side1 A29.out).mono ?_); (case side1 => exact Glob.below HG0.out (bl HB)); rintro e w33 ⟨rfl, hb⟩; refine ⟨_, rfl, ?_⟩; replace HO_1 := Aside0.mk (Kd.R_below (kr HO_1) hb); replace HO_2 := Aside0.mk (Kd.R_below (kr HO_2) hb); replace HO_3 := Aside0.mk (Kd.R_below (kr HO_3) hb); replace HO530 := Aside0.mk (Kd.R_below (kr HO530) hb); replace HB := Aside0.mk (below_step (bl HB) hb); (try clear hb); (try clear hb2); (try clear hk); (try clear hi)) | ((with_reducible refine gate_callee (f := 18) rfl ?_); refine goesM (some 31) Tryz.func18 #[.int .i64 0, .int .i64 1] ?_; (with_reducible refine (schismalaw13_part.calls kj3 0 1 t533 t534 _ ?side1 A30.out).mono ?_); (case side1 => exact Glob.below HG0.out (bl HB)); rintro e w34 ⟨rfl, hb⟩; refine ⟨_, rfl, ?_⟩; replace HO_1 := Aside0.mk (Kd.R_below (kr HO_1) hb); replace HO_2 := Aside0.mk (Kd.R_below (kr HO_2) hb); replace HO_3 := Aside0.mk (Kd.R_below (kr HO_3) hb); replace HO530 := Aside0.mk (Kd.R_below (kr HO530) hb); replace HB := Aside0.mk (below_step (bl HB) hb); (try clear hb); (try clear hb2); (try clear hk); (try clear hi)) | ((with_reducible refine gate_callee (f := 18) rfl ?_); refine goesM (some 32) Tryz.func18 #[.int .i64 1, .int .i64 4] ?_; (with_reducible refine (schismalaw13_part.calls kj3 1 4 t535 t536 _ ?side1 A31.out).mono ?_); (case side1 => exact Glob.below HG0.out (bl HB)); rintro e w35 ⟨rfl, hb⟩; refine ⟨_, rfl, ?_⟩; replace HO_1 := Aside0.mk (Kd.R_below (kr HO_1) hb); replace HO_2 := Aside0.mk (Kd.R_below (kr HO_2) hb); replace HO_3 := Aside0.mk (Kd.R_below (kr HO_3) hb); replace HO530 := Aside0.mk (Kd.R_below (kr HO530) hb); replace HB := Aside0.mk (below_step (bl HB) hb); (try clear hb); (try clear hb2); (try clear hk); (try clear hi)) | ((with_reducible refine gate_dst (N := 33) rfl ?_); refine Kd.R_lit k30 _ 30 ?hg (N := 33) ?hd (xs := ([(⟨t531, t532⟩ : S30), (⟨t533, t534⟩ : S30), (⟨t535, t536⟩ : S30)] : List (S30))) (inner := [.string t531, .string t532, .string t533, .string t534, .string t535, .string t536]) (ok := fun _ => True) (okp := fun _ => True) ?hr ?hp (fun _ hk => hk) trivial (Below.refl _ _) (Nat.le_refl _) (by simp) ?_; (case hd => rfl); (case hg => rfl); (case hr => first | (go_simp; done) | (go_simp; rfl)); (case hp => exact (Reps.c2 (show Kd.M k30 _ _ _ (⟨t531, t532⟩ : S30) [.string t531, .string t532] from (k30_mkM _ _ _ (⟨t531, t532⟩ : S30) )) (Reps.c2 (show Kd.M k30 _ _ _ (⟨t533, t534⟩ : S30) [.string t533, .string t534] from (k30_mkM _ _ _ (⟨t533, t534⟩ : S30) )) (Reps.c2 (show Kd.M k30 _ _ _ (⟨t535, t536⟩ : S30) [.string t535, .string t536] from (k30_mkM _ _ _ (⟨t535, t536⟩ : S30) )) (Reps.none _ _))))); intro v538 w36 ho37 hb hg_ hnew_; clear hg_ hnew_; (first | rw [← Ny537.out] at ho37 | (simp only [Int.reduceToNat] at ho37; rw [← Ny537.out] at ho37)); replace HO_1 := Aside0.mk (Kd.R_below (kr HO_1) hb); have HO539 := Aside0.mk (Kd.R_lower (Kd.R_new' (Kd.R_new' (Kd.R_new' ho37 (Kd.R_lt (kr HO_2))) (Kd.R_lt (kr HO_3))) (Kd.R_lt (kr HO530))) (below_size (bl HB))); replace HO_2 := Aside0.mk (Kd.R_elder' (kr HO_2) (Kd.R_base ho37) hb); replace HO_3 := Aside0.mk (Kd.R_elder' (kr HO_3) (Kd.R_base ho37) hb); replace HO530 := Aside0.mk (Kd.R_elder' (kr HO530) (Kd.R_base ho37) hb); replace HB := Aside0.mk (below_step (bl HB) hb); clear hb ho37; obtain ⟨Ao38, co38, eo38⟩ := Kd.R_slice HO_1.out; subst eo38; obtain ⟨Ao39, co39, eo39⟩ := Kd.R_slice HO539.out; subst eo39; obtain ⟨Ao40, co40, eo40⟩ := Kd.R_slice HO_3.out; subst eo40) | ((with_reducible refine gate_callee (f := 21) rfl ?_); refine goesM (some 35) Tryz.func21 #[.slice Ao38 y501.length co38, .slice Ao39 y537.length co39, .slice Ao40 x3_3.length co40] ?_; (with_reducible refine (size_Compare.calls kj3 _ _ y501 (fun k_ => some k_ = (.slice Ao39 y537.length co39 : Value).ownBlock) _ _ y537 (fun k_ => some k_ = (.slice Ao40 x3_3.length co40 : Value).ownBlock) _ _ x3_3 t540 t541 _ ?side1 ?side2 ?side3 ?side4 ?side5 A32.out).mono ?_); (case side1 => exact Glob.below HG0.out (bl HB)); (case side2 => repeat (first | exact (Kd.R_reads' HO_1.out).2.2 | (with_reducible refine Kd.C_alloc ?_ _) | (with_reducible refine Kd.C_drewN ?_ _) | (with_reducible refine Kd.C_drew ?_))); (case side3 => exact (Kd.R_reads' HO_1.out).2.1); (case side4 => exact Kd.R_V (Kd.R_tight rfl (Kd.R_apart' (HO539.out) (Kd.R_typed HO_1.out) (by decide)))); (case side5 => exact Kd.R_V (Kd.R_tight rfl (Kd.R_apart' (HO_3.out) (Kd.R_typed HO_1.out) (by decide)))); rintro e w41 ⟨rfl, hb⟩; refine ⟨_, rfl, ?_⟩; replace HO_1 := Aside0.mk (Kd.R_below (kr HO_1) hb); replace HO_2 := Aside0.mk (Kd.R_below (kr HO_2) hb); replace HO_3 := Aside0.mk (Kd.R_below (kr HO_3) hb); replace HO530 := Aside0.mk (Kd.R_below (kr HO530) hb); replace HO539 := Aside0.mk (Kd.R_below (kr HO539) hb); replace HB := Aside0.mk (below_step (bl HB) hb); (try clear hb); (try clear hb2); (try clear hk); (try clear hi)))
    go_meet
    case rel => exact ⟨_, (t540), (t541), rs, rs, H', ⟨by have := HJ3.out; first | omega | exact Nat.le_refl _⟩, ⟨kr HO_1⟩, ⟨by (with_reducible repeat (first | apply Kd.R_alloc | apply Kd.R_drewN | apply Kd.R_drew)); exact Kd.R_mono HO_2.out (fun _ hk => ⟨hk.1.1, hk.1.2⟩)⟩, ⟨by (with_reducible repeat (first | apply Kd.R_alloc | apply Kd.R_drewN | apply Kd.R_drew)); exact Kd.R_mono HO_3.out (fun _ hk => ⟨hk.1.1, hk.1.2⟩)⟩, ⟨by (with_reducible repeat (first | apply Kd.R_alloc | apply Kd.R_drewN | apply Kd.R_drew)); exact Kd.R_mono HO530.out (fun _ hk => ⟨hk.1.1.2, hk.1.2⟩)⟩, ⟨bl HB⟩⟩
   case rest =>
    clear HC23
    try clear c1
    try clear c2
    try clear p2
    try clear c12
    try clear c18
    try clear c21
    try clear p2
    obtain ⟨kq, x5_22, x6_22, rfl, rfl, HA, HJ22, HO_1, HO_2, HO_3, HO_4, HB⟩ := hcut
    cases kq with
    | zero => exact absurd HA.out (by simp [schismalaw13_known.j1])
    | succ kj22 =>
     have H := HA.out
     clear HA
     simp only [schismalaw13_known.j1] at H
     replace H := Option.bind_eq_some_iff.mp H
     obtain ⟨⟨t542, t543⟩, A420, H⟩ := H
     replace H : ((schismalaw13_part.f kj22 12 1).bind fun bt544 => ((size_Scale.f kj22 y501 x3_3 bt544.1 bt544.2).bind fun bt546 => ((size_Round.f kj22 y501 bt546.1 y528).bind fun bt550 => (schismalaw13_known.j2 kj22 y501 x5_22 x6_22 t542 t543 bt546.2 bt550.1 bt550.2)))) = some r := H
     have A42 := Aside0.mk A420
     clear A420
     replace H := Option.bind_eq_some_iff.mp H
     obtain ⟨⟨t544, t545⟩, A430, H⟩ := H
     replace H : ((size_Scale.f kj22 y501 x3_3 t544 t545).bind fun bt546 => ((size_Round.f kj22 y501 bt546.1 y528).bind fun bt550 => (schismalaw13_known.j2 kj22 y501 x5_22 x6_22 t542 t543 bt546.2 bt550.1 bt550.2))) = some r := H
     have A43 := Aside0.mk A430
     clear A430
     replace H := Option.bind_eq_some_iff.mp H
     obtain ⟨⟨t546, t549⟩, A440, H⟩ := H
     replace H : ((size_Round.f kj22 y501 t546 y528).bind fun bt550 => (schismalaw13_known.j2 kj22 y501 x5_22 x6_22 t542 t543 t549 bt550.1 bt550.2)) = some r := H
     have A44 := Aside0.mk A440
     clear A440
     have HC45 := Aside0.mk H
     clear H
     obtain ⟨Ao46, co46, eo46⟩ := Kd.R_slice HO_1.out
     subst eo46
     obtain ⟨Ao47, co47, eo47⟩ := Kd.R_slice HO_4.out
     subst eo47
     obtain ⟨Ao48, co48, eo48⟩ := Kd.R_slice HO_2.out
     subst eo48
     go_upto_region 8 with (first | ((with_reducible refine gate_callee (f := 30) rfl ?_); refine goesM (some 42) Tryz.func30 #[.slice Ao46 y501.length co46, .slice Ao47 y528.length co47, .slice Ao48 y510.length co48] ?_; (with_reducible refine (size_Floor.calls kj22 _ _ y501 _ _ y528 _ _ y510 t542 t543 _ ?side1 ?side2 ?side3 ?side4 ?side5 ?side6 ?side7 A42.out).mono ?_); (case side1 => exact Glob.below HG0.out (bl HB)); (case side2 => repeat (first | exact (Kd.R_reads' HO_1.out).2.2 | (with_reducible refine Kd.C_alloc ?_ _) | (with_reducible refine Kd.C_drewN ?_ _) | (with_reducible refine Kd.C_drew ?_))); (case side3 => exact (Kd.R_reads' HO_1.out).2.1); (case side4 => repeat (first | exact (Kd.R_reads' HO_4.out).2.2 | (with_reducible refine Kd.C_alloc ?_ _) | (with_reducible refine Kd.C_drewN ?_ _) | (with_reducible refine Kd.C_drew ?_))); (case side5 => exact (Kd.R_reads' HO_4.out).2.1); (case side6 => repeat (first | exact (Kd.R_reads' HO_2.out).2.2 | (with_reducible refine Kd.C_alloc ?_ _) | (with_reducible refine Kd.C_drewN ?_ _) | (with_reducible refine Kd.C_drew ?_))); (case side7 => exact (Kd.R_reads' HO_2.out).2.1); rintro e w49 ⟨rfl, hb⟩; refine ⟨_, rfl, ?_⟩; replace HO_1 := Aside0.mk (Kd.R_below (kr HO_1) hb); replace HO_2 := Aside0.mk (Kd.R_below (kr HO_2) hb); replace HO_3 := Aside0.mk (Kd.R_below (kr HO_3) hb); replace HO_4 := Aside0.mk (Kd.R_below (kr HO_4) hb); replace HB := Aside0.mk (below_step (bl HB) hb); (try clear hb); (try clear hb2); (try clear hk); (try clear hi)) | ((with_reducible refine gate_callee (f := 18) rfl ?_); refine goesM (some 48) Tryz.func18 #[.int .i64 12, .int .i64 1] ?_; (with_reducible refine (schismalaw13_part.calls kj22 12 1 t544 t545 _ ?side1 A43.out).mono ?_); (case side1 => exact Glob.below HG0.out (bl HB)); rintro e w50 ⟨rfl, hb⟩; refine ⟨_, rfl, ?_⟩; replace HO_1 := Aside0.mk (Kd.R_below (kr HO_1) hb); replace HO_2 := Aside0.mk (Kd.R_below (kr HO_2) hb); replace HO_3 := Aside0.mk (Kd.R_below (kr HO_3) hb); replace HO_4 := Aside0.mk (Kd.R_below (kr HO_4) hb); replace HB := Aside0.mk (below_step (bl HB) hb); (try clear hb); (try clear hb2); (try clear hk); (try clear hi); obtain ⟨Ao51, co51, eo51⟩ := Kd.R_slice HO_3.out; subst eo51) | ((with_reducible refine gate_callee (f := 23) rfl ?_); refine goesM (some 49) Tryz.func23 #[.slice Ao46 y501.length co46, .slice Ao51 x3_3.length co51, .agg #[.string t544, .string t545]] ?_; (with_reducible refine (size_Scale.calls kj22 _ _ y501 (fun k_ => some k_ = (.slice Ao51 x3_3.length co51 : Value).ownBlock) _ _ x3_3 t544 t545 t546 t549 _ ?side1 ?side2 ?side3 ?side4 A44.out).mono ?_); (case side1 => exact Glob.below HG0.out (bl HB)); (case side2 => repeat (first | exact (Kd.R_reads' HO_1.out).2.2 | (with_reducible refine Kd.C_alloc ?_ _) | (with_reducible refine Kd.C_drewN ?_ _) | (with_reducible refine Kd.C_drew ?_))); (case side3 => exact (Kd.R_reads' HO_1.out).2.1); (case side4 => exact Kd.R_V (Kd.R_tight rfl (Kd.R_apart' (HO_3.out) (Kd.R_typed HO_1.out) (by decide)))); rintro e w52 ⟨v547, rfl, ho0, hb⟩; refine ⟨_, rfl, ?_⟩; replace HO_1 := Aside0.mk (Kd.R_below (kr HO_1) hb); have HO548 := Aside0.mk (Kd.R_lower (Kd.R_new' (Kd.R_new' (Kd.R_new' (Kd.R_mono (ok' := fun k_ => True) ho0 (fun _ hk_ => trivial)) (Kd.R_lt (kr HO_2))) (Kd.R_lt (kr HO_3))) (Kd.R_lt (kr HO_4))) (below_size (bl HB))); replace HO_2 := Aside0.mk (Kd.R_elder' (kr HO_2) (Kd.R_base ho0) hb); replace HO_3 := Aside0.mk (Kd.R_elder' (kr HO_3) (Kd.R_base ho0) hb); replace HO_4 := Aside0.mk (Kd.R_elder' (kr HO_4) (Kd.R_base ho0) hb); replace HB := Aside0.mk (below_step (bl HB) hb); (try clear hb); (try clear hb2); (try clear hk); (try clear hi); (try clear ho0)))
     (try simp only [Act.put, List.setIfInBounds_toArray, List.set_cons_zero, List.set_cons_succ])
     go_cut [11, 12] (fun v11 v12 wc => ∃ (kq : Nat) (x11_44 : ByteArray) (x12_44 : Int), v11 = .string x11_44 ∧ v12 = .int .i64 x12_44 ∧ Aside0 (schismalaw13_known.j2 kq y501 x5_22 x6_22 t542 t543 t549 x11_44 x12_44 = some r) ∧ Aside0 (kq ≤ kj22) ∧ Aside0 (Kd.R (Kd.int .i64) 3 wc w.heap.size (fun _ => True) (.slice Ao46 y501.length co46) y501) ∧ Aside0 (Below w.heap.size w wc))
     case first =>
      have H := HC45.out
      clear HC45
      replace H := Option.bind_eq_some_iff.mp H
      obtain ⟨⟨t550, t551⟩, A530, H⟩ := H
      replace H : (schismalaw13_known.j2 kj22 y501 x5_22 x6_22 t542 t543 t549 t550 t551) = some r := H
      have A53 := Aside0.mk A530
      clear A530
      have H' := Aside0.mk H
      clear H
      obtain ⟨Ao54, co54, eo54⟩ := Kd.R_slice HO548.out
      subst eo54
      go_wp2_with (first | ((with_reducible refine gate_callee (f := 31) rfl ?_); refine goesM (some 56) Tryz.func31 #[.slice Ao46 y501.length co46, .slice Ao54 t546.length co54, .slice Ao47 y528.length co47] ?_; (with_reducible refine (size_Round.calls kj22 _ _ y501 (fun k_ => some k_ = (.slice Ao54 t546.length co54 : Value).ownBlock) _ _ t546 (fun k_ => some k_ = (.slice Ao47 y528.length co47 : Value).ownBlock) _ _ y528 t550 t551 _ ?side1 ?side2 ?side3 ?side4 ?side5 A53.out).mono ?_); (case side1 => exact Glob.below HG0.out (bl HB)); (case side2 => repeat (first | exact (Kd.R_reads' HO_1.out).2.2 | (with_reducible refine Kd.C_alloc ?_ _) | (with_reducible refine Kd.C_drewN ?_ _) | (with_reducible refine Kd.C_drew ?_))); (case side3 => exact (Kd.R_reads' HO_1.out).2.1); (case side4 => exact Kd.R_V (Kd.R_tight rfl (Kd.R_apart' (HO548.out) (Kd.R_typed HO_1.out) (by decide)))); (case side5 => exact Kd.R_V (Kd.R_tight rfl (Kd.R_apart' (HO_4.out) (Kd.R_typed HO_1.out) (by decide)))); rintro e w55 ⟨rfl, hb⟩; refine ⟨_, rfl, ?_⟩; replace HO_1 := Aside0.mk (Kd.R_below (kr HO_1) hb); replace HO_2 := Aside0.mk (Kd.R_below (kr HO_2) hb); replace HO_3 := Aside0.mk (Kd.R_below (kr HO_3) hb); replace HO_4 := Aside0.mk (Kd.R_below (kr HO_4) hb); replace HO548 := Aside0.mk (Kd.R_below (kr HO548) hb); replace HB := Aside0.mk (below_step (bl HB) hb); (try clear hb); (try clear hb2); (try clear hk); (try clear hi)))
      go_meet
      case rel => exact ⟨_, (t550), (t551), rs, rs, H', ⟨by have := HJ3.out; have := HJ22.out; first | omega | exact Nat.le_refl _⟩, ⟨kr HO_1⟩, ⟨bl HB⟩⟩
     case rest =>
      clear HC45
      try clear c1
      try clear c2
      try clear p2
      try clear c3
      try clear c12
      try clear c18
      try clear c21
      try clear c23
      try clear c30
      try clear c31
      try clear p2
      obtain ⟨kq, x11_44, x12_44, rfl, rfl, HA, HJ44, HO_1, HB⟩ := hcut
      cases kq with
      | zero => exact absurd HA.out (by simp [schismalaw13_known.j2])
      | succ kj44 =>
       have H := HA.out
       clear HA
       simp only [schismalaw13_known.j2] at H
       replace H := Option.bind_eq_some_iff.mp H
       obtain ⟨⟨t552, t553⟩, A560, H⟩ := H
       replace H : ((schismalaw13_part.f kj44 (-1) 4).bind fun bt554 => ((schismalaw13_part.f kj44 1 1).bind fun bt556 => ((size_Text.f kj44 y501 (([(⟨t552, t553⟩ : S30), (⟨bt554.1, bt554.2⟩ : S30), (⟨bt556.1, bt556.2⟩ : S30)] : List (S30)))).bind fun bt561 => (if x6_22 = 0 then (if x5_22 = (-1) then (if t543 = 0 then (if t542.toList = ([53, 53] : List UInt8) then (if t549 = 0 then (if x12_44 = 0 then (if x11_44.toList = ([55] : List UInt8) then (if bt561.2 = 0 then (some (bt561.1.toList == ([50, 94, 40, 49, 47, 50, 41, 32, 51, 94, 40, 45, 49, 47, 52, 41, 32, 53] : List UInt8))) else (some false)) else (some false)) else (some false)) else (some false)) else (some false)) else (some false)) else (some false)) else (some false))))) = some r := H
       have A56 := Aside0.mk A560
       clear A560
       replace H := Option.bind_eq_some_iff.mp H
       obtain ⟨⟨t554, t555⟩, A570, H⟩ := H
       replace H : ((schismalaw13_part.f kj44 1 1).bind fun bt556 => ((size_Text.f kj44 y501 (([(⟨t552, t553⟩ : S30), (⟨t554, t555⟩ : S30), (⟨bt556.1, bt556.2⟩ : S30)] : List (S30)))).bind fun bt561 => (if x6_22 = 0 then (if x5_22 = (-1) then (if t543 = 0 then (if t542.toList = ([53, 53] : List UInt8) then (if t549 = 0 then (if x12_44 = 0 then (if x11_44.toList = ([55] : List UInt8) then (if bt561.2 = 0 then (some (bt561.1.toList == ([50, 94, 40, 49, 47, 50, 41, 32, 51, 94, 40, 45, 49, 47, 52, 41, 32, 53] : List UInt8))) else (some false)) else (some false)) else (some false)) else (some false)) else (some false)) else (some false)) else (some false)) else (some false)))) = some r := H
       have A57 := Aside0.mk A570
       clear A570
       replace H := Option.bind_eq_some_iff.mp H
       obtain ⟨⟨t556, t557⟩, A580, H⟩ := H
       replace H : ((size_Text.f kj44 y501 (([(⟨t552, t553⟩ : S30), (⟨t554, t555⟩ : S30), (⟨t556, t557⟩ : S30)] : List (S30)))).bind fun bt561 => (if x6_22 = 0 then (if x5_22 = (-1) then (if t543 = 0 then (if t542.toList = ([53, 53] : List UInt8) then (if t549 = 0 then (if x12_44 = 0 then (if x11_44.toList = ([55] : List UInt8) then (if bt561.2 = 0 then (some (bt561.1.toList == ([50, 94, 40, 49, 47, 50, 41, 32, 51, 94, 40, 45, 49, 47, 52, 41, 32, 53] : List UInt8))) else (some false)) else (some false)) else (some false)) else (some false)) else (some false)) else (some false)) else (some false)) else (some false))) = some r := H
       have A58 := Aside0.mk A580
       clear A580
       obtain ⟨y558, hy558⟩ : ∃ y_ : List (S30), y_ = (([(⟨t552, t553⟩ : S30), (⟨t554, t555⟩ : S30), (⟨t556, t557⟩ : S30)] : List (S30))) := ⟨_, rfl⟩
       replace H : ((size_Text.f kj44 y501 y558).bind fun bt561 => (if x6_22 = 0 then (if x5_22 = (-1) then (if t543 = 0 then (if t542.toList = ([53, 53] : List UInt8) then (if t549 = 0 then (if x12_44 = 0 then (if x11_44.toList = ([55] : List UInt8) then (if bt561.2 = 0 then (some (bt561.1.toList == ([50, 94, 40, 49, 47, 50, 41, 32, 51, 94, 40, 45, 49, 47, 52, 41, 32, 53] : List UInt8))) else (some false)) else (some false)) else (some false)) else (some false)) else (some false)) else (some false)) else (some false)) else (some false))) = some r := by first | (rw [hy558]; with_reducible exact H) | (have H2_ := (Option.bind_some _ _).symm.trans H; rw [hy558]; with_reducible exact H2_) | (have H2_ := (Option.bind_some _ _).symm.trans H; with_reducible exact H2_) | with_reducible exact H | (rw [hy558]; exact H) | exact H
       have Ny558 := Aside0.mk hy558
       clear hy558
       replace H := Option.bind_eq_some_iff.mp H
       obtain ⟨⟨t561, t562⟩, A590, H⟩ := H
       replace H : (if x6_22 = 0 then (if x5_22 = (-1) then (if t543 = 0 then (if t542.toList = ([53, 53] : List UInt8) then (if t549 = 0 then (if x12_44 = 0 then (if x11_44.toList = ([55] : List UInt8) then (if t562 = 0 then (some (t561.toList == ([50, 94, 40, 49, 47, 50, 41, 32, 51, 94, 40, 45, 49, 47, 52, 41, 32, 53] : List UInt8))) else (some false)) else (some false)) else (some false)) else (some false)) else (some false)) else (some false)) else (some false)) else (some false)) = some r := H
       have A59 := Aside0.mk A590
       clear A590
       by_cases c60 : x6_22 = 0
       ·rw [if_pos c60] at H
        have c60b0 : (x6_22 == 0) = true := beq_iff_eq.mpr c60
        have c60b1 : (x6_22 != 0) = false := bne_eq_false_iff_eq.mpr c60
        clear c60
        by_cases c61 : x5_22 = (-1)
        ·rw [if_pos c61] at H
         have c61b0 : (x5_22 == (-1)) = true := beq_iff_eq.mpr c61
         have c61b1 : (x5_22 != (-1)) = false := bne_eq_false_iff_eq.mpr c61
         clear c61
         by_cases c62 : t543 = 0
         ·rw [if_pos c62] at H
          have c62b0 : (t543 == 0) = true := beq_iff_eq.mpr c62
          have c62b1 : (t543 != 0) = false := bne_eq_false_iff_eq.mpr c62
          clear c62
          by_cases c63 : t542.toList = ([53, 53] : List UInt8)
          ·rw [if_pos c63] at H
           have c63b0 : (t542.toList == ([53, 53] : List UInt8)) = true := beq_iff_eq.mpr c63
           have c63b1 : (t542.toList != ([53, 53] : List UInt8)) = false := bne_eq_false_iff_eq.mpr c63
           clear c63
           by_cases c64 : t549 = 0
           ·rw [if_pos c64] at H
            have c64b0 : (t549 == 0) = true := beq_iff_eq.mpr c64
            have c64b1 : (t549 != 0) = false := bne_eq_false_iff_eq.mpr c64
            clear c64
            by_cases c65 : x12_44 = 0
            ·rw [if_pos c65] at H
             have c65b0 : (x12_44 == 0) = true := beq_iff_eq.mpr c65
             have c65b1 : (x12_44 != 0) = false := bne_eq_false_iff_eq.mpr c65
             clear c65
             by_cases c66 : x11_44.toList = ([55] : List UInt8)
             ·rw [if_pos c66] at H
              have c66b0 : (x11_44.toList == ([55] : List UInt8)) = true := beq_iff_eq.mpr c66
              have c66b1 : (x11_44.toList != ([55] : List UInt8)) = false := bne_eq_false_iff_eq.mpr c66
              clear c66
              by_cases c67 : t562 = 0
              ·rw [if_pos c67] at H
               have c67b0 : (t562 == 0) = true := beq_iff_eq.mpr c67
               have c67b1 : (t562 != 0) = false := bne_eq_false_iff_eq.mpr c67
               clear c67
               obtain rfl := Option.some.inj H
               go_wp2_with (first | ((with_reducible refine gate_callee (f := 18) rfl ?_); refine goesM (some 61) Tryz.func18 #[.int .i64 1, .int .i64 2] ?_; (with_reducible refine (schismalaw13_part.calls kj44 1 2 t552 t553 _ ?side1 A56.out).mono ?_); (case side1 => exact Glob.below HG0.out (bl HB)); rintro e w68 ⟨rfl, hb⟩; refine ⟨_, rfl, ?_⟩; replace HO_1 := Aside0.mk (Kd.R_below (kr HO_1) hb); replace HB := Aside0.mk (below_step (bl HB) hb); (try clear hb); (try clear hb2); (try clear hk); (try clear hi)) | ((with_reducible refine gate_callee (f := 18) rfl ?_); refine goesM (some 62) Tryz.func18 #[.int .i64 (-1), .int .i64 4] ?_; (with_reducible refine (schismalaw13_part.calls kj44 (-1) 4 t554 t555 _ ?side1 A57.out).mono ?_); (case side1 => exact Glob.below HG0.out (bl HB)); rintro e w69 ⟨rfl, hb⟩; refine ⟨_, rfl, ?_⟩; replace HO_1 := Aside0.mk (Kd.R_below (kr HO_1) hb); replace HB := Aside0.mk (below_step (bl HB) hb); (try clear hb); (try clear hb2); (try clear hk); (try clear hi)) | ((with_reducible refine gate_callee (f := 18) rfl ?_); refine goesM (some 63) Tryz.func18 #[.int .i64 1, .int .i64 1] ?_; (with_reducible refine (schismalaw13_part.calls kj44 1 1 t556 t557 _ ?side1 A58.out).mono ?_); (case side1 => exact Glob.below HG0.out (bl HB)); rintro e w70 ⟨rfl, hb⟩; refine ⟨_, rfl, ?_⟩; replace HO_1 := Aside0.mk (Kd.R_below (kr HO_1) hb); replace HB := Aside0.mk (below_step (bl HB) hb); (try clear hb); (try clear hb2); (try clear hk); (try clear hi)) | ((with_reducible refine gate_dst (N := 64) rfl ?_); refine Kd.R_lit k30 _ 30 ?hg (N := 64) ?hd (xs := ([(⟨t552, t553⟩ : S30), (⟨t554, t555⟩ : S30), (⟨t556, t557⟩ : S30)] : List (S30))) (inner := [.string t552, .string t553, .string t554, .string t555, .string t556, .string t557]) (ok := fun _ => True) (okp := fun _ => True) ?hr ?hp (fun _ hk => hk) trivial (Below.refl _ _) (Nat.le_refl _) (by simp) ?_; (case hd => rfl); (case hg => rfl); (case hr => first | (go_simp; done) | (go_simp; rfl)); (case hp => exact (Reps.c2 (show Kd.M k30 _ _ _ (⟨t552, t553⟩ : S30) [.string t552, .string t553] from (k30_mkM _ _ _ (⟨t552, t553⟩ : S30) )) (Reps.c2 (show Kd.M k30 _ _ _ (⟨t554, t555⟩ : S30) [.string t554, .string t555] from (k30_mkM _ _ _ (⟨t554, t555⟩ : S30) )) (Reps.c2 (show Kd.M k30 _ _ _ (⟨t556, t557⟩ : S30) [.string t556, .string t557] from (k30_mkM _ _ _ (⟨t556, t557⟩ : S30) )) (Reps.none _ _))))); intro v559 w71 ho72 hb hg_ hnew_; clear hg_ hnew_; (first | rw [← Ny558.out] at ho72 | (simp only [Int.reduceToNat] at ho72; rw [← Ny558.out] at ho72)); replace HO_1 := Aside0.mk (Kd.R_below (kr HO_1) hb); have HO560 := Aside0.mk (Kd.R_lower ho72 (below_size (bl HB))); replace HB := Aside0.mk (below_step (bl HB) hb); clear hb ho72; obtain ⟨Ao73, co73, eo73⟩ := Kd.R_slice HO560.out; subst eo73) | ((with_reducible refine gate_callee (f := 45) rfl ?_); refine goesM (some 65) Tryz.func45 #[.slice Ao46 y501.length co46, .slice Ao73 y558.length co73] ?_; (with_reducible refine (size_Text.calls kj44 _ _ y501 _ _ y558 t561 t562 _ ?side1 ?side2 ?side3 ?side4 ?side5 A59.out).mono ?_); (case side1 => exact Glob.below HG0.out (bl HB)); (case side2 => repeat (first | exact (Kd.R_reads' HO_1.out).2.2 | (with_reducible refine Kd.C_alloc ?_ _) | (with_reducible refine Kd.C_drewN ?_ _) | (with_reducible refine Kd.C_drew ?_))); (case side3 => exact (Kd.R_reads' HO_1.out).2.1); (case side4 => repeat (first | exact (Kd.R_reads' HO560.out).2.2 | (with_reducible refine Kd.C_alloc ?_ _) | (with_reducible refine Kd.C_drewN ?_ _) | (with_reducible refine Kd.C_drew ?_))); (case side5 => exact (Kd.R_reads' HO560.out).2.1); rintro e w74 ⟨rfl, hb⟩; refine ⟨_, rfl, ?_⟩; replace HO_1 := Aside0.mk (Kd.R_below (kr HO_1) hb); replace HO560 := Aside0.mk (Kd.R_below (kr HO560) hb); replace HB := Aside0.mk (below_step (bl HB) hb); (try clear hb); (try clear hb2); (try clear hk); (try clear hi)))
               go_ret
               exact ⟨rl, bl HB⟩
              ·rw [if_neg c67] at H
               have c67b0 : (t562 == 0) = false := beq_eq_false_iff_ne.mpr c67
               have c67b1 : (t562 != 0) = true := bne_iff_ne.mpr c67
               obtain rfl := Option.some.inj H
               go_wp2_with (first | ((with_reducible refine gate_callee (f := 18) rfl ?_); refine goesM (some 61) Tryz.func18 #[.int .i64 1, .int .i64 2] ?_; (with_reducible refine (schismalaw13_part.calls kj44 1 2 t552 t553 _ ?side1 A56.out).mono ?_); (case side1 => exact Glob.below HG0.out (bl HB)); rintro e w75 ⟨rfl, hb⟩; refine ⟨_, rfl, ?_⟩; replace HO_1 := Aside0.mk (Kd.R_below (kr HO_1) hb); replace HB := Aside0.mk (below_step (bl HB) hb); (try clear hb); (try clear hb2); (try clear hk); (try clear hi)) | ((with_reducible refine gate_callee (f := 18) rfl ?_); refine goesM (some 62) Tryz.func18 #[.int .i64 (-1), .int .i64 4] ?_; (with_reducible refine (schismalaw13_part.calls kj44 (-1) 4 t554 t555 _ ?side1 A57.out).mono ?_); (case side1 => exact Glob.below HG0.out (bl HB)); rintro e w76 ⟨rfl, hb⟩; refine ⟨_, rfl, ?_⟩; replace HO_1 := Aside0.mk (Kd.R_below (kr HO_1) hb); replace HB := Aside0.mk (below_step (bl HB) hb); (try clear hb); (try clear hb2); (try clear hk); (try clear hi)) | ((with_reducible refine gate_callee (f := 18) rfl ?_); refine goesM (some 63) Tryz.func18 #[.int .i64 1, .int .i64 1] ?_; (with_reducible refine (schismalaw13_part.calls kj44 1 1 t556 t557 _ ?side1 A58.out).mono ?_); (case side1 => exact Glob.below HG0.out (bl HB)); rintro e w77 ⟨rfl, hb⟩; refine ⟨_, rfl, ?_⟩; replace HO_1 := Aside0.mk (Kd.R_below (kr HO_1) hb); replace HB := Aside0.mk (below_step (bl HB) hb); (try clear hb); (try clear hb2); (try clear hk); (try clear hi)) | ((with_reducible refine gate_dst (N := 64) rfl ?_); refine Kd.R_lit k30 _ 30 ?hg (N := 64) ?hd (xs := ([(⟨t552, t553⟩ : S30), (⟨t554, t555⟩ : S30), (⟨t556, t557⟩ : S30)] : List (S30))) (inner := [.string t552, .string t553, .string t554, .string t555, .string t556, .string t557]) (ok := fun _ => True) (okp := fun _ => True) ?hr ?hp (fun _ hk => hk) trivial (Below.refl _ _) (Nat.le_refl _) (by simp) ?_; (case hd => rfl); (case hg => rfl); (case hr => first | (go_simp; done) | (go_simp; rfl)); (case hp => exact (Reps.c2 (show Kd.M k30 _ _ _ (⟨t552, t553⟩ : S30) [.string t552, .string t553] from (k30_mkM _ _ _ (⟨t552, t553⟩ : S30) )) (Reps.c2 (show Kd.M k30 _ _ _ (⟨t554, t555⟩ : S30) [.string t554, .string t555] from (k30_mkM _ _ _ (⟨t554, t555⟩ : S30) )) (Reps.c2 (show Kd.M k30 _ _ _ (⟨t556, t557⟩ : S30) [.string t556, .string t557] from (k30_mkM _ _ _ (⟨t556, t557⟩ : S30) )) (Reps.none _ _))))); intro v559 w78 ho79 hb hg_ hnew_; clear hg_ hnew_; (first | rw [← Ny558.out] at ho79 | (simp only [Int.reduceToNat] at ho79; rw [← Ny558.out] at ho79)); replace HO_1 := Aside0.mk (Kd.R_below (kr HO_1) hb); have HO560 := Aside0.mk (Kd.R_lower ho79 (below_size (bl HB))); replace HB := Aside0.mk (below_step (bl HB) hb); clear hb ho79; obtain ⟨Ao80, co80, eo80⟩ := Kd.R_slice HO560.out; subst eo80) | ((with_reducible refine gate_callee (f := 45) rfl ?_); refine goesM (some 65) Tryz.func45 #[.slice Ao46 y501.length co46, .slice Ao80 y558.length co80] ?_; (with_reducible refine (size_Text.calls kj44 _ _ y501 _ _ y558 t561 t562 _ ?side1 ?side2 ?side3 ?side4 ?side5 A59.out).mono ?_); (case side1 => exact Glob.below HG0.out (bl HB)); (case side2 => repeat (first | exact (Kd.R_reads' HO_1.out).2.2 | (with_reducible refine Kd.C_alloc ?_ _) | (with_reducible refine Kd.C_drewN ?_ _) | (with_reducible refine Kd.C_drew ?_))); (case side3 => exact (Kd.R_reads' HO_1.out).2.1); (case side4 => repeat (first | exact (Kd.R_reads' HO560.out).2.2 | (with_reducible refine Kd.C_alloc ?_ _) | (with_reducible refine Kd.C_drewN ?_ _) | (with_reducible refine Kd.C_drew ?_))); (case side5 => exact (Kd.R_reads' HO560.out).2.1); rintro e w81 ⟨rfl, hb⟩; refine ⟨_, rfl, ?_⟩; replace HO_1 := Aside0.mk (Kd.R_below (kr HO_1) hb); replace HO560 := Aside0.mk (Kd.R_below (kr HO560) hb); replace HB := Aside0.mk (below_step (bl HB) hb); (try clear hb); (try clear hb2); (try clear hk); (try clear hi)))
               go_ret
               exact ⟨rl, bl HB⟩
             ·rw [if_neg c66] at H
              have c66b0 : (x11_44.toList == ([55] : List UInt8)) = false := beq_eq_false_iff_ne.mpr c66
              have c66b1 : (x11_44.toList != ([55] : List UInt8)) = true := bne_iff_ne.mpr c66
              obtain rfl := Option.some.inj H
              go_wp2_with (first | ((with_reducible refine gate_callee (f := 18) rfl ?_); refine goesM (some 61) Tryz.func18 #[.int .i64 1, .int .i64 2] ?_; (with_reducible refine (schismalaw13_part.calls kj44 1 2 t552 t553 _ ?side1 A56.out).mono ?_); (case side1 => exact Glob.below HG0.out (bl HB)); rintro e w82 ⟨rfl, hb⟩; refine ⟨_, rfl, ?_⟩; replace HO_1 := Aside0.mk (Kd.R_below (kr HO_1) hb); replace HB := Aside0.mk (below_step (bl HB) hb); (try clear hb); (try clear hb2); (try clear hk); (try clear hi)) | ((with_reducible refine gate_callee (f := 18) rfl ?_); refine goesM (some 62) Tryz.func18 #[.int .i64 (-1), .int .i64 4] ?_; (with_reducible refine (schismalaw13_part.calls kj44 (-1) 4 t554 t555 _ ?side1 A57.out).mono ?_); (case side1 => exact Glob.below HG0.out (bl HB)); rintro e w83 ⟨rfl, hb⟩; refine ⟨_, rfl, ?_⟩; replace HO_1 := Aside0.mk (Kd.R_below (kr HO_1) hb); replace HB := Aside0.mk (below_step (bl HB) hb); (try clear hb); (try clear hb2); (try clear hk); (try clear hi)) | ((with_reducible refine gate_callee (f := 18) rfl ?_); refine goesM (some 63) Tryz.func18 #[.int .i64 1, .int .i64 1] ?_; (with_reducible refine (schismalaw13_part.calls kj44 1 1 t556 t557 _ ?side1 A58.out).mono ?_); (case side1 => exact Glob.below HG0.out (bl HB)); rintro e w84 ⟨rfl, hb⟩; refine ⟨_, rfl, ?_⟩; replace HO_1 := Aside0.mk (Kd.R_below (kr HO_1) hb); replace HB := Aside0.mk (below_step (bl HB) hb); (try clear hb); (try clear hb2); (try clear hk); (try clear hi)) | ((with_reducible refine gate_dst (N := 64) rfl ?_); refine Kd.R_lit k30 _ 30 ?hg (N := 64) ?hd (xs := ([(⟨t552, t553⟩ : S30), (⟨t554, t555⟩ : S30), (⟨t556, t557⟩ : S30)] : List (S30))) (inner := [.string t552, .string t553, .string t554, .string t555, .string t556, .string t557]) (ok := fun _ => True) (okp := fun _ => True) ?hr ?hp (fun _ hk => hk) trivial (Below.refl _ _) (Nat.le_refl _) (by simp) ?_; (case hd => rfl); (case hg => rfl); (case hr => first | (go_simp; done) | (go_simp; rfl)); (case hp => exact (Reps.c2 (show Kd.M k30 _ _ _ (⟨t552, t553⟩ : S30) [.string t552, .string t553] from (k30_mkM _ _ _ (⟨t552, t553⟩ : S30) )) (Reps.c2 (show Kd.M k30 _ _ _ (⟨t554, t555⟩ : S30) [.string t554, .string t555] from (k30_mkM _ _ _ (⟨t554, t555⟩ : S30) )) (Reps.c2 (show Kd.M k30 _ _ _ (⟨t556, t557⟩ : S30) [.string t556, .string t557] from (k30_mkM _ _ _ (⟨t556, t557⟩ : S30) )) (Reps.none _ _))))); intro v559 w85 ho86 hb hg_ hnew_; clear hg_ hnew_; (first | rw [← Ny558.out] at ho86 | (simp only [Int.reduceToNat] at ho86; rw [← Ny558.out] at ho86)); replace HO_1 := Aside0.mk (Kd.R_below (kr HO_1) hb); have HO560 := Aside0.mk (Kd.R_lower ho86 (below_size (bl HB))); replace HB := Aside0.mk (below_step (bl HB) hb); clear hb ho86; obtain ⟨Ao87, co87, eo87⟩ := Kd.R_slice HO560.out; subst eo87) | ((with_reducible refine gate_callee (f := 45) rfl ?_); refine goesM (some 65) Tryz.func45 #[.slice Ao46 y501.length co46, .slice Ao87 y558.length co87] ?_; (with_reducible refine (size_Text.calls kj44 _ _ y501 _ _ y558 t561 t562 _ ?side1 ?side2 ?side3 ?side4 ?side5 A59.out).mono ?_); (case side1 => exact Glob.below HG0.out (bl HB)); (case side2 => repeat (first | exact (Kd.R_reads' HO_1.out).2.2 | (with_reducible refine Kd.C_alloc ?_ _) | (with_reducible refine Kd.C_drewN ?_ _) | (with_reducible refine Kd.C_drew ?_))); (case side3 => exact (Kd.R_reads' HO_1.out).2.1); (case side4 => repeat (first | exact (Kd.R_reads' HO560.out).2.2 | (with_reducible refine Kd.C_alloc ?_ _) | (with_reducible refine Kd.C_drewN ?_ _) | (with_reducible refine Kd.C_drew ?_))); (case side5 => exact (Kd.R_reads' HO560.out).2.1); rintro e w88 ⟨rfl, hb⟩; refine ⟨_, rfl, ?_⟩; replace HO_1 := Aside0.mk (Kd.R_below (kr HO_1) hb); replace HO560 := Aside0.mk (Kd.R_below (kr HO560) hb); replace HB := Aside0.mk (below_step (bl HB) hb); (try clear hb); (try clear hb2); (try clear hk); (try clear hi)))
              go_ret
              exact ⟨rl, bl HB⟩
            ·rw [if_neg c65] at H
             have c65b0 : (x12_44 == 0) = false := beq_eq_false_iff_ne.mpr c65
             have c65b1 : (x12_44 != 0) = true := bne_iff_ne.mpr c65
             obtain rfl := Option.some.inj H
             go_wp2_with (first | ((with_reducible refine gate_callee (f := 18) rfl ?_); refine goesM (some 61) Tryz.func18 #[.int .i64 1, .int .i64 2] ?_; (with_reducible refine (schismalaw13_part.calls kj44 1 2 t552 t553 _ ?side1 A56.out).mono ?_); (case side1 => exact Glob.below HG0.out (bl HB)); rintro e w89 ⟨rfl, hb⟩; refine ⟨_, rfl, ?_⟩; replace HO_1 := Aside0.mk (Kd.R_below (kr HO_1) hb); replace HB := Aside0.mk (below_step (bl HB) hb); (try clear hb); (try clear hb2); (try clear hk); (try clear hi)) | ((with_reducible refine gate_callee (f := 18) rfl ?_); refine goesM (some 62) Tryz.func18 #[.int .i64 (-1), .int .i64 4] ?_; (with_reducible refine (schismalaw13_part.calls kj44 (-1) 4 t554 t555 _ ?side1 A57.out).mono ?_); (case side1 => exact Glob.below HG0.out (bl HB)); rintro e w90 ⟨rfl, hb⟩; refine ⟨_, rfl, ?_⟩; replace HO_1 := Aside0.mk (Kd.R_below (kr HO_1) hb); replace HB := Aside0.mk (below_step (bl HB) hb); (try clear hb); (try clear hb2); (try clear hk); (try clear hi)) | ((with_reducible refine gate_callee (f := 18) rfl ?_); refine goesM (some 63) Tryz.func18 #[.int .i64 1, .int .i64 1] ?_; (with_reducible refine (schismalaw13_part.calls kj44 1 1 t556 t557 _ ?side1 A58.out).mono ?_); (case side1 => exact Glob.below HG0.out (bl HB)); rintro e w91 ⟨rfl, hb⟩; refine ⟨_, rfl, ?_⟩; replace HO_1 := Aside0.mk (Kd.R_below (kr HO_1) hb); replace HB := Aside0.mk (below_step (bl HB) hb); (try clear hb); (try clear hb2); (try clear hk); (try clear hi)) | ((with_reducible refine gate_dst (N := 64) rfl ?_); refine Kd.R_lit k30 _ 30 ?hg (N := 64) ?hd (xs := ([(⟨t552, t553⟩ : S30), (⟨t554, t555⟩ : S30), (⟨t556, t557⟩ : S30)] : List (S30))) (inner := [.string t552, .string t553, .string t554, .string t555, .string t556, .string t557]) (ok := fun _ => True) (okp := fun _ => True) ?hr ?hp (fun _ hk => hk) trivial (Below.refl _ _) (Nat.le_refl _) (by simp) ?_; (case hd => rfl); (case hg => rfl); (case hr => first | (go_simp; done) | (go_simp; rfl)); (case hp => exact (Reps.c2 (show Kd.M k30 _ _ _ (⟨t552, t553⟩ : S30) [.string t552, .string t553] from (k30_mkM _ _ _ (⟨t552, t553⟩ : S30) )) (Reps.c2 (show Kd.M k30 _ _ _ (⟨t554, t555⟩ : S30) [.string t554, .string t555] from (k30_mkM _ _ _ (⟨t554, t555⟩ : S30) )) (Reps.c2 (show Kd.M k30 _ _ _ (⟨t556, t557⟩ : S30) [.string t556, .string t557] from (k30_mkM _ _ _ (⟨t556, t557⟩ : S30) )) (Reps.none _ _))))); intro v559 w92 ho93 hb hg_ hnew_; clear hg_ hnew_; (first | rw [← Ny558.out] at ho93 | (simp only [Int.reduceToNat] at ho93; rw [← Ny558.out] at ho93)); replace HO_1 := Aside0.mk (Kd.R_below (kr HO_1) hb); have HO560 := Aside0.mk (Kd.R_lower ho93 (below_size (bl HB))); replace HB := Aside0.mk (below_step (bl HB) hb); clear hb ho93; obtain ⟨Ao94, co94, eo94⟩ := Kd.R_slice HO560.out; subst eo94) | ((with_reducible refine gate_callee (f := 45) rfl ?_); refine goesM (some 65) Tryz.func45 #[.slice Ao46 y501.length co46, .slice Ao94 y558.length co94] ?_; (with_reducible refine (size_Text.calls kj44 _ _ y501 _ _ y558 t561 t562 _ ?side1 ?side2 ?side3 ?side4 ?side5 A59.out).mono ?_); (case side1 => exact Glob.below HG0.out (bl HB)); (case side2 => repeat (first | exact (Kd.R_reads' HO_1.out).2.2 | (with_reducible refine Kd.C_alloc ?_ _) | (with_reducible refine Kd.C_drewN ?_ _) | (with_reducible refine Kd.C_drew ?_))); (case side3 => exact (Kd.R_reads' HO_1.out).2.1); (case side4 => repeat (first | exact (Kd.R_reads' HO560.out).2.2 | (with_reducible refine Kd.C_alloc ?_ _) | (with_reducible refine Kd.C_drewN ?_ _) | (with_reducible refine Kd.C_drew ?_))); (case side5 => exact (Kd.R_reads' HO560.out).2.1); rintro e w95 ⟨rfl, hb⟩; refine ⟨_, rfl, ?_⟩; replace HO_1 := Aside0.mk (Kd.R_below (kr HO_1) hb); replace HO560 := Aside0.mk (Kd.R_below (kr HO560) hb); replace HB := Aside0.mk (below_step (bl HB) hb); (try clear hb); (try clear hb2); (try clear hk); (try clear hi)))
             go_ret
             exact ⟨rl, bl HB⟩
           ·rw [if_neg c64] at H
            have c64b0 : (t549 == 0) = false := beq_eq_false_iff_ne.mpr c64
            have c64b1 : (t549 != 0) = true := bne_iff_ne.mpr c64
            obtain rfl := Option.some.inj H
            go_wp2_with (first | ((with_reducible refine gate_callee (f := 18) rfl ?_); refine goesM (some 61) Tryz.func18 #[.int .i64 1, .int .i64 2] ?_; (with_reducible refine (schismalaw13_part.calls kj44 1 2 t552 t553 _ ?side1 A56.out).mono ?_); (case side1 => exact Glob.below HG0.out (bl HB)); rintro e w96 ⟨rfl, hb⟩; refine ⟨_, rfl, ?_⟩; replace HO_1 := Aside0.mk (Kd.R_below (kr HO_1) hb); replace HB := Aside0.mk (below_step (bl HB) hb); (try clear hb); (try clear hb2); (try clear hk); (try clear hi)) | ((with_reducible refine gate_callee (f := 18) rfl ?_); refine goesM (some 62) Tryz.func18 #[.int .i64 (-1), .int .i64 4] ?_; (with_reducible refine (schismalaw13_part.calls kj44 (-1) 4 t554 t555 _ ?side1 A57.out).mono ?_); (case side1 => exact Glob.below HG0.out (bl HB)); rintro e w97 ⟨rfl, hb⟩; refine ⟨_, rfl, ?_⟩; replace HO_1 := Aside0.mk (Kd.R_below (kr HO_1) hb); replace HB := Aside0.mk (below_step (bl HB) hb); (try clear hb); (try clear hb2); (try clear hk); (try clear hi)) | ((with_reducible refine gate_callee (f := 18) rfl ?_); refine goesM (some 63) Tryz.func18 #[.int .i64 1, .int .i64 1] ?_; (with_reducible refine (schismalaw13_part.calls kj44 1 1 t556 t557 _ ?side1 A58.out).mono ?_); (case side1 => exact Glob.below HG0.out (bl HB)); rintro e w98 ⟨rfl, hb⟩; refine ⟨_, rfl, ?_⟩; replace HO_1 := Aside0.mk (Kd.R_below (kr HO_1) hb); replace HB := Aside0.mk (below_step (bl HB) hb); (try clear hb); (try clear hb2); (try clear hk); (try clear hi)) | ((with_reducible refine gate_dst (N := 64) rfl ?_); refine Kd.R_lit k30 _ 30 ?hg (N := 64) ?hd (xs := ([(⟨t552, t553⟩ : S30), (⟨t554, t555⟩ : S30), (⟨t556, t557⟩ : S30)] : List (S30))) (inner := [.string t552, .string t553, .string t554, .string t555, .string t556, .string t557]) (ok := fun _ => True) (okp := fun _ => True) ?hr ?hp (fun _ hk => hk) trivial (Below.refl _ _) (Nat.le_refl _) (by simp) ?_; (case hd => rfl); (case hg => rfl); (case hr => first | (go_simp; done) | (go_simp; rfl)); (case hp => exact (Reps.c2 (show Kd.M k30 _ _ _ (⟨t552, t553⟩ : S30) [.string t552, .string t553] from (k30_mkM _ _ _ (⟨t552, t553⟩ : S30) )) (Reps.c2 (show Kd.M k30 _ _ _ (⟨t554, t555⟩ : S30) [.string t554, .string t555] from (k30_mkM _ _ _ (⟨t554, t555⟩ : S30) )) (Reps.c2 (show Kd.M k30 _ _ _ (⟨t556, t557⟩ : S30) [.string t556, .string t557] from (k30_mkM _ _ _ (⟨t556, t557⟩ : S30) )) (Reps.none _ _))))); intro v559 w99 ho100 hb hg_ hnew_; clear hg_ hnew_; (first | rw [← Ny558.out] at ho100 | (simp only [Int.reduceToNat] at ho100; rw [← Ny558.out] at ho100)); replace HO_1 := Aside0.mk (Kd.R_below (kr HO_1) hb); have HO560 := Aside0.mk (Kd.R_lower ho100 (below_size (bl HB))); replace HB := Aside0.mk (below_step (bl HB) hb); clear hb ho100; obtain ⟨Ao101, co101, eo101⟩ := Kd.R_slice HO560.out; subst eo101) | ((with_reducible refine gate_callee (f := 45) rfl ?_); refine goesM (some 65) Tryz.func45 #[.slice Ao46 y501.length co46, .slice Ao101 y558.length co101] ?_; (with_reducible refine (size_Text.calls kj44 _ _ y501 _ _ y558 t561 t562 _ ?side1 ?side2 ?side3 ?side4 ?side5 A59.out).mono ?_); (case side1 => exact Glob.below HG0.out (bl HB)); (case side2 => repeat (first | exact (Kd.R_reads' HO_1.out).2.2 | (with_reducible refine Kd.C_alloc ?_ _) | (with_reducible refine Kd.C_drewN ?_ _) | (with_reducible refine Kd.C_drew ?_))); (case side3 => exact (Kd.R_reads' HO_1.out).2.1); (case side4 => repeat (first | exact (Kd.R_reads' HO560.out).2.2 | (with_reducible refine Kd.C_alloc ?_ _) | (with_reducible refine Kd.C_drewN ?_ _) | (with_reducible refine Kd.C_drew ?_))); (case side5 => exact (Kd.R_reads' HO560.out).2.1); rintro e w102 ⟨rfl, hb⟩; refine ⟨_, rfl, ?_⟩; replace HO_1 := Aside0.mk (Kd.R_below (kr HO_1) hb); replace HO560 := Aside0.mk (Kd.R_below (kr HO560) hb); replace HB := Aside0.mk (below_step (bl HB) hb); (try clear hb); (try clear hb2); (try clear hk); (try clear hi)))
            go_ret
            exact ⟨rl, bl HB⟩
          ·rw [if_neg c63] at H
           have c63b0 : (t542.toList == ([53, 53] : List UInt8)) = false := beq_eq_false_iff_ne.mpr c63
           have c63b1 : (t542.toList != ([53, 53] : List UInt8)) = true := bne_iff_ne.mpr c63
           obtain rfl := Option.some.inj H
           go_wp2_with (first | ((with_reducible refine gate_callee (f := 18) rfl ?_); refine goesM (some 61) Tryz.func18 #[.int .i64 1, .int .i64 2] ?_; (with_reducible refine (schismalaw13_part.calls kj44 1 2 t552 t553 _ ?side1 A56.out).mono ?_); (case side1 => exact Glob.below HG0.out (bl HB)); rintro e w103 ⟨rfl, hb⟩; refine ⟨_, rfl, ?_⟩; replace HO_1 := Aside0.mk (Kd.R_below (kr HO_1) hb); replace HB := Aside0.mk (below_step (bl HB) hb); (try clear hb); (try clear hb2); (try clear hk); (try clear hi)) | ((with_reducible refine gate_callee (f := 18) rfl ?_); refine goesM (some 62) Tryz.func18 #[.int .i64 (-1), .int .i64 4] ?_; (with_reducible refine (schismalaw13_part.calls kj44 (-1) 4 t554 t555 _ ?side1 A57.out).mono ?_); (case side1 => exact Glob.below HG0.out (bl HB)); rintro e w104 ⟨rfl, hb⟩; refine ⟨_, rfl, ?_⟩; replace HO_1 := Aside0.mk (Kd.R_below (kr HO_1) hb); replace HB := Aside0.mk (below_step (bl HB) hb); (try clear hb); (try clear hb2); (try clear hk); (try clear hi)) | ((with_reducible refine gate_callee (f := 18) rfl ?_); refine goesM (some 63) Tryz.func18 #[.int .i64 1, .int .i64 1] ?_; (with_reducible refine (schismalaw13_part.calls kj44 1 1 t556 t557 _ ?side1 A58.out).mono ?_); (case side1 => exact Glob.below HG0.out (bl HB)); rintro e w105 ⟨rfl, hb⟩; refine ⟨_, rfl, ?_⟩; replace HO_1 := Aside0.mk (Kd.R_below (kr HO_1) hb); replace HB := Aside0.mk (below_step (bl HB) hb); (try clear hb); (try clear hb2); (try clear hk); (try clear hi)) | ((with_reducible refine gate_dst (N := 64) rfl ?_); refine Kd.R_lit k30 _ 30 ?hg (N := 64) ?hd (xs := ([(⟨t552, t553⟩ : S30), (⟨t554, t555⟩ : S30), (⟨t556, t557⟩ : S30)] : List (S30))) (inner := [.string t552, .string t553, .string t554, .string t555, .string t556, .string t557]) (ok := fun _ => True) (okp := fun _ => True) ?hr ?hp (fun _ hk => hk) trivial (Below.refl _ _) (Nat.le_refl _) (by simp) ?_; (case hd => rfl); (case hg => rfl); (case hr => first | (go_simp; done) | (go_simp; rfl)); (case hp => exact (Reps.c2 (show Kd.M k30 _ _ _ (⟨t552, t553⟩ : S30) [.string t552, .string t553] from (k30_mkM _ _ _ (⟨t552, t553⟩ : S30) )) (Reps.c2 (show Kd.M k30 _ _ _ (⟨t554, t555⟩ : S30) [.string t554, .string t555] from (k30_mkM _ _ _ (⟨t554, t555⟩ : S30) )) (Reps.c2 (show Kd.M k30 _ _ _ (⟨t556, t557⟩ : S30) [.string t556, .string t557] from (k30_mkM _ _ _ (⟨t556, t557⟩ : S30) )) (Reps.none _ _))))); intro v559 w106 ho107 hb hg_ hnew_; clear hg_ hnew_; (first | rw [← Ny558.out] at ho107 | (simp only [Int.reduceToNat] at ho107; rw [← Ny558.out] at ho107)); replace HO_1 := Aside0.mk (Kd.R_below (kr HO_1) hb); have HO560 := Aside0.mk (Kd.R_lower ho107 (below_size (bl HB))); replace HB := Aside0.mk (below_step (bl HB) hb); clear hb ho107; obtain ⟨Ao108, co108, eo108⟩ := Kd.R_slice HO560.out; subst eo108) | ((with_reducible refine gate_callee (f := 45) rfl ?_); refine goesM (some 65) Tryz.func45 #[.slice Ao46 y501.length co46, .slice Ao108 y558.length co108] ?_; (with_reducible refine (size_Text.calls kj44 _ _ y501 _ _ y558 t561 t562 _ ?side1 ?side2 ?side3 ?side4 ?side5 A59.out).mono ?_); (case side1 => exact Glob.below HG0.out (bl HB)); (case side2 => repeat (first | exact (Kd.R_reads' HO_1.out).2.2 | (with_reducible refine Kd.C_alloc ?_ _) | (with_reducible refine Kd.C_drewN ?_ _) | (with_reducible refine Kd.C_drew ?_))); (case side3 => exact (Kd.R_reads' HO_1.out).2.1); (case side4 => repeat (first | exact (Kd.R_reads' HO560.out).2.2 | (with_reducible refine Kd.C_alloc ?_ _) | (with_reducible refine Kd.C_drewN ?_ _) | (with_reducible refine Kd.C_drew ?_))); (case side5 => exact (Kd.R_reads' HO560.out).2.1); rintro e w109 ⟨rfl, hb⟩; refine ⟨_, rfl, ?_⟩; replace HO_1 := Aside0.mk (Kd.R_below (kr HO_1) hb); replace HO560 := Aside0.mk (Kd.R_below (kr HO560) hb); replace HB := Aside0.mk (below_step (bl HB) hb); (try clear hb); (try clear hb2); (try clear hk); (try clear hi)))
           go_ret
           exact ⟨rl, bl HB⟩
         ·rw [if_neg c62] at H
          have c62b0 : (t543 == 0) = false := beq_eq_false_iff_ne.mpr c62
          have c62b1 : (t543 != 0) = true := bne_iff_ne.mpr c62
          obtain rfl := Option.some.inj H
          go_wp2_with (first | ((with_reducible refine gate_callee (f := 18) rfl ?_); refine goesM (some 61) Tryz.func18 #[.int .i64 1, .int .i64 2] ?_; (with_reducible refine (schismalaw13_part.calls kj44 1 2 t552 t553 _ ?side1 A56.out).mono ?_); (case side1 => exact Glob.below HG0.out (bl HB)); rintro e w110 ⟨rfl, hb⟩; refine ⟨_, rfl, ?_⟩; replace HO_1 := Aside0.mk (Kd.R_below (kr HO_1) hb); replace HB := Aside0.mk (below_step (bl HB) hb); (try clear hb); (try clear hb2); (try clear hk); (try clear hi)) | ((with_reducible refine gate_callee (f := 18) rfl ?_); refine goesM (some 62) Tryz.func18 #[.int .i64 (-1), .int .i64 4] ?_; (with_reducible refine (schismalaw13_part.calls kj44 (-1) 4 t554 t555 _ ?side1 A57.out).mono ?_); (case side1 => exact Glob.below HG0.out (bl HB)); rintro e w111 ⟨rfl, hb⟩; refine ⟨_, rfl, ?_⟩; replace HO_1 := Aside0.mk (Kd.R_below (kr HO_1) hb); replace HB := Aside0.mk (below_step (bl HB) hb); (try clear hb); (try clear hb2); (try clear hk); (try clear hi)) | ((with_reducible refine gate_callee (f := 18) rfl ?_); refine goesM (some 63) Tryz.func18 #[.int .i64 1, .int .i64 1] ?_; (with_reducible refine (schismalaw13_part.calls kj44 1 1 t556 t557 _ ?side1 A58.out).mono ?_); (case side1 => exact Glob.below HG0.out (bl HB)); rintro e w112 ⟨rfl, hb⟩; refine ⟨_, rfl, ?_⟩; replace HO_1 := Aside0.mk (Kd.R_below (kr HO_1) hb); replace HB := Aside0.mk (below_step (bl HB) hb); (try clear hb); (try clear hb2); (try clear hk); (try clear hi)) | ((with_reducible refine gate_dst (N := 64) rfl ?_); refine Kd.R_lit k30 _ 30 ?hg (N := 64) ?hd (xs := ([(⟨t552, t553⟩ : S30), (⟨t554, t555⟩ : S30), (⟨t556, t557⟩ : S30)] : List (S30))) (inner := [.string t552, .string t553, .string t554, .string t555, .string t556, .string t557]) (ok := fun _ => True) (okp := fun _ => True) ?hr ?hp (fun _ hk => hk) trivial (Below.refl _ _) (Nat.le_refl _) (by simp) ?_; (case hd => rfl); (case hg => rfl); (case hr => first | (go_simp; done) | (go_simp; rfl)); (case hp => exact (Reps.c2 (show Kd.M k30 _ _ _ (⟨t552, t553⟩ : S30) [.string t552, .string t553] from (k30_mkM _ _ _ (⟨t552, t553⟩ : S30) )) (Reps.c2 (show Kd.M k30 _ _ _ (⟨t554, t555⟩ : S30) [.string t554, .string t555] from (k30_mkM _ _ _ (⟨t554, t555⟩ : S30) )) (Reps.c2 (show Kd.M k30 _ _ _ (⟨t556, t557⟩ : S30) [.string t556, .string t557] from (k30_mkM _ _ _ (⟨t556, t557⟩ : S30) )) (Reps.none _ _))))); intro v559 w113 ho114 hb hg_ hnew_; clear hg_ hnew_; (first | rw [← Ny558.out] at ho114 | (simp only [Int.reduceToNat] at ho114; rw [← Ny558.out] at ho114)); replace HO_1 := Aside0.mk (Kd.R_below (kr HO_1) hb); have HO560 := Aside0.mk (Kd.R_lower ho114 (below_size (bl HB))); replace HB := Aside0.mk (below_step (bl HB) hb); clear hb ho114; obtain ⟨Ao115, co115, eo115⟩ := Kd.R_slice HO560.out; subst eo115) | ((with_reducible refine gate_callee (f := 45) rfl ?_); refine goesM (some 65) Tryz.func45 #[.slice Ao46 y501.length co46, .slice Ao115 y558.length co115] ?_; (with_reducible refine (size_Text.calls kj44 _ _ y501 _ _ y558 t561 t562 _ ?side1 ?side2 ?side3 ?side4 ?side5 A59.out).mono ?_); (case side1 => exact Glob.below HG0.out (bl HB)); (case side2 => repeat (first | exact (Kd.R_reads' HO_1.out).2.2 | (with_reducible refine Kd.C_alloc ?_ _) | (with_reducible refine Kd.C_drewN ?_ _) | (with_reducible refine Kd.C_drew ?_))); (case side3 => exact (Kd.R_reads' HO_1.out).2.1); (case side4 => repeat (first | exact (Kd.R_reads' HO560.out).2.2 | (with_reducible refine Kd.C_alloc ?_ _) | (with_reducible refine Kd.C_drewN ?_ _) | (with_reducible refine Kd.C_drew ?_))); (case side5 => exact (Kd.R_reads' HO560.out).2.1); rintro e w116 ⟨rfl, hb⟩; refine ⟨_, rfl, ?_⟩; replace HO_1 := Aside0.mk (Kd.R_below (kr HO_1) hb); replace HO560 := Aside0.mk (Kd.R_below (kr HO560) hb); replace HB := Aside0.mk (below_step (bl HB) hb); (try clear hb); (try clear hb2); (try clear hk); (try clear hi)))
          go_ret
          exact ⟨rl, bl HB⟩
        ·rw [if_neg c61] at H
         have c61b0 : (x5_22 == (-1)) = false := beq_eq_false_iff_ne.mpr c61
         have c61b1 : (x5_22 != (-1)) = true := bne_iff_ne.mpr c61
         obtain rfl := Option.some.inj H
         go_wp2_with (first | ((with_reducible refine gate_callee (f := 18) rfl ?_); refine goesM (some 61) Tryz.func18 #[.int .i64 1, .int .i64 2] ?_; (with_reducible refine (schismalaw13_part.calls kj44 1 2 t552 t553 _ ?side1 A56.out).mono ?_); (case side1 => exact Glob.below HG0.out (bl HB)); rintro e w117 ⟨rfl, hb⟩; refine ⟨_, rfl, ?_⟩; replace HO_1 := Aside0.mk (Kd.R_below (kr HO_1) hb); replace HB := Aside0.mk (below_step (bl HB) hb); (try clear hb); (try clear hb2); (try clear hk); (try clear hi)) | ((with_reducible refine gate_callee (f := 18) rfl ?_); refine goesM (some 62) Tryz.func18 #[.int .i64 (-1), .int .i64 4] ?_; (with_reducible refine (schismalaw13_part.calls kj44 (-1) 4 t554 t555 _ ?side1 A57.out).mono ?_); (case side1 => exact Glob.below HG0.out (bl HB)); rintro e w118 ⟨rfl, hb⟩; refine ⟨_, rfl, ?_⟩; replace HO_1 := Aside0.mk (Kd.R_below (kr HO_1) hb); replace HB := Aside0.mk (below_step (bl HB) hb); (try clear hb); (try clear hb2); (try clear hk); (try clear hi)) | ((with_reducible refine gate_callee (f := 18) rfl ?_); refine goesM (some 63) Tryz.func18 #[.int .i64 1, .int .i64 1] ?_; (with_reducible refine (schismalaw13_part.calls kj44 1 1 t556 t557 _ ?side1 A58.out).mono ?_); (case side1 => exact Glob.below HG0.out (bl HB)); rintro e w119 ⟨rfl, hb⟩; refine ⟨_, rfl, ?_⟩; replace HO_1 := Aside0.mk (Kd.R_below (kr HO_1) hb); replace HB := Aside0.mk (below_step (bl HB) hb); (try clear hb); (try clear hb2); (try clear hk); (try clear hi)) | ((with_reducible refine gate_dst (N := 64) rfl ?_); refine Kd.R_lit k30 _ 30 ?hg (N := 64) ?hd (xs := ([(⟨t552, t553⟩ : S30), (⟨t554, t555⟩ : S30), (⟨t556, t557⟩ : S30)] : List (S30))) (inner := [.string t552, .string t553, .string t554, .string t555, .string t556, .string t557]) (ok := fun _ => True) (okp := fun _ => True) ?hr ?hp (fun _ hk => hk) trivial (Below.refl _ _) (Nat.le_refl _) (by simp) ?_; (case hd => rfl); (case hg => rfl); (case hr => first | (go_simp; done) | (go_simp; rfl)); (case hp => exact (Reps.c2 (show Kd.M k30 _ _ _ (⟨t552, t553⟩ : S30) [.string t552, .string t553] from (k30_mkM _ _ _ (⟨t552, t553⟩ : S30) )) (Reps.c2 (show Kd.M k30 _ _ _ (⟨t554, t555⟩ : S30) [.string t554, .string t555] from (k30_mkM _ _ _ (⟨t554, t555⟩ : S30) )) (Reps.c2 (show Kd.M k30 _ _ _ (⟨t556, t557⟩ : S30) [.string t556, .string t557] from (k30_mkM _ _ _ (⟨t556, t557⟩ : S30) )) (Reps.none _ _))))); intro v559 w120 ho121 hb hg_ hnew_; clear hg_ hnew_; (first | rw [← Ny558.out] at ho121 | (simp only [Int.reduceToNat] at ho121; rw [← Ny558.out] at ho121)); replace HO_1 := Aside0.mk (Kd.R_below (kr HO_1) hb); have HO560 := Aside0.mk (Kd.R_lower ho121 (below_size (bl HB))); replace HB := Aside0.mk (below_step (bl HB) hb); clear hb ho121; obtain ⟨Ao122, co122, eo122⟩ := Kd.R_slice HO560.out; subst eo122) | ((with_reducible refine gate_callee (f := 45) rfl ?_); refine goesM (some 65) Tryz.func45 #[.slice Ao46 y501.length co46, .slice Ao122 y558.length co122] ?_; (with_reducible refine (size_Text.calls kj44 _ _ y501 _ _ y558 t561 t562 _ ?side1 ?side2 ?side3 ?side4 ?side5 A59.out).mono ?_); (case side1 => exact Glob.below HG0.out (bl HB)); (case side2 => repeat (first | exact (Kd.R_reads' HO_1.out).2.2 | (with_reducible refine Kd.C_alloc ?_ _) | (with_reducible refine Kd.C_drewN ?_ _) | (with_reducible refine Kd.C_drew ?_))); (case side3 => exact (Kd.R_reads' HO_1.out).2.1); (case side4 => repeat (first | exact (Kd.R_reads' HO560.out).2.2 | (with_reducible refine Kd.C_alloc ?_ _) | (with_reducible refine Kd.C_drewN ?_ _) | (with_reducible refine Kd.C_drew ?_))); (case side5 => exact (Kd.R_reads' HO560.out).2.1); rintro e w123 ⟨rfl, hb⟩; refine ⟨_, rfl, ?_⟩; replace HO_1 := Aside0.mk (Kd.R_below (kr HO_1) hb); replace HO560 := Aside0.mk (Kd.R_below (kr HO560) hb); replace HB := Aside0.mk (below_step (bl HB) hb); (try clear hb); (try clear hb2); (try clear hk); (try clear hi)))
         go_ret
         exact ⟨rl, bl HB⟩
       ·rw [if_neg c60] at H
        have c60b0 : (x6_22 == 0) = false := beq_eq_false_iff_ne.mpr c60
        have c60b1 : (x6_22 != 0) = true := bne_iff_ne.mpr c60
        obtain rfl := Option.some.inj H
        go_wp2_with (first | ((with_reducible refine gate_callee (f := 18) rfl ?_); refine goesM (some 61) Tryz.func18 #[.int .i64 1, .int .i64 2] ?_; (with_reducible refine (schismalaw13_part.calls kj44 1 2 t552 t553 _ ?side1 A56.out).mono ?_); (case side1 => exact Glob.below HG0.out (bl HB)); rintro e w124 ⟨rfl, hb⟩; refine ⟨_, rfl, ?_⟩; replace HO_1 := Aside0.mk (Kd.R_below (kr HO_1) hb); replace HB := Aside0.mk (below_step (bl HB) hb); (try clear hb); (try clear hb2); (try clear hk); (try clear hi)) | ((with_reducible refine gate_callee (f := 18) rfl ?_); refine goesM (some 62) Tryz.func18 #[.int .i64 (-1), .int .i64 4] ?_; (with_reducible refine (schismalaw13_part.calls kj44 (-1) 4 t554 t555 _ ?side1 A57.out).mono ?_); (case side1 => exact Glob.below HG0.out (bl HB)); rintro e w125 ⟨rfl, hb⟩; refine ⟨_, rfl, ?_⟩; replace HO_1 := Aside0.mk (Kd.R_below (kr HO_1) hb); replace HB := Aside0.mk (below_step (bl HB) hb); (try clear hb); (try clear hb2); (try clear hk); (try clear hi)) | ((with_reducible refine gate_callee (f := 18) rfl ?_); refine goesM (some 63) Tryz.func18 #[.int .i64 1, .int .i64 1] ?_; (with_reducible refine (schismalaw13_part.calls kj44 1 1 t556 t557 _ ?side1 A58.out).mono ?_); (case side1 => exact Glob.below HG0.out (bl HB)); rintro e w126 ⟨rfl, hb⟩; refine ⟨_, rfl, ?_⟩; replace HO_1 := Aside0.mk (Kd.R_below (kr HO_1) hb); replace HB := Aside0.mk (below_step (bl HB) hb); (try clear hb); (try clear hb2); (try clear hk); (try clear hi)) | ((with_reducible refine gate_dst (N := 64) rfl ?_); refine Kd.R_lit k30 _ 30 ?hg (N := 64) ?hd (xs := ([(⟨t552, t553⟩ : S30), (⟨t554, t555⟩ : S30), (⟨t556, t557⟩ : S30)] : List (S30))) (inner := [.string t552, .string t553, .string t554, .string t555, .string t556, .string t557]) (ok := fun _ => True) (okp := fun _ => True) ?hr ?hp (fun _ hk => hk) trivial (Below.refl _ _) (Nat.le_refl _) (by simp) ?_; (case hd => rfl); (case hg => rfl); (case hr => first | (go_simp; done) | (go_simp; rfl)); (case hp => exact (Reps.c2 (show Kd.M k30 _ _ _ (⟨t552, t553⟩ : S30) [.string t552, .string t553] from (k30_mkM _ _ _ (⟨t552, t553⟩ : S30) )) (Reps.c2 (show Kd.M k30 _ _ _ (⟨t554, t555⟩ : S30) [.string t554, .string t555] from (k30_mkM _ _ _ (⟨t554, t555⟩ : S30) )) (Reps.c2 (show Kd.M k30 _ _ _ (⟨t556, t557⟩ : S30) [.string t556, .string t557] from (k30_mkM _ _ _ (⟨t556, t557⟩ : S30) )) (Reps.none _ _))))); intro v559 w127 ho128 hb hg_ hnew_; clear hg_ hnew_; (first | rw [← Ny558.out] at ho128 | (simp only [Int.reduceToNat] at ho128; rw [← Ny558.out] at ho128)); replace HO_1 := Aside0.mk (Kd.R_below (kr HO_1) hb); have HO560 := Aside0.mk (Kd.R_lower ho128 (below_size (bl HB))); replace HB := Aside0.mk (below_step (bl HB) hb); clear hb ho128; obtain ⟨Ao129, co129, eo129⟩ := Kd.R_slice HO560.out; subst eo129) | ((with_reducible refine gate_callee (f := 45) rfl ?_); refine goesM (some 65) Tryz.func45 #[.slice Ao46 y501.length co46, .slice Ao129 y558.length co129] ?_; (with_reducible refine (size_Text.calls kj44 _ _ y501 _ _ y558 t561 t562 _ ?side1 ?side2 ?side3 ?side4 ?side5 A59.out).mono ?_); (case side1 => exact Glob.below HG0.out (bl HB)); (case side2 => repeat (first | exact (Kd.R_reads' HO_1.out).2.2 | (with_reducible refine Kd.C_alloc ?_ _) | (with_reducible refine Kd.C_drewN ?_ _) | (with_reducible refine Kd.C_drew ?_))); (case side3 => exact (Kd.R_reads' HO_1.out).2.1); (case side4 => repeat (first | exact (Kd.R_reads' HO560.out).2.2 | (with_reducible refine Kd.C_alloc ?_ _) | (with_reducible refine Kd.C_drewN ?_ _) | (with_reducible refine Kd.C_drew ?_))); (case side5 => exact (Kd.R_reads' HO560.out).2.1); rintro e w130 ⟨rfl, hb⟩; refine ⟨_, rfl, ?_⟩; replace HO_1 := Aside0.mk (Kd.R_below (kr HO_1) hb); replace HO560 := Aside0.mk (Kd.R_below (kr HO560) hb); replace HB := Aside0.mk (below_step (bl HB) hb); (try clear hb); (try clear hb2); (try clear hk); (try clear hi)))
        go_ret
        exact ⟨rl, bl HB⟩
def size_Zero.f (k : Nat) (l0 : List Int) : Option ((List (S30)) × Int) := (prime_Check.f k l0).bind fun t563 => (if t563 = 0 then ((size_zero.f k (l0.length : Int)).bind fun t564 => (some (t564, 0))) else (some (([] : List (S30)), t563)))
set_option maxHeartbeats 8000000 in
set_option maxRecDepth 100000 in
theorem size_Zero.calls (k : Nat) (A0 : Option Addr) (c0 : Nat) (l0 : List Int) (r1 : List (S30)) (r2 : Int) (w : World) (hG : Glob w) (hr0 : Kd.C (Kd.int .i64) w A0 l0.length l0) (hc0 : l0.length ≤ c0) (h : size_Zero.f k l0 = some (r1, r2)) :
  Calls Tryz.prog 37 #[.slice A0 l0.length c0] w fun e w' => ∃ v0_ : Value, e = .returned (.tuple #[v0_, .int .i64 r2]) ∧ Kd.R k30 30 w' w.heap.size (fun _ => True) v0_ r1 ∧ Below w.heap.size w w' := by
 have HR0 := Aside0.mk hr0
 have HC0 := Aside0.mk hc0
 clear hr0 hc0
 have HG0 := Aside0.mk hG
 clear hG
 have HB := Aside0.mk (Below.refl w.heap.size w)
 have H : ((prime_Check.f k l0).bind fun t563 => (if t563 = 0 then ((size_zero.f k (l0.length : Int)).bind fun t564 => (some (t564, 0))) else (some (([] : List (S30)), t563)))) = some (r1, r2) := h
 clear h
 replace H := Option.bind_eq_some_iff.mp H
 obtain ⟨t563, A20, H⟩ := H
 replace H : (if t563 = 0 then ((size_zero.f k (l0.length : Int)).bind fun t564 => (some (t564, 0))) else (some (([] : List (S30)), t563))) = some (r1, r2) := H
 have A2 := Aside0.mk A20
 clear A20
 by_cases c3 : t563 = 0
 ·rw [if_pos c3] at H
  have c3b0 : (t563 == 0) = true := beq_iff_eq.mpr c3
  have c3b1 : (t563 != 0) = false := bne_eq_false_iff_eq.mpr c3
  clear c3
  replace H := Option.bind_eq_some_iff.mp H
  obtain ⟨t564, A40, H⟩ := H
  replace H : (some (t564, 0)) = some (r1, r2) := H
  have A4 := Aside0.mk A40
  clear A40
  simp only [Option.some.injEq, Prod.mk.injEq] at H
  obtain ⟨rfl, rfl⟩ := H
  go_enter Tryz.func37, Tryz.ntmps37
  go_wp2_with (first | ((with_reducible refine gate_callee (f := 40) rfl ?_); refine goesM (some 6) Tryz.func40 #[.slice A0 l0.length c0] ?_; (with_reducible refine (prime_Check.calls k _ _ l0 t563 _ ?side1 ?side2 A2.out).mono ?_); (case side1 => repeat (first | exact HR0.out | (with_reducible refine Kd.C_alloc ?_ _) | (with_reducible refine Kd.C_drewN ?_ _) | (with_reducible refine Kd.C_drew ?_))); (case side2 => exact HC0.out); rintro e w' ⟨rfl, ⟨nd, rfl⟩⟩; refine ⟨_, rfl, ?_⟩) | ((with_reducible refine gate_callee (f := 83) rfl ?_); refine goesM (some 12) Tryz.func83 #[.int .i64 (l0.length : Int)] ?_; (with_reducible refine (size_zero.calls k (l0.length : Int) t564 _ ?side1 A4.out).mono ?_); (case side1 => exact Glob.below HG0.out (bl HB)); rintro e w5 ⟨v565, rfl, ho0, hb⟩; refine ⟨_, rfl, ?_⟩; have HO566 := Aside0.mk (Kd.R_lower ho0 (below_size (bl HB))); replace HB := Aside0.mk (below_step (bl HB) hb); (try clear hb); (try clear hb2); (try clear hk); (try clear hi); (try clear ho0)))
  go_ret2
  exact ⟨_, rl, kr HO566, bl HB⟩
 ·rw [if_neg c3] at H
  have c3b0 : (t563 == 0) = false := beq_eq_false_iff_ne.mpr c3
  have c3b1 : (t563 != 0) = true := bne_iff_ne.mpr c3
  simp only [Option.some.injEq, Prod.mk.injEq] at H
  obtain ⟨rfl, rfl⟩ := H
  go_enter Tryz.func37, Tryz.ntmps37
  go_wp2_with (first | ((with_reducible refine gate_callee (f := 40) rfl ?_); refine goesM (some 6) Tryz.func40 #[.slice A0 l0.length c0] ?_; (with_reducible refine (prime_Check.calls k _ _ l0 t563 _ ?side1 ?side2 A2.out).mono ?_); (case side1 => repeat (first | exact HR0.out | (with_reducible refine Kd.C_alloc ?_ _) | (with_reducible refine Kd.C_drewN ?_ _) | (with_reducible refine Kd.C_drew ?_))); (case side2 => exact HC0.out); rintro e w' ⟨rfl, ⟨nd, rfl⟩⟩; refine ⟨_, rfl, ?_⟩))
  go_ret2
  exact ⟨_, rl, by first | exact Kd.R_nil _ _ _ _ _ | exact Kd.N_nil _ _ _ _ _ | exact Kd.V_nil _ _ _ _ _ | exact Kd.Q_nil _ _ _ _ _ | exact Kd.S_nil _ _ _ _ _, bl HB⟩
def size_Equave.f (k : Nat) (l0 : List Int) : Option ((List (S30)) × Int) := (size_Zero.f k l0).bind fun bt567 => (if bt567.2 = 0 then ((size_number.f 1).bind fun bt571 => (if 0 < (bt567.1.length : Int) then (some ((bt567.1.set (0 : Int).toNat (⟨bt571.1, bt571.2⟩ : S30)), 0)) else (none))) else (some (([] : List (S30)), bt567.2)))
set_option maxHeartbeats 8000000 in
set_option maxRecDepth 100000 in
theorem size_Equave.calls (k : Nat) (A0 : Option Addr) (c0 : Nat) (l0 : List Int) (r1 : List (S30)) (r2 : Int) (w : World) (hG : Glob w) (hr0 : Kd.C (Kd.int .i64) w A0 l0.length l0) (hc0 : l0.length ≤ c0) (h : size_Equave.f k l0 = some (r1, r2)) :
  Calls Tryz.prog 38 #[.slice A0 l0.length c0] w fun e w' => ∃ v0_ : Value, e = .returned (.tuple #[v0_, .int .i64 r2]) ∧ Kd.R k30 30 w' w.heap.size (fun _ => True) v0_ r1 ∧ Below w.heap.size w w' := by
 have hu30 := Tryz.underlying30
 have HR0 := Aside0.mk hr0
 have HC0 := Aside0.mk hc0
 clear hr0 hc0
 have HG0 := Aside0.mk hG
 clear hG
 have HB := Aside0.mk (Below.refl w.heap.size w)
 have H : ((size_Zero.f k l0).bind fun bt567 => (if bt567.2 = 0 then ((size_number.f 1).bind fun bt571 => (if 0 < (bt567.1.length : Int) then (some ((bt567.1.set (0 : Int).toNat (⟨bt571.1, bt571.2⟩ : S30)), 0)) else (none))) else (some (([] : List (S30)), bt567.2)))) = some (r1, r2) := h
 clear h
 replace H := Option.bind_eq_some_iff.mp H
 obtain ⟨⟨t567, t568⟩, A20, H⟩ := H
 replace H : (if t568 = 0 then ((size_number.f 1).bind fun bt571 => (if 0 < (t567.length : Int) then (some ((t567.set (0 : Int).toNat (⟨bt571.1, bt571.2⟩ : S30)), 0)) else (none))) else (some (([] : List (S30)), t568))) = some (r1, r2) := H
 have A2 := Aside0.mk A20
 clear A20
 by_cases c3 : t568 = 0
 ·rw [if_pos c3] at H
  have c3b0 : (t568 == 0) = true := beq_iff_eq.mpr c3
  have c3b1 : (t568 != 0) = false := bne_eq_false_iff_eq.mpr c3
  clear c3
  replace H := Option.bind_eq_some_iff.mp H
  obtain ⟨⟨t571, t572⟩, A40, H⟩ := H
  replace H : (if 0 < (t567.length : Int) then (some ((t567.set (0 : Int).toNat (⟨t571, t572⟩ : S30)), 0)) else (none)) = some (r1, r2) := H
  have A4 := Aside0.mk A40
  clear A40
  by_cases c5 : 0 < (t567.length : Int)
  ·rw [if_pos c5] at H
   have c5b0 : decide (0 < (t567.length : Int)) = true := decide_eq_true c5
   have c5b1 : decide (0 < t567.length) = true := decide_eq_true (by omega)
   clear c5
   obtain ⟨y573, hy573⟩ : ∃ y_ : List (S30), y_ = (t567.set (0 : Int).toNat (⟨t571, t572⟩ : S30)) := ⟨_, rfl⟩
   replace H : (some (y573, 0)) = some (r1, r2) := by first | (rw [hy573]; with_reducible exact H) | (have H2_ := (Option.bind_some _ _).symm.trans H; rw [hy573]; with_reducible exact H2_) | (have H2_ := (Option.bind_some _ _).symm.trans H; with_reducible exact H2_) | with_reducible exact H | (rw [hy573]; exact H) | exact H
   have Ny573 := Aside0.mk hy573
   clear hy573
   simp only [Option.some.injEq, Prod.mk.injEq] at H
   obtain ⟨rfl, rfl⟩ := H
   go_enter Tryz.func38, Tryz.ntmps38
   go_wp2_with (first | ((with_reducible refine gate_callee (f := 37) rfl ?_); refine goesM (some 8) Tryz.func37 #[.slice A0 l0.length c0] ?_; (with_reducible refine (size_Zero.calls k _ _ l0 t567 t568 _ ?side1 ?side2 ?side3 A2.out).mono ?_); (case side1 => exact Glob.below HG0.out (bl HB)); (case side2 => repeat (first | exact HR0.out | (with_reducible refine Kd.C_alloc ?_ _) | (with_reducible refine Kd.C_drewN ?_ _) | (with_reducible refine Kd.C_drew ?_))); (case side3 => exact HC0.out); rintro e w7 ⟨v569, rfl, ho0, hb⟩; refine ⟨_, rfl, ?_⟩; have HO570 := Aside0.mk (Kd.R_lower ho0 (below_size (bl HB))); replace HB := Aside0.mk (below_step (bl HB) hb); (try clear hb); (try clear hb2); (try clear hk); (try clear hi); (try clear ho0)) | ((with_reducible refine gate_callee (f := 65) rfl ?_); refine goesM (some 15) Tryz.func65 #[.int .i64 1] ?_; (with_reducible refine (size_number.calls 1 t571 t572 _ ?side1 A4.out).mono ?_); (case side1 => exact Glob.below HG0.out (bl HB)); rintro e w8 ⟨rfl, hb⟩; refine ⟨_, rfl, ?_⟩; replace HO570 := Aside0.mk (Kd.R_below (kr HO570) hb); replace HB := Aside0.mk (below_step (bl HB) hb); (try clear hb); (try clear hb2); (try clear hk); (try clear hi); have p6 : 0 ≤ (0 : Int) := (by omega); have q6 : (0 : Int) < ((t567.length : Int) : Int) := of_decide_eq_true (by first | (with_reducible assumption) | assumption); have qi6 : (0 < t567.length) = True := eq_true (by omega); obtain ⟨go6, co6, eo6, gb6, gl6, cl6, HG6⟩ := Kd.R_form HO570.out (by omega); (first | cases eo6 | (injection eo6 with ea_ en_ ec_; (first | subst ea_ | (injection ea_ with ea_; subst ea_)); subst ec_; clear en_)); have GB6 := Aside0.mk gb6; have GG6 := Aside0.mk HG6; clear gb6 gl6 HG6; obtain ⟨ce6, hcl6, hM6, hcc6, hfr6⟩ := Kd.R_elem HO570.out z30 (0 : Int) p6 q6; obtain rfl := k30_openM hM6; have hx6_0 : w8.cell? ⟨go6, (0 : Int).toNat * 2, none⟩ = some (.string ((rd_T30 t567 0).f0)) := hcc6 0 _ rfl; have hx6_1 : w8.cell? ⟨go6, (0 : Int).toNat * 2 + 1, none⟩ = some (.string ((rd_T30 t567 0).f1)) := hcc6 1 _ rfl; have hf6_0 : w8.frozen? ⟨go6, (0 : Int).toNat * 2, none⟩ = false := hfr6 0; have hf6_1 : w8.frozen? ⟨go6, (0 : Int).toNat * 2 + 1, none⟩ = false := hfr6 1; clear hcl6 hcc6 hfr6 hM6; (try rw [show ((0 : Int)).toNat = 0 from rfl] at hx6_0); (try simp only [Nat.reduceMul, Nat.zero_mul, Nat.zero_add, Nat.reduceAdd] at hx6_0); (try rw [show ((0 : Int)).toNat = 0 from rfl] at hf6_0); (try simp only [Nat.reduceMul, Nat.zero_mul, Nat.zero_add, Nat.reduceAdd] at hf6_0); (try rw [show ((0 : Int)).toNat = 0 from rfl] at hx6_1); (try simp only [Nat.reduceMul, Nat.zero_mul, Nat.zero_add, Nat.reduceAdd] at hx6_1); (try rw [show ((0 : Int)).toNat = 0 from rfl] at hf6_1); (try simp only [Nat.reduceMul, Nat.zero_mul, Nat.zero_add, Nat.reduceAdd] at hf6_1); replace p6 := eq_true p6; replace q6 := eq_true q6; have HX9 := Aside0.mk (show Kd.R k30 30 w8 w.heap.size (fun _ => True) (.slice (some ⟨go6, 0, none⟩) t567.length co6) t567 from (kr HO570)); obtain ⟨ce9, hcl9, hM9, hcc9, hfr9⟩ := Kd.R_elem HX9.out z30 (0 : Int) (by omega) (by have h_ : (0 : Int) < ((t567.length : Int) : Int) := of_decide_eq_true (by first | (with_reducible assumption) | assumption); first | exact h_ | (have e_ := (Kd.R_reads' HO570.out).1; omega) | simpa using h_); obtain rfl := k30_openM hM9; have HP9 := Kd.R_seg HX9.out (0 : Int) (by omega) (by have h_ : (0 : Int) < ((t567.length : Int) : Int) := of_decide_eq_true (by first | (with_reducible assumption) | assumption); first | exact h_ | (have e_ := (Kd.R_reads' HO570.out).1; omega) | simpa using h_) (seg := [.string t571, .string t572]) (j := 0) hcl9 hcc9 (show 2 ≤ 2 from by decide) (x' := (⟨t571, t572⟩ : S30)) (k30_mkM _ _ _ (⟨t571, t572⟩ : S30) ) (fun _ hk => hk); have hx9_0 := hcc9 0 _ rfl; (try simp only [show (k30).sz = 2 from rfl, Nat.mul_one, Nat.add_zero] at hx9_0); (try rw [show ((0 : Int)).toNat = 0 from rfl] at hx9_0); (try simp only [Nat.reduceMul, Nat.zero_mul, Nat.zero_add, Nat.reduceAdd] at hx9_0); have hf9_0 := hfr9 0; (try simp only [show (k30).sz = 2 from rfl, Nat.mul_one, Nat.add_zero] at hf9_0); (try rw [show ((0 : Int)).toNat = 0 from rfl] at hf9_0); (try simp only [Nat.reduceMul, Nat.zero_mul, Nat.zero_add, Nat.reduceAdd] at hf9_0); have hx9_1 := hcc9 1 _ rfl; (try simp only [show (k30).sz = 2 from rfl, Nat.mul_one, Nat.add_zero] at hx9_1); (try rw [show ((0 : Int)).toNat = 0 from rfl] at hx9_1); (try simp only [Nat.reduceMul, Nat.zero_mul, Nat.zero_add, Nat.reduceAdd] at hx9_1); have hf9_1 := hfr9 1; (try simp only [show (k30).sz = 2 from rfl, Nat.mul_one, Nat.add_zero] at hf9_1); (try rw [show ((0 : Int)).toNat = 0 from rfl] at hf9_1); (try simp only [Nat.reduceMul, Nat.zero_mul, Nat.zero_add, Nat.reduceAdd] at hf9_1); clear hcl9 hcc9 hfr9 hM9) | ((with_reducible refine gate_store (t := 30) (p := 16) rfl ?_); refine store_event (t := 30) (p := 16) (v := ?vo_w10) (w1 := ((w8.setCell ⟨go6, 0, none⟩ (.string t571)).setCell ⟨go6, 1, none⟩ (.string t572))) ?hg ?ho ?hn ?hr ?_; (case ho => rfl); (case hg => rfl); (case hn => rfl); (case hr => first | (go_simp; done) | (go_simp; rfl)); intro w10 hw; have hg : w8.grownBy w10 (some go6) := (by rw [hw]; exact HP9.2); have hp_ : Kd.R k30 30 w10 w.heap.size (fun _ => True) (.slice (some ⟨go6, 0, none⟩) t567.length co6) y573 := (by rw [hw, Ny573.out]; exact HP9.1); clear HP9; replace HO570 := Aside0.mk (hp_); replace HB := Aside0.mk ((by rw [hw]; exact below_set (below_set (HB.out) GB6.out) GB6.out : Below w.heap.size w w10)); clear hg hw hp_))
   go_ret2
   exact ⟨_, rl, kr HO570, bl HB⟩
  ·rw [if_neg c5] at H
   exact absurd H (by simp)
 ·rw [if_neg c3] at H
  have c3b0 : (t568 == 0) = false := beq_eq_false_iff_ne.mpr c3
  have c3b1 : (t568 != 0) = true := bne_iff_ne.mpr c3
  simp only [Option.some.injEq, Prod.mk.injEq] at H
  obtain ⟨rfl, rfl⟩ := H
  go_enter Tryz.func38, Tryz.ntmps38
  go_wp2_with (first | ((with_reducible refine gate_callee (f := 37) rfl ?_); refine goesM (some 8) Tryz.func37 #[.slice A0 l0.length c0] ?_; (with_reducible refine (size_Zero.calls k _ _ l0 t567 t568 _ ?side1 ?side2 ?side3 A2.out).mono ?_); (case side1 => exact Glob.below HG0.out (bl HB)); (case side2 => repeat (first | exact HR0.out | (with_reducible refine Kd.C_alloc ?_ _) | (with_reducible refine Kd.C_drewN ?_ _) | (with_reducible refine Kd.C_drew ?_))); (case side3 => exact HC0.out); rintro e w11 ⟨v569, rfl, ho0, hb⟩; refine ⟨_, rfl, ?_⟩; have HO570 := Aside0.mk (Kd.R_lower ho0 (below_size (bl HB))); replace HB := Aside0.mk (below_step (bl HB) hb); (try clear hb); (try clear hb2); (try clear hk); (try clear hi); (try clear ho0)))
  go_ret2
  exact ⟨_, rl, by first | exact Kd.R_nil _ _ _ _ _ | exact Kd.N_nil _ _ _ _ _ | exact Kd.V_nil _ _ _ _ _ | exact Kd.Q_nil _ _ _ _ _ | exact Kd.S_nil _ _ _ _ _, bl HB⟩
mutual
def monzo_CheckAll.l0 : Nat → List Int → List (List Int) → Int → Int → Option (Int)
 | 0, _, _, _, _ => none
 | k + 1, x0, x15, x16, x17 => if x17 < x16 then (if 0 ≤ x17 then (if x17 < (x15.length : Int) then (if ((rd_L6 x15 x17).length : Int) = (x0.length : Int) then (monzo_CheckAll.l1 k x0 x15 x16 x17 (rd_L6 x15 x17) ((rd_L6 x15 x17).length : Int) 0) else (some 5)) else (none)) else (none)) else (some 0)
def monzo_CheckAll.l1 : Nat → List Int → List (List Int) → Int → Int → List Int → Int → Int → Option (Int)
 | 0, _, _, _, _, _, _, _ => none
 | k + 1, x0, x15, x16, x17, x26, x27, x28 => if x28 < x27 then (if 0 ≤ x28 then (if x28 < (x26.length : Int) then (if (rd x26 x28) > 1000 then (some 4) else (if (rd x26 x28) < (-1000) then (some 4) else (monzo_CheckAll.l1 k x0 x15 x16 x17 x26 x27 (wrap64 (x28 + 1))))) else (none)) else (none)) else (monzo_CheckAll.l0 k x0 x15 x16 (wrap64 (x17 + 1)))
end
def monzo_CheckAll.f (k : Nat) (l0 : List Int) (l1 : List (List Int)) : Option (Int) := (prime_Check.f k l0).bind fun t574 => (if t574 = 0 then (monzo_CheckAll.l0 k l0 l1 (l1.length : Int) 0) else (some t574))
set_option maxHeartbeats 8000000 in
set_option maxRecDepth 100000 in
theorem monzo_CheckAll.calls (k : Nat) (A0 : Option Addr) (c0 : Nat) (l0 : List Int) (A1 : Option Addr) (c1 : Nat) (l1 : List (List Int)) (r : Int) (w : World) (hr0 : Kd.C (Kd.int .i64) w A0 l0.length l0) (hc0 : l0.length ≤ c0) (hr1 : Kd.C (Kd.slice 3 (Kd.int .i64)) w A1 l1.length l1) (hc1 : l1.length ≤ c1) (h : monzo_CheckAll.f k l0 l1 = some r) :
  Calls Tryz.prog 85 #[.slice A0 l0.length c0, .slice A1 l1.length c1] w fun e w' => e = .returned (.int .i64 r) ∧ Drawn0 w w' := by
 have HR0 := Aside0.mk hr0
 have HC0 := Aside0.mk hc0
 clear hr0 hc0
 have HR1 := Aside0.mk hr1
 have HC1 := Aside0.mk hc1
 clear hr1 hc1
 have H : ((prime_Check.f k l0).bind fun t574 => (if t574 = 0 then (monzo_CheckAll.l0 k l0 l1 (l1.length : Int) 0) else (some t574))) = some r := h
 clear h
 replace H := Option.bind_eq_some_iff.mp H
 obtain ⟨t574, A30, H⟩ := H
 replace H : (if t574 = 0 then (monzo_CheckAll.l0 k l0 l1 (l1.length : Int) 0) else (some t574)) = some r := H
 have A3 := Aside0.mk A30
 clear A30
 by_cases c4 : t574 = 0
 ·rw [if_pos c4] at H
  have c4b0 : (t574 == 0) = true := beq_iff_eq.mpr c4
  have c4b1 : (t574 != 0) = false := bne_eq_false_iff_eq.mpr c4
  clear c4
  have H' := Aside0.mk H
  clear H
  go_enter Tryz.func85, Tryz.ntmps85
  go_wp2_with (first | ((with_reducible refine gate_callee (f := 40) rfl ?_); refine goesM (some 11) Tryz.func40 #[.slice A0 l0.length c0] ?_; (with_reducible refine (prime_Check.calls k _ _ l0 t574 _ ?side1 ?side2 A3.out).mono ?_); (case side1 => repeat (first | exact HR0.out | (with_reducible refine Kd.C_alloc ?_ _) | (with_reducible refine Kd.C_drewN ?_ _) | (with_reducible refine Kd.C_drew ?_))); (case side2 => exact HC0.out); rintro e w' ⟨rfl, ⟨nd, rfl⟩⟩; refine ⟨_, rfl, ?_⟩))
  go_loopg [17] k (fun kq v17 w' => ∃ (x17_1 : Int), v17 = .int .i64 x17_1 ∧ Aside0 (monzo_CheckAll.l0 kq l0 l1 (l1.length : Int) x17_1 = some r) ∧ Aside0 (kq ≤ k) ∧ Drawn0 w w')
  case atStart => exact ⟨(0), rs, H', ⟨Nat.le_refl _⟩, by repeat (first | exact Drawn0.refl _ | apply Drawn0.step)⟩
  case round =>
   clear H'
   try clear c1
   try clear p2
   try clear c4
   try clear c4b0
   try clear c4b1
   obtain ⟨x17_1, rfl, HA, HK1, ⟨m1, rfl⟩⟩ := hrel
   cases gk with
   | zero => exact absurd HA.out (by simp [monzo_CheckAll.l0])
   | succ k1 =>
    have H := HA.out
    clear HA
    simp only [monzo_CheckAll.l0] at H
    by_cases c5 : x17_1 < (l1.length : Int)
    ·rw [if_pos c5] at H
     have c5b0 : decide (x17_1 < (l1.length : Int)) = true := decide_eq_true c5
     clear c5
     by_cases c6 : 0 ≤ x17_1
     ·rw [if_pos c6] at H
      have c6b0 : decide (0 ≤ x17_1) = true := decide_eq_true c6
      clear c6
      by_cases c7 : x17_1 < (l1.length : Int)
      ·rw [if_pos c7] at H
       have c7b0 : decide (x17_1 < (l1.length : Int)) = true := decide_eq_true c7
       clear c7
       by_cases c8 : ((rd_L6 l1 x17_1).length : Int) = (l0.length : Int)
       ·rw [if_pos c8] at H
        have c8b0 : (((rd_L6 l1 x17_1).length : Int) == (l0.length : Int)) = true := beq_iff_eq.mpr c8
        have c8b1 : (((rd_L6 l1 x17_1).length : Int) != (l0.length : Int)) = false := bne_eq_false_iff_eq.mpr c8
        have c8b2 : ((rd_L6 l1 x17_1).length == l0.length) = true := by first | simpa using c8 | (simp at c8 ⊢; omega)
        clear c8
        have H' := Aside0.mk H
        clear H
        have p575 : 0 ≤ (x17_1 : Int) := of_decide_eq_true (by first | (with_reducible assumption) | assumption)
        have q575 : x17_1 < (l1.length : Int) := of_decide_eq_true (by first | (with_reducible assumption) | assumption)
        obtain ⟨ad575, A575_0, c575_0, e575, hx575_0, hl575_0, hi575_0⟩ := at_L6 HR1.out x17_1 p575 q575
        cases e575
        have HR575_0 := Aside0.mk hi575_0
        have HC575_0 := Aside0.mk hl575_0
        clear hi575_0 hl575_0
        replace p575 := eq_true p575
        replace q575 := eq_true q575
        go_wp2
        go_loopg [28] k1 (fun kq v28 w' => ∃ (x28_2 : Int), v28 = .int .i64 x28_2 ∧ Aside0 (monzo_CheckAll.l1 kq l0 l1 (l1.length : Int) x17_1 (rd_L6 l1 x17_1) ((rd_L6 l1 x17_1).length : Int) x28_2 = some r) ∧ Aside0 (kq ≤ k1) ∧ Drawn0 w w')
        case atStart => exact ⟨(0), rs, H', ⟨Nat.le_refl _⟩, by repeat (first | exact Drawn0.refl _ | apply Drawn0.step)⟩
        case round =>
         clear H'
         try clear c1
         try clear p2
         try clear c4
         try clear c4b0
         try clear c4b1
         try clear c5
         try clear c5b0
         try clear p5
         try clear q5
         try clear hx5
         try clear c6
         try clear c6b0
         try clear c7
         try clear c7b0
         try clear c8
         try clear c8b0
         try clear c8b1
         try clear c8b2
         try clear hx575_0
         try clear p2
         try clear p575
         try clear q575
         obtain ⟨x28_2, rfl, HA, HK2, ⟨m2, rfl⟩⟩ := hrel
         cases gk with
         | zero => exact absurd HA.out (by simp [monzo_CheckAll.l1])
         | succ k2 =>
          have H := HA.out
          clear HA
          simp only [monzo_CheckAll.l1] at H
          by_cases c9 : x28_2 < ((rd_L6 l1 x17_1).length : Int)
          ·rw [if_pos c9] at H
           have c9b0 : decide (x28_2 < ((rd_L6 l1 x17_1).length : Int)) = true := decide_eq_true c9
           clear c9
           by_cases c10 : 0 ≤ x28_2
           ·rw [if_pos c10] at H
            have c10b0 : decide (0 ≤ x28_2) = true := decide_eq_true c10
            clear c10
            by_cases c11 : x28_2 < ((rd_L6 l1 x17_1).length : Int)
            ·rw [if_pos c11] at H
             have c11b0 : decide (x28_2 < ((rd_L6 l1 x17_1).length : Int)) = true := decide_eq_true c11
             clear c11
             by_cases c12 : (rd (rd_L6 l1 x17_1) x28_2) > 1000
             ·rw [if_pos c12] at H
              have c12b0 : decide (1000 < (rd (rd_L6 l1 x17_1) x28_2)) = true := decide_eq_true c12
              clear c12
              obtain rfl := Option.some.inj H
              have p576 : 0 ≤ (x28_2 : Int) := of_decide_eq_true (by first | (with_reducible assumption) | assumption)
              have q576 : x28_2 < ((rd_L6 l1 x17_1).length : Int) := of_decide_eq_true (by first | (with_reducible assumption) | assumption)
              obtain ⟨ad576, e576, hx576_0⟩ := Kd.at_int HR575_0.out x28_2 p576 q576
              cases e576
              replace p576 := eq_true p576
              replace q576 := eq_true q576
              go_wp2
              go_ret
              exact ⟨by first | rfl | (simp; done) | (simp [*]; done), by repeat (first | exact Drawn0.refl _ | apply Drawn0.step)⟩
             ·rw [if_neg c12] at H
              have c12b0 : decide (1000 < (rd (rd_L6 l1 x17_1) x28_2)) = false := decide_eq_false c12
              clear c12
              by_cases c13 : (rd (rd_L6 l1 x17_1) x28_2) < (-1000)
              ·rw [if_pos c13] at H
               have c13b0 : decide ((rd (rd_L6 l1 x17_1) x28_2) < (-1000)) = true := decide_eq_true c13
               clear c13
               obtain rfl := Option.some.inj H
               have p576 : 0 ≤ (x28_2 : Int) := of_decide_eq_true (by first | (with_reducible assumption) | assumption)
               have q576 : x28_2 < ((rd_L6 l1 x17_1).length : Int) := of_decide_eq_true (by first | (with_reducible assumption) | assumption)
               obtain ⟨ad576, e576, hx576_0⟩ := Kd.at_int HR575_0.out x28_2 p576 q576
               cases e576
               replace p576 := eq_true p576
               replace q576 := eq_true q576
               go_wp2
               go_ret
               exact ⟨by first | rfl | (simp; done) | (simp [*]; done), by repeat (first | exact Drawn0.refl _ | apply Drawn0.step)⟩
              ·rw [if_neg c13] at H
               have c13b0 : decide ((rd (rd_L6 l1 x17_1) x28_2) < (-1000)) = false := decide_eq_false c13
               clear c13
               have H' := Aside0.mk H
               clear H
               have p576 : 0 ≤ (x28_2 : Int) := of_decide_eq_true (by first | (with_reducible assumption) | assumption)
               have q576 : x28_2 < ((rd_L6 l1 x17_1).length : Int) := of_decide_eq_true (by first | (with_reducible assumption) | assumption)
               obtain ⟨ad576, e576, hx576_0⟩ := Kd.at_int HR575_0.out x28_2 p576 q576
               cases e576
               replace p576 := eq_true p576
               replace q576 := eq_true q576
               go_wp2
               go_roundg k2
               case measure => have := HK1.out; have := HK2.out; omega
               case rel => exact ⟨(wrap64 (x28_2 + 1)), rs, H', ⟨by have := HK1.out; have := HK2.out; omega⟩, by repeat (first | exact Drawn0.refl _ | apply Drawn0.step)⟩
            ·rw [if_neg c11] at H
             exact absurd H (by simp)
           ·rw [if_neg c10] at H
            exact absurd H (by simp)
          ·rw [if_neg c9] at H
           have c9b0 : decide (x28_2 < ((rd_L6 l1 x17_1).length : Int)) = false := decide_eq_false c9
           clear c9
           have H' := Aside0.mk H
           clear H
           go_wp2
           go_roundg k2
           case measure => have := HK1.out; have := HK2.out; omega
           case rel => exact ⟨(wrap64 (x17_1 + 1)), rs, H', ⟨by have := HK1.out; have := HK2.out; omega⟩, by repeat (first | exact Drawn0.refl _ | apply Drawn0.step)⟩
       ·rw [if_neg c8] at H
        have c8b0 : (((rd_L6 l1 x17_1).length : Int) == (l0.length : Int)) = false := beq_eq_false_iff_ne.mpr c8
        have c8b1 : (((rd_L6 l1 x17_1).length : Int) != (l0.length : Int)) = true := bne_iff_ne.mpr c8
        have c8b2 : ((rd_L6 l1 x17_1).length == l0.length) = false := by first | simpa using c8 | (simp at c8 ⊢; omega)
        obtain rfl := Option.some.inj H
        have p575 : 0 ≤ (x17_1 : Int) := of_decide_eq_true (by first | (with_reducible assumption) | assumption)
        have q575 : x17_1 < (l1.length : Int) := of_decide_eq_true (by first | (with_reducible assumption) | assumption)
        obtain ⟨ad575, A575_0, c575_0, e575, hx575_0, hl575_0, hi575_0⟩ := at_L6 HR1.out x17_1 p575 q575
        cases e575
        have HR575_0 := Aside0.mk hi575_0
        have HC575_0 := Aside0.mk hl575_0
        clear hi575_0 hl575_0
        replace p575 := eq_true p575
        replace q575 := eq_true q575
        go_wp2
        go_ret
        exact ⟨by first | rfl | (simp; done) | (simp [*]; done), by repeat (first | exact Drawn0.refl _ | apply Drawn0.step)⟩
      ·rw [if_neg c7] at H
       exact absurd H (by simp)
     ·rw [if_neg c6] at H
      exact absurd H (by simp)
    ·rw [if_neg c5] at H
     have c5b0 : decide (x17_1 < (l1.length : Int)) = false := decide_eq_false c5
     clear c5
     obtain rfl := Option.some.inj H
     go_wp2
     go_ret
     exact ⟨by first | rfl | (simp; done) | (simp [*]; done), by repeat (first | exact Drawn0.refl _ | apply Drawn0.step)⟩
 ·rw [if_neg c4] at H
  have c4b0 : (t574 == 0) = false := beq_eq_false_iff_ne.mpr c4
  have c4b1 : (t574 != 0) = true := bne_iff_ne.mpr c4
  obtain rfl := Option.some.inj H
  go_enter Tryz.func85, Tryz.ntmps85
  go_wp2_with (first | ((with_reducible refine gate_callee (f := 40) rfl ?_); refine goesM (some 11) Tryz.func40 #[.slice A0 l0.length c0] ?_; (with_reducible refine (prime_Check.calls k _ _ l0 t574 _ ?side1 ?side2 A3.out).mono ?_); (case side1 => repeat (first | exact HR0.out | (with_reducible refine Kd.C_alloc ?_ _) | (with_reducible refine Kd.C_drewN ?_ _) | (with_reducible refine Kd.C_drew ?_))); (case side2 => exact HC0.out); rintro e w' ⟨rfl, ⟨nd, rfl⟩⟩; refine ⟨_, rfl, ?_⟩))
  go_ret
  exact ⟨by first | rfl | (simp; done) | (simp [*]; done), by repeat (first | exact Drawn0.refl _ | apply Drawn0.step)⟩
end Go.Proofs.YtailoobjgbldgaaGreatDoor.P
end
section
namespace Go.Proofs.YtailoobjgbldgaaGreatDoor.P
open Go.RowKit Go.Proofs.YtailoobjgbldgaaGreatDoorW.PrintWords Go.Proofs.YtailoobjgbldgaaGreatDoorW.PrintLast Go.Proofs.YtailoobjgbldgaaGreatDoorW.PrintMore
attribute [local go_sem] max2_int min2_int max_two min_two max_three min_three max_four min_four   
set_option linter.unusedVariables false
set_option linter.unusedSimpArgs false
def monzo_Check.f (k : Nat) (l0 : List Int) (l1 : List Int) : Option (Int) := (monzo_CheckAll.f k l0 (([l1] : List (List Int)))).bind fun t580 => (some t580)
set_option maxHeartbeats 8000000 in
set_option maxRecDepth 100000 in
theorem monzo_Check.calls (k : Nat) (A0 : Option Addr) (c0 : Nat) (l0 : List Int) (P1_ : Nat → Prop) (A1 : Option Addr) (c1 : Nat) (l1 : List Int) (r : Int) (w : World) (hr0 : Kd.C (Kd.int .i64) w A0 l0.length l0) (hc0 : l0.length ≤ c0) (hs1 : Kd.V (Kd.int .i64) 3 w w.heap.size (fun k_ => P1_ k_) (.slice A1 l1.length c1) l1) (h : monzo_Check.f k l0 l1 = some r) :
  Calls Tryz.prog 41 #[.slice A0 l0.length c0, .slice A1 l1.length c1] w fun e w' => e = .returned (.int .i64 r) ∧ Below w.heap.size w w' := by
 have HR0 := Aside0.mk hr0
 have HC0 := Aside0.mk hc0
 clear hr0 hc0
 have HO1 := Aside0.mk (show Kd.V (Kd.int .i64) 3 w w.heap.size (fun k_ => (P1_ k_ ∨ w.heap.size ≤ k_)) (.slice A1 l1.length c1) l1 from Kd.V_mono hs1 (fun k_ hk => .inl hk))
 have HB := Aside0.mk (Below.refl w.heap.size w)
 have H : ((monzo_CheckAll.f k l0 (([l1] : List (List Int)))).bind fun t580 => (some t580)) = some r := h
 clear h
 obtain ⟨y577, hy577⟩ : ∃ y_ : List (List Int), y_ = (([l1] : List (List Int))) := ⟨_, rfl⟩
 replace H : ((monzo_CheckAll.f k l0 y577).bind fun t580 => (some t580)) = some r := by first | (rw [hy577]; with_reducible exact H) | (have H2_ := (Option.bind_some _ _).symm.trans H; rw [hy577]; with_reducible exact H2_) | (have H2_ := (Option.bind_some _ _).symm.trans H; with_reducible exact H2_) | with_reducible exact H | (rw [hy577]; exact H) | exact H
 have Ny577 := Aside0.mk hy577
 clear hy577
 replace H := Option.bind_eq_some_iff.mp H
 obtain ⟨t580, A30, H⟩ := H
 replace H : (some t580) = some r := H
 have A3 := Aside0.mk A30
 clear A30
 obtain rfl := Option.some.inj H
 go_enter Tryz.func41, Tryz.ntmps41
 go_wp2_with (first | ((with_reducible refine gate_dst (N := 7) rfl ?_); refine Kd.N_lit (Kd.slice 3 (Kd.int .i64)) _ 70 ?hg (N' := 7) ?hd (xs := ([l1] : List (List Int))) (inner := [.slice A1 l1.length c1]) (ok := (fun k_ => (P1_ k_ ∨ w.heap.size ≤ k_))) (okp := (fun k_ => (P1_ k_ ∨ w.heap.size ≤ k_))) ?hr ?hp (fun _ hk => hk) ((show ∀ k_, w.heap.size ≤ k_ → (fun k_ => (P1_ k_ ∨ w.heap.size ≤ k_)) k_ from fun k_ hk => (.inr (Nat.le_trans (below_size (bl HB)) hk))) _ (Nat.le_refl _)) (Below.refl _ _) (Nat.le_refl _) (by simp) ?_; (case hd => rfl); (case hg => rfl); (case hr => first | (go_simp; done) | (go_simp; rfl)); (case hp => exact (Reps.one (show Kd.FK (Kd.slice 3 (Kd.int .i64)) _ _ l1 [.slice A1 l1.length c1] from (Kd.FK_slice_mk (Kd.V_reads' (Kd.V_mono (ok' := (fun k_ => (P1_ k_ ∨ w.heap.size ≤ k_))) (HO1.out) (fun k_ hk => hk))).2.1 (Kd.V_F (Kd.V_mono (ok' := (fun k_ => (P1_ k_ ∨ w.heap.size ≤ k_))) (HO1.out) (fun k_ hk => hk))))) (Reps.none _ _))); intro v578 w4 ho5 hb hg_ hnew_; clear hg_ hnew_; (first | rw [← Ny577.out] at ho5 | (simp only [Int.reduceToNat] at ho5; rw [← Ny577.out] at ho5)); replace HO1 := Aside0.mk (Kd.V_elder' (by (with_reducible repeat (first | apply Kd.V_alloc | apply Kd.V_drewN | apply Kd.V_drew)); exact HO1.out) (Kd.N_base ho5) hb); have HO579 := Aside0.mk (Kd.N_lower ho5 (below_size (bl HB))); replace HB := Aside0.mk (below_step (bl HB) hb); clear hb ho5; obtain ⟨Ao6, co6, eo6⟩ := Kd.N_slice HO579.out; subst eo6) | ((with_reducible refine gate_callee (f := 85) rfl ?_); refine goesM (some 8) Tryz.func85 #[.slice A0 l0.length c0, .slice Ao6 y577.length co6] ?_; (with_reducible refine (monzo_CheckAll.calls k _ _ l0 _ _ y577 t580 _ ?side1 ?side2 ?side3 ?side4 A3.out).mono ?_); (case side1 => repeat (first | exact (Kd.C_below HR0.out HB.out) | (with_reducible refine Kd.C_alloc ?_ _) | (with_reducible refine Kd.C_drewN ?_ _) | (with_reducible refine Kd.C_drew ?_))); (case side2 => exact HC0.out); (case side3 => repeat (first | exact (Kd.N_reads' HO579.out).2.2 | (with_reducible refine Kd.C_alloc ?_ _) | (with_reducible refine Kd.C_drewN ?_ _) | (with_reducible refine Kd.C_drew ?_))); (case side4 => exact (Kd.N_reads' HO579.out).2.1); rintro e w' ⟨rfl, ⟨nd, rfl⟩⟩; refine ⟨_, rfl, ?_⟩))
 go_ret
 exact ⟨rl, bl HB⟩
def size_Of.l0 : Nat → List (S30) → List Int → Int → Int → Option ((List (S30)) × Int)
 | 0, _, _, _, _ => none
 | k + 1, x7, x19, x20, x21 => if x21 < x20 then (if 0 ≤ x21 then (if x21 < (x19.length : Int) then ((size_number.f (rd x19 x21)).bind fun bt586 => (if x21 < (x7.length : Int) then (size_Of.l0 k (x7.set (x21 : Int).toNat (⟨bt586.1, bt586.2⟩ : S30)) x19 x20 (wrap64 (x21 + 1))) else (none))) else (none)) else (none)) else (some (x7, 0))
def size_Of.f (k : Nat) (l0 : List Int) (l1 : List Int) : Option ((List (S30)) × Int) := (monzo_Check.f k l0 l1).bind fun t581 => (if t581 = 0 then ((size_zero.f k (l0.length : Int)).bind fun t582 => (size_Of.l0 k t582 l1 (l1.length : Int) 0)) else (some (([] : List (S30)), t581)))
set_option maxHeartbeats 8000000 in
set_option maxRecDepth 100000 in
theorem size_Of.calls (k : Nat) (A0 : Option Addr) (c0 : Nat) (l0 : List Int) (A1 : Option Addr) (c1 : Nat) (l1 : List Int) (r1 : List (S30)) (r2 : Int) (w : World) (hG : Glob w) (hr0 : Kd.C (Kd.int .i64) w A0 l0.length l0) (hc0 : l0.length ≤ c0) (hr1 : Kd.C (Kd.int .i64) w A1 l1.length l1) (hc1 : l1.length ≤ c1) (h : size_Of.f k l0 l1 = some (r1, r2)) :
  Calls Tryz.prog 39 #[.slice A0 l0.length c0, .slice A1 l1.length c1] w fun e w' => ∃ v0_ : Value, e = .returned (.tuple #[v0_, .int .i64 r2]) ∧ Kd.R k30 30 w' w.heap.size (fun _ => True) v0_ r1 ∧ Below w.heap.size w w' := by
 have hu30 := Tryz.underlying30
 have HR0 := Aside0.mk hr0
 have HC0 := Aside0.mk hc0
 clear hr0 hc0
 have HR1 := Aside0.mk hr1
 have HC1 := Aside0.mk hc1
 clear hr1 hc1
 have HG0 := Aside0.mk hG
 clear hG
 have HB := Aside0.mk (Below.refl w.heap.size w)
 have H : ((monzo_Check.f k l0 l1).bind fun t581 => (if t581 = 0 then ((size_zero.f k (l0.length : Int)).bind fun t582 => (size_Of.l0 k t582 l1 (l1.length : Int) 0)) else (some (([] : List (S30)), t581)))) = some (r1, r2) := h
 clear h
 replace H := Option.bind_eq_some_iff.mp H
 obtain ⟨t581, A30, H⟩ := H
 replace H : (if t581 = 0 then ((size_zero.f k (l0.length : Int)).bind fun t582 => (size_Of.l0 k t582 l1 (l1.length : Int) 0)) else (some (([] : List (S30)), t581))) = some (r1, r2) := H
 have A3 := Aside0.mk A30
 clear A30
 by_cases c4 : t581 = 0
 ·rw [if_pos c4] at H
  have c4b0 : (t581 == 0) = true := beq_iff_eq.mpr c4
  have c4b1 : (t581 != 0) = false := bne_eq_false_iff_eq.mpr c4
  clear c4
  replace H := Option.bind_eq_some_iff.mp H
  obtain ⟨t582, A50, H⟩ := H
  replace H : (size_Of.l0 k t582 l1 (l1.length : Int) 0) = some (r1, r2) := H
  have A5 := Aside0.mk A50
  clear A50
  have H' := Aside0.mk H
  clear H
  go_enter Tryz.func39, Tryz.ntmps39
  go_wp2_with (first | ((with_reducible refine gate_callee (f := 41) rfl ?_); refine goesM (some 12) Tryz.func41 #[.slice A0 l0.length c0, .slice A1 l1.length c1] ?_; (with_reducible refine (monzo_Check.calls k _ _ l0 (fun k_ => k_ < w.heap.size) _ _ l1 t581 _ ?side1 ?side2 ?side3 A3.out).mono ?_); (case side1 => repeat (first | exact HR0.out | (with_reducible refine Kd.C_alloc ?_ _) | (with_reducible refine Kd.C_drewN ?_ _) | (with_reducible refine Kd.C_drew ?_))); (case side2 => exact HC0.out); (case side3 => exact Kd.V_mk HC1.out (Kd.F_below (Kd.C_F (Kd.heap_int .i64) HR1.out) (bl HB))); rintro e w6 ⟨rfl, hb⟩; refine ⟨_, rfl, ?_⟩; replace HB := Aside0.mk (below_step (bl HB) hb); (try clear hb); (try clear hb2); (try clear hk); (try clear hi)) | ((with_reducible refine gate_callee (f := 83) rfl ?_); refine goesM (some 18) Tryz.func83 #[.int .i64 (l0.length : Int)] ?_; (with_reducible refine (size_zero.calls k (l0.length : Int) t582 _ ?side1 A5.out).mono ?_); (case side1 => exact Glob.below HG0.out (bl HB)); rintro e w7 ⟨v583, rfl, ho0, hb⟩; refine ⟨_, rfl, ?_⟩; have HO584 := Aside0.mk (Kd.R_lower ho0 (below_size (bl HB))); replace HB := Aside0.mk (below_step (bl HB) hb); (try clear hb); (try clear hb2); (try clear hk); (try clear hi); (try clear ho0)))
  go_loopg [21] k (fun kq v21 w' => ∃ (x7_1 : List (S30)) (x21_1 : Int), v21 = .int .i64 x21_1 ∧ Aside0 (size_Of.l0 kq x7_1 l1 (l1.length : Int) x21_1 = some (r1, r2)) ∧ Aside0 (kq ≤ k) ∧ Aside0 (Kd.R k30 30 w' w.heap.size (fun _ => True) v583 x7_1) ∧ Aside0 (Below w.heap.size w w'))
  case atStart => exact ⟨(t582), (0), rs, H', ⟨Nat.le_refl _⟩, ⟨kr HO584⟩, ⟨bl HB⟩⟩
  case round =>
   clear H'
   try clear c1
   try clear p2
   try clear c3
   try clear c4
   try clear c4b0
   try clear c4b1
   obtain ⟨x7_1, x21_1, rfl, HA, HK1, HO_7, HB⟩ := hrel
   cases gk with
   | zero => exact absurd HA.out (by simp [size_Of.l0])
   | succ k1 =>
    have H := HA.out
    clear HA
    simp only [size_Of.l0] at H
    by_cases c8 : x21_1 < (l1.length : Int)
    ·rw [if_pos c8] at H
     have c8b0 : decide (x21_1 < (l1.length : Int)) = true := decide_eq_true c8
     clear c8
     by_cases c9 : 0 ≤ x21_1
     ·rw [if_pos c9] at H
      have c9b0 : decide (0 ≤ x21_1) = true := decide_eq_true c9
      clear c9
      by_cases c10 : x21_1 < (l1.length : Int)
      ·rw [if_pos c10] at H
       have c10b0 : decide (x21_1 < (l1.length : Int)) = true := decide_eq_true c10
       clear c10
       replace H := Option.bind_eq_some_iff.mp H
       obtain ⟨⟨t586, t587⟩, A110, H⟩ := H
       replace H : (if x21_1 < (x7_1.length : Int) then (size_Of.l0 k1 (x7_1.set (x21_1 : Int).toNat (⟨t586, t587⟩ : S30)) l1 (l1.length : Int) (wrap64 (x21_1 + 1))) else (none)) = some (r1, r2) := H
       have A11 := Aside0.mk A110
       clear A110
       by_cases c12 : x21_1 < (x7_1.length : Int)
       ·rw [if_pos c12] at H
        have c12b0 : decide (x21_1 < (x7_1.length : Int)) = true := decide_eq_true c12
        clear c12
        obtain ⟨y588, hy588⟩ : ∃ y_ : List (S30), y_ = (x7_1.set (x21_1 : Int).toNat (⟨t586, t587⟩ : S30)) := ⟨_, rfl⟩
        replace H : (size_Of.l0 k1 y588 l1 (l1.length : Int) (wrap64 (x21_1 + 1))) = some (r1, r2) := by first | (rw [hy588]; with_reducible exact H) | (have H2_ := (Option.bind_some _ _).symm.trans H; rw [hy588]; with_reducible exact H2_) | (have H2_ := (Option.bind_some _ _).symm.trans H; with_reducible exact H2_) | with_reducible exact H | (rw [hy588]; exact H) | exact H
        have Ny588 := Aside0.mk hy588
        clear hy588
        have H' := Aside0.mk H
        clear H
        have p585 : 0 ≤ (x21_1 : Int) := of_decide_eq_true (by first | (with_reducible assumption) | assumption)
        have q585 : x21_1 < (l1.length : Int) := of_decide_eq_true (by first | (with_reducible assumption) | assumption)
        obtain ⟨ad585, e585, hx585_0⟩ := Kd.at_int HR1.out x21_1 p585 q585
        cases e585
        replace hx585_0 := (HB.out.cell (World.block_lt_of_cell? w _ hx585_0)).trans hx585_0
        replace p585 := eq_true p585
        replace q585 := eq_true q585
        go_wp2_with (first | ((with_reducible refine gate_callee (f := 65) rfl ?_); refine goesM (some 29) Tryz.func65 #[.int .i64 (rd l1 x21_1)] ?_; (with_reducible refine (size_number.calls (rd l1 x21_1) t586 t587 _ ?side1 A11.out).mono ?_); (case side1 => exact Glob.below HG0.out (bl HB)); rintro e w14 ⟨rfl, hb⟩; refine ⟨_, rfl, ?_⟩; replace HO_7 := Aside0.mk (Kd.R_below (kr HO_7) hb); replace HB := Aside0.mk (below_step (bl HB) hb); (try clear hb); (try clear hb2); (try clear hk); (try clear hi); have p13 : 0 ≤ (x21_1 : Int) := of_decide_eq_true (by first | (with_reducible assumption) | assumption); have q13 : (x21_1 : Int) < ((x7_1.length : Int) : Int) := of_decide_eq_true (by first | (with_reducible assumption) | assumption); obtain ⟨go13, co13, eo13, gb13, gl13, cl13, HG13⟩ := Kd.R_form HO_7.out (by omega); (first | cases eo13 | (injection eo13 with ea_ en_ ec_; (first | subst ea_ | (injection ea_ with ea_; subst ea_)); subst ec_; clear en_)); have GB13 := Aside0.mk gb13; have GG13 := Aside0.mk HG13; clear gb13 gl13 HG13; obtain ⟨ce13, hcl13, hM13, hcc13, hfr13⟩ := Kd.R_elem HO_7.out z30 (x21_1 : Int) p13 q13; obtain rfl := k30_openM hM13; have hx13_0 : w14.cell? ⟨go13, (x21_1 : Int).toNat * 2, none⟩ = some (.string ((rd_T30 x7_1 x21_1).f0)) := hcc13 0 _ rfl; have hx13_1 : w14.cell? ⟨go13, (x21_1 : Int).toNat * 2 + 1, none⟩ = some (.string ((rd_T30 x7_1 x21_1).f1)) := hcc13 1 _ rfl; have hf13_0 : w14.frozen? ⟨go13, (x21_1 : Int).toNat * 2, none⟩ = false := hfr13 0; have hf13_1 : w14.frozen? ⟨go13, (x21_1 : Int).toNat * 2 + 1, none⟩ = false := hfr13 1; clear hcl13 hcc13 hfr13 hM13; replace p13 := eq_true p13; replace q13 := eq_true q13; have HX15 := Aside0.mk (show Kd.R k30 30 w14 w.heap.size (fun _ => True) (.slice (some ⟨go13, 0, none⟩) x7_1.length co13) x7_1 from (kr HO_7)); obtain ⟨ce15, hcl15, hM15, hcc15, hfr15⟩ := Kd.R_elem HX15.out z30 (x21_1 : Int) (of_decide_eq_true (by first | (with_reducible assumption) | assumption)) (by have h_ : (x21_1 : Int) < ((x7_1.length : Int) : Int) := of_decide_eq_true (by first | (with_reducible assumption) | assumption); first | exact h_ | (have e_ := (Kd.R_reads' HO_7.out).1; omega) | simpa using h_); obtain rfl := k30_openM hM15; have HP15 := Kd.R_seg HX15.out (x21_1 : Int) (of_decide_eq_true (by first | (with_reducible assumption) | assumption)) (by have h_ : (x21_1 : Int) < ((x7_1.length : Int) : Int) := of_decide_eq_true (by first | (with_reducible assumption) | assumption); first | exact h_ | (have e_ := (Kd.R_reads' HO_7.out).1; omega) | simpa using h_) (seg := [.string t586, .string t587]) (j := 0) hcl15 hcc15 (show 2 ≤ 2 from by decide) (x' := (⟨t586, t587⟩ : S30)) (k30_mkM _ _ _ (⟨t586, t587⟩ : S30) ) (fun _ hk => hk); have hx15_0 := hcc15 0 _ rfl; (try simp only [show (k30).sz = 2 from rfl, Nat.mul_one, Nat.add_zero] at hx15_0); have hf15_0 := hfr15 0; (try simp only [show (k30).sz = 2 from rfl, Nat.mul_one, Nat.add_zero] at hf15_0); have hx15_1 := hcc15 1 _ rfl; (try simp only [show (k30).sz = 2 from rfl, Nat.mul_one, Nat.add_zero] at hx15_1); have hf15_1 := hfr15 1; (try simp only [show (k30).sz = 2 from rfl, Nat.mul_one, Nat.add_zero] at hf15_1); clear hcl15 hcc15 hfr15 hM15) | ((with_reducible refine gate_store (t := 30) (p := 30) rfl ?_); refine store_event (t := 30) (p := 30) (v := ?vo_w16) (w1 := ((w14.setCell ⟨go13, (x21_1 : Int).toNat * 2, none⟩ (.string t586)).setCell ⟨go13, (x21_1 : Int).toNat * 2 + 1, none⟩ (.string t587))) ?hg ?ho ?hn ?hr ?_; (case ho => rfl); (case hg => rfl); (case hn => rfl); (case hr => first | (go_simp; done) | (go_simp; rfl)); intro w16 hw; have hg : w14.grownBy w16 (some go13) := (by rw [hw]; exact HP15.2); have hp_ : Kd.R k30 30 w16 w.heap.size (fun _ => True) (.slice (some ⟨go13, 0, none⟩) x7_1.length co13) y588 := (by rw [hw, Ny588.out]; exact HP15.1); clear HP15; replace HO_7 := Aside0.mk (hp_); replace HB := Aside0.mk ((by rw [hw]; exact below_set (below_set (HB.out) GB13.out) GB13.out : Below w.heap.size w w16)); clear hg hw hp_))
        go_roundg k1
        case measure => have := HK1.out; omega
        case rel => exact ⟨(y588), (wrap64 (x21_1 + 1)), rs, H', ⟨by have := HK1.out; omega⟩, ⟨kr HO_7⟩, ⟨bl HB⟩⟩
       ·rw [if_neg c12] at H
        exact absurd H (by simp)
      ·rw [if_neg c10] at H
       exact absurd H (by simp)
     ·rw [if_neg c9] at H
      exact absurd H (by simp)
    ·rw [if_neg c8] at H
     have c8b0 : decide (x21_1 < (l1.length : Int)) = false := decide_eq_false c8
     clear c8
     simp only [Option.some.injEq, Prod.mk.injEq] at H
     obtain ⟨rfl, rfl⟩ := H
     go_wp2
     go_ret2
     exact ⟨_, rl, kr HO_7, bl HB⟩
 ·rw [if_neg c4] at H
  have c4b0 : (t581 == 0) = false := beq_eq_false_iff_ne.mpr c4
  have c4b1 : (t581 != 0) = true := bne_iff_ne.mpr c4
  simp only [Option.some.injEq, Prod.mk.injEq] at H
  obtain ⟨rfl, rfl⟩ := H
  go_enter Tryz.func39, Tryz.ntmps39
  go_wp2_with (first | ((with_reducible refine gate_callee (f := 41) rfl ?_); refine goesM (some 12) Tryz.func41 #[.slice A0 l0.length c0, .slice A1 l1.length c1] ?_; (with_reducible refine (monzo_Check.calls k _ _ l0 (fun k_ => k_ < w.heap.size) _ _ l1 t581 _ ?side1 ?side2 ?side3 A3.out).mono ?_); (case side1 => repeat (first | exact HR0.out | (with_reducible refine Kd.C_alloc ?_ _) | (with_reducible refine Kd.C_drewN ?_ _) | (with_reducible refine Kd.C_drew ?_))); (case side2 => exact HC0.out); (case side3 => exact Kd.V_mk HC1.out (Kd.F_below (Kd.C_F (Kd.heap_int .i64) HR1.out) (bl HB))); rintro e w17 ⟨rfl, hb⟩; refine ⟨_, rfl, ?_⟩; replace HB := Aside0.mk (below_step (bl HB) hb); (try clear hb); (try clear hb2); (try clear hk); (try clear hi)))
  go_ret2
  exact ⟨_, rl, by first | exact Kd.R_nil _ _ _ _ _ | exact Kd.N_nil _ _ _ _ _ | exact Kd.V_nil _ _ _ _ _ | exact Kd.Q_nil _ _ _ _ _ | exact Kd.S_nil _ _ _ _ _, bl HB⟩
end Go.Proofs.YtailoobjgbldgaaGreatDoor.P
end
section
namespace Go.Proofs.YtailoobjgbldgaaGreatDoor.P
open Go.RowKit Go.Proofs.YtailoobjgbldgaaGreatDoorW.PrintWords Go.Proofs.YtailoobjgbldgaaGreatDoorW.PrintLast Go.Proofs.YtailoobjgbldgaaGreatDoorW.PrintMore
attribute [local go_sem] max2_int min2_int max_two min_two max_three min_three max_four min_four   
set_option linter.unusedVariables false
set_option linter.unusedSimpArgs false
attribute [local go_sem high] eqA30
mutual
def schismalaw13_SizeIntervals.j0 : Nat → List Int → List Int → Bool → Option (Bool)
 | 0, _, _, _ => none
 | k + 1, x0, x1, x26 => if x26 = true then ((schismalaw13_known.f k).bind fun t590 => (some t590)) else ((size_Zero.f k x0).bind fun bt591 => ((size_Equave.f k x0).bind fun bt595 => ((size_Of.f k x0 x1).bind fun bt599 => ((prime_Check.f k x0).bind fun t603 => (schismalaw13_SizeIntervals.j1 k x0 x1 bt591.1 bt591.2 bt595.1 bt595.2 bt599.1 bt599.2 t603)))))
def schismalaw13_SizeIntervals.j1 : Nat → List Int → List Int → List (S30) → Int → List (S30) → Int → List (S30) → Int → Int → Option (Bool)
 | 0, _, _, _, _, _, _, _, _, _ => none
 | k + 1, x0, x1, x5, x6, x7, x8, x9, x10, x11 => if x11 = 0 then (if x6 = 0 then (if x8 = 0 then (if (x5.length : Int) = (x0.length : Int) then (if (x7.length : Int) = (x0.length : Int) then (if 0 < (x7.length : Int) then ((schismalaw13_part.f k 1 1).bind fun bt605 => (schismalaw13_SizeIntervals.j2 k x0 x1 x5 x7 x9 x10 (!((((rd_T30 x7 0).f0).toList) == bt605.1.toList) || (!((((rd_T30 x7 0).f1).toList) == bt605.2.toList))))) else (none)) else (schismalaw13_SizeIntervals.j2 k x0 x1 x5 x7 x9 x10 true)) else (schismalaw13_SizeIntervals.j2 k x0 x1 x5 x7 x9 x10 true)) else (schismalaw13_SizeIntervals.j2 k x0 x1 x5 x7 x9 x10 true)) else (schismalaw13_SizeIntervals.j2 k x0 x1 x5 x7 x9 x10 true)) else (if (wrap64 ((wrap64 ((x5.length : Int) + (x7.length : Int))) + (x9.length : Int))) = 0 then (if x6 = x11 then (if x8 = x11 then (some (x10 == x11)) else (some false)) else (some false)) else (some false))
def schismalaw13_SizeIntervals.j2 : Nat → List Int → List Int → List (S30) → List (S30) → List (S30) → Int → Bool → Option (Bool)
 | 0, _, _, _, _, _, _, _ => none
 | k + 1, x0, x1, x5, x7, x9, x10, x98 => if x98 = true then (some false) else (schismalaw13_SizeIntervals.l0 k x0 x1 x5 x7 x9 x10 0)
def schismalaw13_SizeIntervals.l0 : Nat → List Int → List Int → List (S30) → List (S30) → List (S30) → Int → Int → Option (Bool)
 | 0, _, _, _, _, _, _, _ => none
 | k + 1, x0, x1, x5, x7, x9, x10, x12 => if x12 < (x0.length : Int) then (if 0 ≤ x12 then (if x12 < (x5.length : Int) then ((schismalaw13_part.f k 0 1).bind fun bt608 => (if (!((((rd_T30 x5 x12).f0).toList) == bt608.1.toList) || (!((((rd_T30 x5 x12).f1).toList) == bt608.2.toList))) = true then (some false) else (if x12 > 0 then (if x12 < (x7.length : Int) then ((schismalaw13_part.f k 0 1).bind fun bt611 => (if (!((((rd_T30 x7 x12).f0).toList) == bt611.1.toList) || (!((((rd_T30 x7 x12).f1).toList) == bt611.2.toList))) = true then (some false) else (schismalaw13_SizeIntervals.l0 k x0 x1 x5 x7 x9 x10 (wrap64 (x12 + 1))))) else (none)) else (schismalaw13_SizeIntervals.l0 k x0 x1 x5 x7 x9 x10 (wrap64 (x12 + 1)))))) else (none)) else (none)) else ((monzo_Check.f k x0 x1).bind fun t613 => (if t613 = 0 then (if x10 = 0 then (schismalaw13_SizeIntervals.j4 k x1 x9 ((x9.length : Int) != (x1.length : Int))) else (schismalaw13_SizeIntervals.j4 k x1 x9 true)) else (if (x9.length : Int) = 0 then (some (x10 == t613)) else (some false))))
def schismalaw13_SizeIntervals.j4 : Nat → List Int → List (S30) → Bool → Option (Bool)
 | 0, _, _, _ => none
 | k + 1, x1, x9, x144 => if x144 = true then (some false) else (schismalaw13_SizeIntervals.l1 k x1 x9 0)
def schismalaw13_SizeIntervals.l1 : Nat → List Int → List (S30) → Int → Option (Bool)
 | 0, _, _, _ => none
 | k + 1, x1, x9, x14 => if x14 < (x1.length : Int) then (if 0 ≤ x14 then (if x14 < (x9.length : Int) then ((schismalaw13_part.f k (rd x1 x14) 1).bind fun bt616 => (if (!((((rd_T30 x9 x14).f0).toList) == bt616.1.toList) || (!((((rd_T30 x9 x14).f1).toList) == bt616.2.toList))) = true then (some false) else (schismalaw13_SizeIntervals.l1 k x1 x9 (wrap64 (x14 + 1))))) else (none)) else (none)) else (some true)
end
def schismalaw13_SizeIntervals.f (k : Nat) (l0 : List Int) (l1 : List Int) : Option (Bool) := (schismalaw13_known.f k).bind fun t589 => (if t589 = true then (if (l0.length : Int) > 8 then (schismalaw13_SizeIntervals.j0 k l0 l1 true) else (schismalaw13_SizeIntervals.j0 k l0 l1 (decide ((l1.length : Int) > 10)))) else (schismalaw13_SizeIntervals.j0 k l0 l1 true))
def schismalaw13_SizeIntervals.T9 : Bool × List (List Nat × List Nat) := (true, [([], []), ([0], [0]), ([1], [1]), ([2], [2]), ([3, 2], [2, 3]), ([2, 4], [2, 4]), ([5, 2], [5]), ([6], [6]), ([7, 6], [6, 7]), ([6], [6]), ([9, 6], [6, 9]), ([8, 10, 6], [6, 8, 10]), ([6, 11], [6, 11]), ([12, 6], [12]), ([13], [13]), ([14, 13], [13, 14]), ([13], [13]), ([16, 13], [13, 16]), ([15, 17, 13], [13, 15, 17]), ([13, 18], [13, 18]), ([19, 13], [19]), ([20], [20]), ([21, 20], [20, 21]), ([22, 20], [20, 22]), ([20, 20], [20]), ([23, 24, 20], [20, 23, 24]), ([20, 25], [20, 25])])
def schismalaw13_SizeIntervals.B9 : List Nat := [0, 1, 3, 7, 15, 31, 63, 127, 255, 127, 639, 2047, 4095, 8191, 16383, 32767, 16383, 81919, 262143, 524287, 1048575, 2097151, 4194303, 8388607, 2097151, 33554431, 67108863]
theorem schismalaw13_SizeIntervals.tab9 : rtab .any (opsOf Tryz.f8 9) = schismalaw13_SizeIntervals.T9 := by kernel_rfl
theorem schismalaw13_SizeIntervals.bits9 : waitsOk schismalaw13_SizeIntervals.T9.2 schismalaw13_SizeIntervals.B9 = true := by kernel_rfl
def schismalaw13_SizeIntervals.T14 : Bool × List (List Nat × List Nat) := (true, [([], []), ([], []), ([0, 1], [0, 1]), ([2], [2]), ([], []), ([3, 4], [3, 4]), ([5, 4], [5]), ([6], [6]), ([7, 6], [6, 7]), ([8, 6, 6], [6, 8]), ([9], [9]), ([9], [9]), ([10, 11, 9], [9, 10, 11]), ([12, 9], [9, 12]), ([9, 9], [9]), ([13, 14, 9], [9, 13, 14]), ([9, 15, 6], [6, 9, 15]), ([6, 16], [6, 16])])
def schismalaw13_SizeIntervals.B14 : List Nat := [0, 0, 3, 7, 0, 31, 63, 127, 255, 511, 1023, 1023, 4095, 8191, 1023, 32767, 65535, 131071]
theorem schismalaw13_SizeIntervals.tab14 : rtab .any (opsOf Tryz.f8 14) = schismalaw13_SizeIntervals.T14 := by kernel_rfl
theorem schismalaw13_SizeIntervals.bits14 : waitsOk schismalaw13_SizeIntervals.T14.2 schismalaw13_SizeIntervals.B14 = true := by kernel_rfl
def schismalaw13_SizeIntervals.T24 : Bool × List (List Nat × List Nat) := (true, [([], []), ([], []), ([0, 1], [0, 1]), ([2], [2]), ([], []), ([], []), ([4, 5], [4, 5]), ([6], [6]), ([7], [7]), ([3, 8], [3, 8])])
def schismalaw13_SizeIntervals.B24 : List Nat := [0, 0, 3, 7, 0, 0, 48, 112, 240, 511]
theorem schismalaw13_SizeIntervals.tab24 : rtab .any (opsOf Tryz.f8 24) = schismalaw13_SizeIntervals.T24 := by kernel_rfl
theorem schismalaw13_SizeIntervals.bits24 : waitsOk schismalaw13_SizeIntervals.T24.2 schismalaw13_SizeIntervals.B24 = true := by kernel_rfl
set_option maxHeartbeats 8000000 in
set_option maxRecDepth 100000 in
theorem schismalaw13_SizeIntervals.calls (k : Nat) (A0 : Option Addr) (c0 : Nat) (l0 : List Int) (A1 : Option Addr) (c1 : Nat) (l1 : List Int) (r : Bool) (w : World) (hG : Glob w) (hr0 : Kd.C (Kd.int .i64) w A0 l0.length l0) (hc0 : l0.length ≤ c0) (hr1 : Kd.C (Kd.int .i64) w A1 l1.length l1) (hc1 : l1.length ≤ c1) (h : schismalaw13_SizeIntervals.f k l0 l1 = some r) :
  Calls Tryz.prog 8 #[.slice A0 l0.length c0, .slice A1 l1.length c1] w fun e w' => e = .returned (.bool r) ∧ Below w.heap.size w w' := by
 have hu30 := Tryz.underlying30
 have HR0 := Aside0.mk hr0
 have HC0 := Aside0.mk hc0
 clear hr0 hc0
 have HR1 := Aside0.mk hr1
 have HC1 := Aside0.mk hc1
 clear hr1 hc1
 have HG0 := Aside0.mk hG
 clear hG
 have HB := Aside0.mk (Below.refl w.heap.size w)
 have H : ((schismalaw13_known.f k).bind fun t589 => (if t589 = true then (if (l0.length : Int) > 8 then (schismalaw13_SizeIntervals.j0 k l0 l1 true) else (schismalaw13_SizeIntervals.j0 k l0 l1 (decide ((l1.length : Int) > 10)))) else (schismalaw13_SizeIntervals.j0 k l0 l1 true))) = some r := h
 clear h
 have HC3 := Aside0.mk H
 clear H
 go_enter Tryz.func8, Tryz.ntmps8
 go_upto_region 1 with (fail)
 go_cut [26] (fun v26 wc => ∃ (kq : Nat) (x26_2 : Bool), v26 = .bool x26_2 ∧ Aside0 (schismalaw13_SizeIntervals.j0 kq l0 l1 x26_2 = some r) ∧ Aside0 (kq ≤ k) ∧ Aside0 (Below w.heap.size w wc))
 case first =>
  have H := HC3.out
  clear HC3
  replace H := Option.bind_eq_some_iff.mp H
  obtain ⟨t589, A40, H⟩ := H
  replace H : (if t589 = true then (if (l0.length : Int) > 8 then (schismalaw13_SizeIntervals.j0 k l0 l1 true) else (schismalaw13_SizeIntervals.j0 k l0 l1 (decide ((l1.length : Int) > 10)))) else (schismalaw13_SizeIntervals.j0 k l0 l1 true)) = some r := H
  have A4 := Aside0.mk A40
  clear A40
  by_cases c5 : t589 = true
  ·subst c5
   have H1 : (if (l0.length : Int) > 8 then (schismalaw13_SizeIntervals.j0 k l0 l1 true) else (schismalaw13_SizeIntervals.j0 k l0 l1 (decide ((l1.length : Int) > 10)))) = some r := by rw [if_pos rfl] at H; exact H
   clear H
   have H := H1
   clear H1
   by_cases c6 : (l0.length : Int) > 8
   ·rw [if_pos c6] at H
    have c6b0 : decide (8 < (l0.length : Int)) = true := decide_eq_true c6
    have c6b1 : decide (8 < l0.length) = true := decide_eq_true (by omega)
    clear c6
    (first | rw [c6b0] | (simp only [i64_w, i32_w]; rw [c6b0]) | skip)
    have H' := Aside0.mk H
    clear H
    go_wp2_with (first | ((with_reducible refine gate_callee (f := 12) rfl ?_); refine goesM (some 15) Tryz.func12 #[] ?_; (with_reducible refine (schismalaw13_known.calls k  true _ ?side1 A4.out).mono ?_); (case side1 => exact Glob.below HG0.out (bl HB)); rintro e w7 ⟨rfl, hb⟩; refine ⟨_, rfl, ?_⟩; replace HB := Aside0.mk (below_step (bl HB) hb); (try clear hb); (try clear hb2); (try clear hk); (try clear hi)))
    go_meet
    case rel => exact ⟨_, (true), rs, H', ⟨by first | omega | exact Nat.le_refl _⟩, ⟨bl HB⟩⟩
   ·rw [if_neg c6] at H
    have c6b0 : decide (8 < (l0.length : Int)) = false := decide_eq_false c6
    have c6b1 : decide (8 < l0.length) = false := decide_eq_false (by omega)
    clear c6
    (first | rw [c6b0] | (simp only [i64_w, i32_w]; rw [c6b0]) | skip)
    have H' := Aside0.mk H
    clear H
    go_wp2_with (first | ((with_reducible refine gate_callee (f := 12) rfl ?_); refine goesM (some 15) Tryz.func12 #[] ?_; (with_reducible refine (schismalaw13_known.calls k  true _ ?side1 A4.out).mono ?_); (case side1 => exact Glob.below HG0.out (bl HB)); rintro e w8 ⟨rfl, hb⟩; refine ⟨_, rfl, ?_⟩; replace HB := Aside0.mk (below_step (bl HB) hb); (try clear hb); (try clear hb2); (try clear hk); (try clear hi)))
    go_meet
    case rel => exact ⟨_, (decide ((l1.length : Int) > 10)), rs, H', ⟨by first | omega | exact Nat.le_refl _⟩, ⟨bl HB⟩⟩
  ·replace c5 := Bool.eq_false_iff.mpr c5
   subst c5
   have H1 : (schismalaw13_SizeIntervals.j0 k l0 l1 true) = some r := by rw [if_neg (show ¬ (false = true) by decide)] at H; exact H
   clear H
   have H := H1
   clear H1
   have H' := Aside0.mk H
   clear H
   go_wp2_with (first | ((with_reducible refine gate_callee (f := 12) rfl ?_); refine goesM (some 15) Tryz.func12 #[] ?_; (with_reducible refine (schismalaw13_known.calls k  false _ ?side1 A4.out).mono ?_); (case side1 => exact Glob.below HG0.out (bl HB)); rintro e w9 ⟨rfl, hb⟩; refine ⟨_, rfl, ?_⟩; replace HB := Aside0.mk (below_step (bl HB) hb); (try clear hb); (try clear hb2); (try clear hk); (try clear hi)))
   go_meet
   case rel => exact ⟨_, (true), rs, H', ⟨by first | omega | exact Nat.le_refl _⟩, ⟨bl HB⟩⟩
 case rest =>
  clear HC3
  try clear c1
  try clear p2
  try clear c5
  try clear c6
  try clear c6b0
  try clear c6b1
  try clear c8
  obtain ⟨kq, x26_2, rfl, HA, HJ2, HB⟩ := hcut
  cases kq with
  | zero => exact absurd HA.out (by simp [schismalaw13_SizeIntervals.j0])
  | succ kj2 =>
   have H := HA.out
   clear HA
   simp only [schismalaw13_SizeIntervals.j0] at H
   by_cases c10 : x26_2 = true
   ·subst c10
    have H1 : ((schismalaw13_known.f kj2).bind fun t590 => (some t590)) = some r := by rw [if_pos rfl] at H; exact H
    clear H
    have H := H1
    clear H1
    replace H := Option.bind_eq_some_iff.mp H
    obtain ⟨t590, A110, H⟩ := H
    replace H : (some t590) = some r := H
    have A11 := Aside0.mk A110
    clear A110
    obtain rfl := Option.some.inj H
    go_wp2_with (first | ((with_reducible refine gate_callee (f := 12) rfl ?_); refine goesM (some 27) Tryz.func12 #[] ?_; (with_reducible refine (schismalaw13_known.calls kj2  t590 _ ?side1 A11.out).mono ?_); (case side1 => exact Glob.below HG0.out (bl HB)); rintro e w12 ⟨rfl, hb⟩; refine ⟨_, rfl, ?_⟩; replace HB := Aside0.mk (below_step (bl HB) hb); (try clear hb); (try clear hb2); (try clear hk); (try clear hi)))
    go_ret
    exact ⟨rl, bl HB⟩
   ·replace c10 := Bool.eq_false_iff.mpr c10
    subst c10
    have H1 : ((size_Zero.f kj2 l0).bind fun bt591 => ((size_Equave.f kj2 l0).bind fun bt595 => ((size_Of.f kj2 l0 l1).bind fun bt599 => ((prime_Check.f kj2 l0).bind fun t603 => (schismalaw13_SizeIntervals.j1 kj2 l0 l1 bt591.1 bt591.2 bt595.1 bt595.2 bt599.1 bt599.2 t603))))) = some r := by rw [if_neg (show ¬ (false = true) by decide)] at H; exact H
    clear H
    have H := H1
    clear H1
    replace H := Option.bind_eq_some_iff.mp H
    obtain ⟨⟨t591, t592⟩, A130, H⟩ := H
    replace H : ((size_Equave.f kj2 l0).bind fun bt595 => ((size_Of.f kj2 l0 l1).bind fun bt599 => ((prime_Check.f kj2 l0).bind fun t603 => (schismalaw13_SizeIntervals.j1 kj2 l0 l1 t591 t592 bt595.1 bt595.2 bt599.1 bt599.2 t603)))) = some r := H
    have A13 := Aside0.mk A130
    clear A130
    replace H := Option.bind_eq_some_iff.mp H
    obtain ⟨⟨t595, t596⟩, A140, H⟩ := H
    replace H : ((size_Of.f kj2 l0 l1).bind fun bt599 => ((prime_Check.f kj2 l0).bind fun t603 => (schismalaw13_SizeIntervals.j1 kj2 l0 l1 t591 t592 t595 t596 bt599.1 bt599.2 t603))) = some r := H
    have A14 := Aside0.mk A140
    clear A140
    replace H := Option.bind_eq_some_iff.mp H
    obtain ⟨⟨t599, t600⟩, A150, H⟩ := H
    replace H : ((prime_Check.f kj2 l0).bind fun t603 => (schismalaw13_SizeIntervals.j1 kj2 l0 l1 t591 t592 t595 t596 t599 t600 t603)) = some r := H
    have A15 := Aside0.mk A150
    clear A150
    have HC16 := Aside0.mk H
    clear H
    go_upto_region 6 with (first | ((with_reducible refine gate_callee (f := 37) rfl ?_); refine goesM (some 30) Tryz.func37 #[.slice A0 l0.length c0] ?_; (with_reducible refine (size_Zero.calls kj2 _ _ l0 t591 t592 _ ?side1 ?side2 ?side3 A13.out).mono ?_); (case side1 => exact Glob.below HG0.out (bl HB)); (case side2 => repeat (first | exact (Kd.C_below HR0.out HB.out) | (with_reducible refine Kd.C_alloc ?_ _) | (with_reducible refine Kd.C_drewN ?_ _) | (with_reducible refine Kd.C_drew ?_))); (case side3 => exact HC0.out); rintro e w17 ⟨v593, rfl, ho0, hb⟩; refine ⟨_, rfl, ?_⟩; have HO594 := Aside0.mk (Kd.R_lower ho0 (below_size (bl HB))); replace HB := Aside0.mk (below_step (bl HB) hb); (try clear hb); (try clear hb2); (try clear hk); (try clear hi); (try clear ho0)) | ((with_reducible refine gate_callee (f := 38) rfl ?_); refine goesM (some 35) Tryz.func38 #[.slice A0 l0.length c0] ?_; (with_reducible refine (size_Equave.calls kj2 _ _ l0 t595 t596 _ ?side1 ?side2 ?side3 A14.out).mono ?_); (case side1 => exact Glob.below HG0.out (bl HB)); (case side2 => repeat (first | exact (Kd.C_below HR0.out HB.out) | (with_reducible refine Kd.C_alloc ?_ _) | (with_reducible refine Kd.C_drewN ?_ _) | (with_reducible refine Kd.C_drew ?_))); (case side3 => exact HC0.out); rintro e w18 ⟨v597, rfl, ho0, hb⟩; refine ⟨_, rfl, ?_⟩; have HO598 := Aside0.mk (Kd.R_lower (Kd.R_new' ho0 (Kd.R_lt (kr HO594))) (below_size (bl HB))); replace HO594 := Aside0.mk (Kd.R_elder' (kr HO594) (Kd.R_base ho0) hb); replace HB := Aside0.mk (below_step (bl HB) hb); (try clear hb); (try clear hb2); (try clear hk); (try clear hi); (try clear ho0)) | ((with_reducible refine gate_callee (f := 39) rfl ?_); refine goesM (some 41) Tryz.func39 #[.slice A0 l0.length c0, .slice A1 l1.length c1] ?_; (with_reducible refine (size_Of.calls kj2 _ _ l0 _ _ l1 t599 t600 _ ?side1 ?side2 ?side3 ?side4 ?side5 A15.out).mono ?_); (case side1 => exact Glob.below HG0.out (bl HB)); (case side2 => repeat (first | exact (Kd.C_below HR0.out HB.out) | (with_reducible refine Kd.C_alloc ?_ _) | (with_reducible refine Kd.C_drewN ?_ _) | (with_reducible refine Kd.C_drew ?_))); (case side3 => exact HC0.out); (case side4 => repeat (first | exact (Kd.C_below HR1.out HB.out) | (with_reducible refine Kd.C_alloc ?_ _) | (with_reducible refine Kd.C_drewN ?_ _) | (with_reducible refine Kd.C_drew ?_))); (case side5 => exact HC1.out); rintro e w19 ⟨v601, rfl, ho0, hb⟩; refine ⟨_, rfl, ?_⟩; have HO602 := Aside0.mk (Kd.R_lower (Kd.R_new' (Kd.R_new' ho0 (Kd.R_lt (kr HO594))) (Kd.R_lt (kr HO598))) (below_size (bl HB))); replace HO594 := Aside0.mk (Kd.R_elder' (kr HO594) (Kd.R_base ho0) hb); replace HO598 := Aside0.mk (Kd.R_elder' (kr HO598) (Kd.R_base ho0) hb); replace HB := Aside0.mk (below_step (bl HB) hb); (try clear hb); (try clear hb2); (try clear hk); (try clear hi); (try clear ho0)))
    (try simp only [Act.put, List.setIfInBounds_toArray, List.set_cons_zero, List.set_cons_succ])
    go_cut [11] (fun v11 wc => ∃ (kq : Nat) (x11_15 : Int), v11 = .int .i64 x11_15 ∧ Aside0 (schismalaw13_SizeIntervals.j1 kq l0 l1 t591 t592 t595 t596 t599 t600 x11_15 = some r) ∧ Aside0 (kq ≤ kj2) ∧ Aside0 (Kd.R k30 30 wc w.heap.size (fun k_ => some k_ ≠ (v597 : Value).ownBlock ∧ some k_ ≠ (v601 : Value).ownBlock) v593 t591) ∧ Aside0 (Kd.R k30 30 wc w.heap.size (fun k_ => some k_ ≠ (v593 : Value).ownBlock ∧ some k_ ≠ (v601 : Value).ownBlock) v597 t595) ∧ Aside0 (Kd.R k30 30 wc w.heap.size (fun k_ => some k_ ≠ (v593 : Value).ownBlock ∧ some k_ ≠ (v597 : Value).ownBlock) v601 t599) ∧ Aside0 (Below w.heap.size w wc))
    case first =>
     have H := HC16.out
     clear HC16
     replace H := Option.bind_eq_some_iff.mp H
     obtain ⟨t603, A200, H⟩ := H
     replace H : (schismalaw13_SizeIntervals.j1 kj2 l0 l1 t591 t592 t595 t596 t599 t600 t603) = some r := H
     have A20 := Aside0.mk A200
     clear A200
     have H' := Aside0.mk H
     clear H
     go_wp2_with (first | ((with_reducible refine gate_callee (f := 40) rfl ?_); refine goesM (some 45) Tryz.func40 #[.slice A0 l0.length c0] ?_; (with_reducible refine (prime_Check.calls kj2 _ _ l0 t603 _ ?side1 ?side2 A20.out).mono ?_); (case side1 => repeat (first | exact (Kd.C_below HR0.out HB.out) | (with_reducible refine Kd.C_alloc ?_ _) | (with_reducible refine Kd.C_drewN ?_ _) | (with_reducible refine Kd.C_drew ?_))); (case side2 => exact HC0.out); rintro e w' ⟨rfl, ⟨nd, rfl⟩⟩; refine ⟨_, rfl, ?_⟩))
     go_meet
     case rel => exact ⟨_, (t603), rs, H', ⟨by have := HJ2.out; first | omega | exact Nat.le_refl _⟩, ⟨by (with_reducible repeat (first | apply Kd.R_alloc | apply Kd.R_drewN | apply Kd.R_drew)); exact Kd.R_mono HO594.out (fun _ hk => ⟨hk.1.2, hk.2⟩)⟩, ⟨by (with_reducible repeat (first | apply Kd.R_alloc | apply Kd.R_drewN | apply Kd.R_drew)); exact Kd.R_mono HO598.out (fun _ hk => ⟨hk.1.2, hk.2⟩)⟩, ⟨by (with_reducible repeat (first | apply Kd.R_alloc | apply Kd.R_drewN | apply Kd.R_drew)); exact Kd.R_mono HO602.out (fun _ hk => ⟨hk.1.2, hk.2⟩)⟩, ⟨bl HB⟩⟩
    case rest =>
     clear HC16
     try clear c1
     try clear p2
     try clear c3
     try clear c4
     try clear c5
     try clear c6
     try clear c6b0
     try clear c6b1
     try clear c8
     try clear c10
     try clear c12
     try clear p2
     obtain ⟨kq, x11_15, rfl, HA, HJ15, HO_5, HO_7, HO_9, HB⟩ := hcut
     cases kq with
     | zero => exact absurd HA.out (by simp [schismalaw13_SizeIntervals.j1])
     | succ kj15 =>
      have H := HA.out
      clear HA
      simp only [schismalaw13_SizeIntervals.j1] at H
      by_cases c21 : x11_15 = 0
      ·rw [if_pos c21] at H
       have c21b0 : (x11_15 == 0) = true := beq_iff_eq.mpr c21
       have c21b1 : (x11_15 != 0) = false := bne_eq_false_iff_eq.mpr c21
       clear c21
       have HC22 := Aside0.mk H
       clear H
       go_upto_region 9 with (fail)
       go_cut [98] (fun v98 wc => ∃ (kq : Nat) (x98_21 : Bool), v98 = .bool x98_21 ∧ Aside0 (schismalaw13_SizeIntervals.j2 kq l0 l1 t591 t595 t599 t600 x98_21 = some r) ∧ Aside0 (kq ≤ kj15) ∧ Aside0 (Kd.R k30 30 wc w.heap.size (fun k_ => some k_ ≠ (v597 : Value).ownBlock ∧ some k_ ≠ (v601 : Value).ownBlock) v593 t591) ∧ Aside0 (Kd.R k30 30 wc w.heap.size (fun k_ => some k_ ≠ (v593 : Value).ownBlock ∧ some k_ ≠ (v601 : Value).ownBlock) v597 t595) ∧ Aside0 (Kd.R k30 30 wc w.heap.size (fun k_ => some k_ ≠ (v593 : Value).ownBlock ∧ some k_ ≠ (v597 : Value).ownBlock) v601 t599) ∧ Aside0 (Below w.heap.size w wc))
       case first =>
        have H := HC22.out
        clear HC22
        by_cases c23 : t592 = 0
        ·rw [if_pos c23] at H
         have c23b0 : (t592 == 0) = true := beq_iff_eq.mpr c23
         have c23b1 : (t592 != 0) = false := bne_eq_false_iff_eq.mpr c23
         clear c23
         (first | rw [c23b0] | (simp only [i64_w, i32_w]; rw [c23b0]) | skip)
         by_cases c24 : t596 = 0
         ·rw [if_pos c24] at H
          have c24b0 : (t596 == 0) = true := beq_iff_eq.mpr c24
          have c24b1 : (t596 != 0) = false := bne_eq_false_iff_eq.mpr c24
          clear c24
          by_cases c25 : (t591.length : Int) = (l0.length : Int)
          ·rw [if_pos c25] at H
           have c25b0 : ((t591.length : Int) == (l0.length : Int)) = true := beq_iff_eq.mpr c25
           have c25b1 : ((t591.length : Int) != (l0.length : Int)) = false := bne_eq_false_iff_eq.mpr c25
           have c25b2 : (t591.length == l0.length) = true := by first | simpa using c25 | (simp at c25 ⊢; omega)
           clear c25
           by_cases c26 : (t595.length : Int) = (l0.length : Int)
           ·rw [if_pos c26] at H
            have c26b0 : ((t595.length : Int) == (l0.length : Int)) = true := beq_iff_eq.mpr c26
            have c26b1 : ((t595.length : Int) != (l0.length : Int)) = false := bne_eq_false_iff_eq.mpr c26
            have c26b2 : (t595.length == l0.length) = true := by first | simpa using c26 | (simp at c26 ⊢; omega)
            clear c26
            by_cases c27 : 0 < (t595.length : Int)
            ·rw [if_pos c27] at H
             have c27b0 : decide (0 < (t595.length : Int)) = true := decide_eq_true c27
             have c27b1 : decide (0 < t595.length) = true := decide_eq_true (by omega)
             clear c27
             replace H := Option.bind_eq_some_iff.mp H
             obtain ⟨⟨t605, t606⟩, A280, H⟩ := H
             replace H : (schismalaw13_SizeIntervals.j2 kj15 l0 l1 t591 t595 t599 t600 (!((((rd_T30 t595 0).f0).toList) == t605.toList) || (!((((rd_T30 t595 0).f1).toList) == t606.toList)))) = some r := H
             have A28 := Aside0.mk A280
             clear A280
             have H' := Aside0.mk H
             clear H
             try go_wp2
             replace HO_5 := Aside0.mk (Kd.R_drew HO_5.out)
             replace HO_7 := Aside0.mk (Kd.R_drew HO_7.out)
             replace HO_9 := Aside0.mk (Kd.R_drew HO_9.out)
             replace HB := Aside0.mk (below_drew1 HB.out)
             obtain ⟨Ao30, co30, eo30⟩ := Kd.R_slice HO_5.out
             (first | subst eo30 | (injection eo30 with f1_ f2_ f3_; have f4_ := f1_.symm; have f5_ := f3_.symm; clear f1_ f2_ f3_; subst f4_; subst f5_))
             obtain ⟨Ao31, co31, eo31⟩ := Kd.R_slice HO_7.out
             (first | subst eo31 | (injection eo31 with f1_ f2_ f3_; have f4_ := f1_.symm; have f5_ := f3_.symm; clear f1_ f2_ f3_; subst f4_; subst f5_))
             have p604 : 0 ≤ (0 : Int) := (by omega)
             have q604 : 0 < (t595.length : Int) := of_decide_eq_true (by first | (with_reducible assumption) | assumption)
             (try (obtain ⟨Aq_, cq_, eq_⟩ := Kd.R_slice HO_7.out; subst eq_))
             obtain ⟨ad604, e604, hx604_0, hx604_1⟩ := at_T30 (Kd.R_reads' HO_7.out).2.2 0 p604 q604
             cases e604
             have qi604 : (0 < t595.length) = True := eq_true (by omega)
             (try rw [show ((0 : Int)).toNat = 0 from rfl] at hx604_0)
             (try rw [show 0 * 2 = 0 from rfl] at hx604_0)
             (try rw [Addr.add_zero'] at hx604_0)
             (try rw [show ((0 : Int)).toNat = 0 from rfl] at hx604_1)
             (try rw [show 0 * 2 = 0 from rfl] at hx604_1)
             (try rw [Addr.add_zero'] at hx604_1)
             replace p604 := eq_true p604
             replace q604 := eq_true q604
             refine start_ (n := 27) (S := fun w' => w'.cell? ad604 = some (.string ((rd_T30 t595 0).f0)) ∧ w'.cell? ⟨ad604.block, ad604.off + 1, none⟩ = some (.string ((rd_T30 t595 0).f1))) (ds := []) #[false, false, false, false, false, false, false, false, false, false, false, false, false, false, false, false, false, false, false, false, false, false, false, false, false, false, false] (by kernel_rfl) rfl rfl ⟨hx604_0, hx604_1⟩ (fun hHeld => ?_); refine with_tabW schismalaw13_SizeIntervals.tab9 schismalaw13_SizeIntervals.bits9 (fun HT_ HW_ => ?_)
             generalize wc.drew = w29 at HO_5 HO_7 HO_9 HB hx604_0 hx604_1 hHeld ⊢
             refine purM (i := 0) (N := some 72) #[true, false, false, false, false, false, false, false, false, false, false, false, false, false, false, false, false, false, false, false, false, false, false, false, false, false, false] ?_
             refine purM (i := 1) (N := some 73) #[true, true, false, false, false, false, false, false, false, false, false, false, false, false, false, false, false, false, false, false, false, false, false, false, false, false, false] ?_
             refine purM (i := 2) (N := some 74) #[true, true, true, false, false, false, false, false, false, false, false, false, false, false, false, false, false, false, false, false, false, false, false, false, false, false, false] ?_
             refine purM (i := 3) (N := some 75) #[true, true, true, true, false, false, false, false, false, false, false, false, false, false, false, false, false, false, false, false, false, false, false, false, false, false, false] ?_
             refine purM (i := 4) (N := some 76) #[true, true, true, true, true, false, false, false, false, false, false, false, false, false, false, false, false, false, false, false, false, false, false, false, false, false, false] ?_
             refine purM (i := 5) (N := some 77) #[true, true, true, true, true, true, false, false, false, false, false, false, false, false, false, false, false, false, false, false, false, false, false, false, false, false, false] ?_
             refine purM (i := 6) (N := some 78) #[true, true, true, true, true, true, true, false, false, false, false, false, false, false, false, false, false, false, false, false, false, false, false, false, false, false, false] ?_
             refine purM (i := 7) (N := some 79) #[true, true, true, true, true, true, true, true, false, false, false, false, false, false, false, false, false, false, false, false, false, false, false, false, false, false, false] ?_
             refine purM (i := 8) (N := some 80) #[true, true, true, true, true, true, true, true, true, false, false, false, false, false, false, false, false, false, false, false, false, false, false, false, false, false, false] ?_
             refine purM (i := 9) (N := some 81) #[true, true, true, true, true, true, true, true, true, true, false, false, false, false, false, false, false, false, false, false, false, false, false, false, false, false, false] ?_
             refine purM (i := 10) (N := some 82) #[true, true, true, true, true, true, true, true, true, true, true, false, false, false, false, false, false, false, false, false, false, false, false, false, false, false, false] ?_
             refine purM (i := 11) (N := some 83) #[true, true, true, true, true, true, true, true, true, true, true, true, false, false, false, false, false, false, false, false, false, false, false, false, false, false, false] ?_
             refine purM (i := 12) (N := some 84) #[true, true, true, true, true, true, true, true, true, true, true, true, true, false, false, false, false, false, false, false, false, false, false, false, false, false, false] ?_
             refine purM (i := 13) (N := some 85) #[true, true, true, true, true, true, true, true, true, true, true, true, true, true, false, false, false, false, false, false, false, false, false, false, false, false, false] ?_
             refine purM (i := 14) (N := some 86) #[true, true, true, true, true, true, true, true, true, true, true, true, true, true, true, false, false, false, false, false, false, false, false, false, false, false, false] ?_
             refine purM (i := 15) (N := some 87) #[true, true, true, true, true, true, true, true, true, true, true, true, true, true, true, true, false, false, false, false, false, false, false, false, false, false, false] ?_
             refine purM (i := 16) (N := some 88) #[true, true, true, true, true, true, true, true, true, true, true, true, true, true, true, true, true, false, false, false, false, false, false, false, false, false, false] ?_
             refine purM (i := 17) (N := some 89) #[true, true, true, true, true, true, true, true, true, true, true, true, true, true, true, true, true, true, false, false, false, false, false, false, false, false, false] ?_
             refine purM (i := 18) (N := some 90) #[true, true, true, true, true, true, true, true, true, true, true, true, true, true, true, true, true, true, true, false, false, false, false, false, false, false, false] ?_
             refine purM (i := 19) (N := some 91) #[true, true, true, true, true, true, true, true, true, true, true, true, true, true, true, true, true, true, true, true, false, false, false, false, false, false, false] ?_
             refine purM (i := 20) (N := some 92) #[true, true, true, true, true, true, true, true, true, true, true, true, true, true, true, true, true, true, true, true, true, false, false, false, false, false, false] ?_
             refine purM (i := 21) (N := some 93) #[true, true, true, true, true, true, true, true, true, true, true, true, true, true, true, true, true, true, true, true, true, true, false, false, false, false, false] ?_
             refine purM (i := 22) (N := some 94) #[true, true, true, true, true, true, true, true, true, true, true, true, true, true, true, true, true, true, true, true, true, true, true, false, false, false, false] ?_
             refine take_ (i := 23) (N := some 95) (v := ?_) (a' := ?_) #[true, true, true, true, true, true, true, true, true, true, true, true, true, true, true, true, true, true, true, true, true, true, true, true, false, false, false] rfl rfl (take_ofW HT_.out HW_.out (by kernel_rfl)) (fun _ _ _ h => h) (Or.inl ⟨by rfl, ?_⟩) hHeld ?_ ?_
             rotate_left
             ·rintro w' ⟨s0, s1⟩
              go_simp
              with_reducible rfl
             rotate_left
             ·simp only [Act.put, List.setIfInBounds_toArray, List.set_cons_zero, List.set_cons_succ, i64_w, i32_w]
              rfl
             refine one_ (i := 24) (N := some 96) #[true, true, true, true, true, true, true, true, true, true, true, true, true, true, true, true, true, true, true, true, true, true, true, true, true, false, false] rfl rfl (one_of HT_.out (by kernel_rfl)) (by decide) (fun K hK => ?_)
             refine goesR Tryz.func18 #[.int .i64 1, .int .i64 1] ?_
             with_reducible refine (schismalaw13_part.calls kj15 1 1 t605 t606 _ ?side1 A28.out).mono ?_
             (case side1 => exact Glob.below HG0.out (bl HB))
             rintro e w32 ⟨rfl, hb⟩
             have HS0_ := (hb.cell (World.block_lt_of_cell? _ _ (hHeld.1))).trans (hHeld.1)
             have HS1_ := (hb.cell (World.block_lt_of_cell? _ _ (hHeld.2))).trans (hHeld.2)
             refine ⟨_, rfl, ?_⟩
             replace HO_5 := Aside0.mk (Kd.R_below (kr HO_5) hb)
             replace HO_7 := Aside0.mk (Kd.R_below (kr HO_7) hb)
             replace HO_9 := Aside0.mk (Kd.R_below (kr HO_9) hb)
             replace HB := Aside0.mk (below_step (bl HB) hb)
             (try clear hb)
             (try clear hb2)
             (try clear hk)
             (try clear hi)
             refine hK.out _ _ ⟨HS0_, HS1_⟩ (fun hHeld => ?_)
             clear hK K
             refine norm_ (a' := ?_) ?_ ?_
             rotate_left
             ·show Act.put _ (some 96) _ = _
              simp only [Act.put, List.setIfInBounds_toArray, List.set_cons_zero, List.set_cons_succ, i64_w, i32_w]
              rfl
             refine purM (i := 25) (N := some 97) #[true, true, true, true, true, true, true, true, true, true, true, true, true, true, true, true, true, true, true, true, true, true, true, true, true, true, false] ?_
             refine purM (i := 26) (N := some 98) #[true, true, true, true, true, true, true, true, true, true, true, true, true, true, true, true, true, true, true, true, true, true, true, true, true, true, true] ?_
             refine done_ (done_of HT_.out (by kernel_rfl)) ?_
             try go_wp2
             go_meet
             case rel => exact ⟨_, ((!((((rd_T30 t595 0).f0).toList) == t605.toList) || (!((((rd_T30 t595 0).f1).toList) == t606.toList)))), rs, H', ⟨by have := HJ2.out; have := HJ15.out; first | omega | exact Nat.le_refl _⟩, ⟨kr HO_5⟩, ⟨kr HO_7⟩, ⟨kr HO_9⟩, ⟨bl HB⟩⟩
            ·rw [if_neg c27] at H
             exact absurd H (by simp)
           ·rw [if_neg c26] at H
            have c26b0 : ((t595.length : Int) == (l0.length : Int)) = false := beq_eq_false_iff_ne.mpr c26
            have c26b1 : ((t595.length : Int) != (l0.length : Int)) = true := bne_iff_ne.mpr c26
            have c26b2 : (t595.length == l0.length) = false := by first | simpa using c26 | (simp at c26 ⊢; omega)
            have H' := Aside0.mk H
            clear H
            try go_wp2
            replace HO_5 := Aside0.mk (Kd.R_drew HO_5.out)
            replace HO_7 := Aside0.mk (Kd.R_drew HO_7.out)
            replace HO_9 := Aside0.mk (Kd.R_drew HO_9.out)
            replace HB := Aside0.mk (below_drew1 HB.out)
            obtain ⟨Ao34, co34, eo34⟩ := Kd.R_slice HO_5.out
            (first | subst eo34 | (injection eo34 with f1_ f2_ f3_; have f4_ := f1_.symm; have f5_ := f3_.symm; clear f1_ f2_ f3_; subst f4_; subst f5_))
            obtain ⟨Ao35, co35, eo35⟩ := Kd.R_slice HO_7.out
            (first | subst eo35 | (injection eo35 with f1_ f2_ f3_; have f4_ := f1_.symm; have f5_ := f3_.symm; clear f1_ f2_ f3_; subst f4_; subst f5_))
            refine start_ (n := 27) (S := fun w' => True) (ds := []) #[false, false, false, false, false, false, false, false, false, false, false, false, false, false, false, false, false, false, false, false, false, false, false, false, false, false, false] (by kernel_rfl) rfl rfl trivial (fun hHeld => ?_); refine with_tabW schismalaw13_SizeIntervals.tab9 schismalaw13_SizeIntervals.bits9 (fun HT_ HW_ => ?_)
            generalize wc.drew = w33 at HO_5 HO_7 HO_9 HB hHeld ⊢
            refine purM (i := 0) (N := some 72) #[true, false, false, false, false, false, false, false, false, false, false, false, false, false, false, false, false, false, false, false, false, false, false, false, false, false, false] ?_
            refine purM (i := 1) (N := some 73) #[true, true, false, false, false, false, false, false, false, false, false, false, false, false, false, false, false, false, false, false, false, false, false, false, false, false, false] ?_
            refine purM (i := 2) (N := some 74) #[true, true, true, false, false, false, false, false, false, false, false, false, false, false, false, false, false, false, false, false, false, false, false, false, false, false, false] ?_
            refine purM (i := 3) (N := some 75) #[true, true, true, true, false, false, false, false, false, false, false, false, false, false, false, false, false, false, false, false, false, false, false, false, false, false, false] ?_
            refine purM (i := 4) (N := some 76) #[true, true, true, true, true, false, false, false, false, false, false, false, false, false, false, false, false, false, false, false, false, false, false, false, false, false, false] ?_
            refine purM (i := 5) (N := some 77) #[true, true, true, true, true, true, false, false, false, false, false, false, false, false, false, false, false, false, false, false, false, false, false, false, false, false, false] ?_
            refine purM (i := 6) (N := some 78) #[true, true, true, true, true, true, true, false, false, false, false, false, false, false, false, false, false, false, false, false, false, false, false, false, false, false, false] ?_
            refine purM (i := 7) (N := some 79) #[true, true, true, true, true, true, true, true, false, false, false, false, false, false, false, false, false, false, false, false, false, false, false, false, false, false, false] ?_
            refine purM (i := 8) (N := some 80) #[true, true, true, true, true, true, true, true, true, false, false, false, false, false, false, false, false, false, false, false, false, false, false, false, false, false, false] ?_
            refine purM (i := 9) (N := some 81) #[true, true, true, true, true, true, true, true, true, true, false, false, false, false, false, false, false, false, false, false, false, false, false, false, false, false, false] ?_
            refine purM (i := 10) (N := some 82) #[true, true, true, true, true, true, true, true, true, true, true, false, false, false, false, false, false, false, false, false, false, false, false, false, false, false, false] ?_
            refine purM (i := 11) (N := some 83) #[true, true, true, true, true, true, true, true, true, true, true, true, false, false, false, false, false, false, false, false, false, false, false, false, false, false, false] ?_
            refine purM (i := 12) (N := some 84) #[true, true, true, true, true, true, true, true, true, true, true, true, true, false, false, false, false, false, false, false, false, false, false, false, false, false, false] ?_
            refine purM (i := 13) (N := some 85) #[true, true, true, true, true, true, true, true, true, true, true, true, true, true, false, false, false, false, false, false, false, false, false, false, false, false, false] ?_
            refine purM (i := 14) (N := some 86) #[true, true, true, true, true, true, true, true, true, true, true, true, true, true, true, false, false, false, false, false, false, false, false, false, false, false, false] ?_
            refine purM (i := 15) (N := some 87) #[true, true, true, true, true, true, true, true, true, true, true, true, true, true, true, true, false, false, false, false, false, false, false, false, false, false, false] ?_
            refine purM (i := 16) (N := some 88) #[true, true, true, true, true, true, true, true, true, true, true, true, true, true, true, true, true, false, false, false, false, false, false, false, false, false, false] ?_
            refine purM (i := 17) (N := some 89) #[true, true, true, true, true, true, true, true, true, true, true, true, true, true, true, true, true, true, false, false, false, false, false, false, false, false, false] ?_
            refine purM (i := 18) (N := some 90) #[true, true, true, true, true, true, true, true, true, true, true, true, true, true, true, true, true, true, true, false, false, false, false, false, false, false, false] ?_
            refine purM (i := 19) (N := some 91) #[true, true, true, true, true, true, true, true, true, true, true, true, true, true, true, true, true, true, true, true, false, false, false, false, false, false, false] ?_
            refine purM (i := 20) (N := some 92) #[true, true, true, true, true, true, true, true, true, true, true, true, true, true, true, true, true, true, true, true, true, false, false, false, false, false, false] ?_
            refine pure_ (i := 21) (N := some 93) (v := undef) (a' := ?_) #[true, true, true, true, true, true, true, true, true, true, true, true, true, true, true, true, true, true, true, true, true, true, false, false, false, false, false] rfl rfl (any_of HT_.out (by kernel_rfl)) (fun _ _ _ h => h) (Or.inr ⟨by rfl, rfl⟩) ?_ ?_
            rotate_left
            ·simp only [Act.put, List.setIfInBounds_toArray, List.set_cons_zero, List.set_cons_succ, i64_w, i32_w]
             rfl
            refine pure_ (i := 22) (N := some 94) (v := undef) (a' := ?_) #[true, true, true, true, true, true, true, true, true, true, true, true, true, true, true, true, true, true, true, true, true, true, true, false, false, false, false] rfl rfl (any_of HT_.out (by kernel_rfl)) (fun _ _ _ h => h) (Or.inr ⟨by rfl, rfl⟩) ?_ ?_
            rotate_left
            ·simp only [Act.put, List.setIfInBounds_toArray, List.set_cons_zero, List.set_cons_succ, i64_w, i32_w]
             rfl
            refine pure_ (i := 23) (N := some 95) (v := undef) (a' := ?_) #[true, true, true, true, true, true, true, true, true, true, true, true, true, true, true, true, true, true, true, true, true, true, true, true, false, false, false] rfl rfl (any_of HT_.out (by kernel_rfl)) (fun _ _ _ h => h) (Or.inr ⟨by rfl, rfl⟩) ?_ ?_
            rotate_left
            ·simp only [Act.put, List.setIfInBounds_toArray, List.set_cons_zero, List.set_cons_succ, i64_w, i32_w]
             rfl
            refine pure_ (i := 24) (N := some 96) (v := undef) (a' := ?_) #[true, true, true, true, true, true, true, true, true, true, true, true, true, true, true, true, true, true, true, true, true, true, true, true, true, false, false] rfl rfl (any_of HT_.out (by kernel_rfl)) (fun _ _ _ h => h) (Or.inr ⟨by rfl, rfl⟩) ?_ ?_
            rotate_left
            ·simp only [Act.put, List.setIfInBounds_toArray, List.set_cons_zero, List.set_cons_succ, i64_w, i32_w]
             rfl
            refine pure_ (i := 25) (N := some 97) (v := undef) (a' := ?_) #[true, true, true, true, true, true, true, true, true, true, true, true, true, true, true, true, true, true, true, true, true, true, true, true, true, true, false] rfl rfl (any_of HT_.out (by kernel_rfl)) (fun _ _ _ h => h) (Or.inr ⟨by rfl, rfl⟩) ?_ ?_
            rotate_left
            ·simp only [Act.put, List.setIfInBounds_toArray, List.set_cons_zero, List.set_cons_succ, i64_w, i32_w]
             rfl
            refine purM (i := 26) (N := some 98) #[true, true, true, true, true, true, true, true, true, true, true, true, true, true, true, true, true, true, true, true, true, true, true, true, true, true, true] ?_
            refine done_ (done_of HT_.out (by kernel_rfl)) ?_
            try go_wp2
            go_meet
            case rel => exact ⟨_, (true), rs, H', ⟨by have := HJ2.out; have := HJ15.out; first | omega | exact Nat.le_refl _⟩, ⟨kr HO_5⟩, ⟨kr HO_7⟩, ⟨kr HO_9⟩, ⟨bl HB⟩⟩
          ·rw [if_neg c25] at H
           have c25b0 : ((t591.length : Int) == (l0.length : Int)) = false := beq_eq_false_iff_ne.mpr c25
           have c25b1 : ((t591.length : Int) != (l0.length : Int)) = true := bne_iff_ne.mpr c25
           have c25b2 : (t591.length == l0.length) = false := by first | simpa using c25 | (simp at c25 ⊢; omega)
           have H' := Aside0.mk H
           clear H
           try go_wp2
           replace HO_5 := Aside0.mk (Kd.R_drew HO_5.out)
           replace HO_7 := Aside0.mk (Kd.R_drew HO_7.out)
           replace HO_9 := Aside0.mk (Kd.R_drew HO_9.out)
           replace HB := Aside0.mk (below_drew1 HB.out)
           obtain ⟨Ao37, co37, eo37⟩ := Kd.R_slice HO_5.out
           (first | subst eo37 | (injection eo37 with f1_ f2_ f3_; have f4_ := f1_.symm; have f5_ := f3_.symm; clear f1_ f2_ f3_; subst f4_; subst f5_))
           refine start_ (n := 27) (S := fun w' => True) (ds := []) #[false, false, false, false, false, false, false, false, false, false, false, false, false, false, false, false, false, false, false, false, false, false, false, false, false, false, false] (by kernel_rfl) rfl rfl trivial (fun hHeld => ?_); refine with_tabW schismalaw13_SizeIntervals.tab9 schismalaw13_SizeIntervals.bits9 (fun HT_ HW_ => ?_)
           generalize wc.drew = w36 at HO_5 HO_7 HO_9 HB hHeld ⊢
           refine purM (i := 0) (N := some 72) #[true, false, false, false, false, false, false, false, false, false, false, false, false, false, false, false, false, false, false, false, false, false, false, false, false, false, false] ?_
           refine purM (i := 1) (N := some 73) #[true, true, false, false, false, false, false, false, false, false, false, false, false, false, false, false, false, false, false, false, false, false, false, false, false, false, false] ?_
           refine purM (i := 2) (N := some 74) #[true, true, true, false, false, false, false, false, false, false, false, false, false, false, false, false, false, false, false, false, false, false, false, false, false, false, false] ?_
           refine purM (i := 3) (N := some 75) #[true, true, true, true, false, false, false, false, false, false, false, false, false, false, false, false, false, false, false, false, false, false, false, false, false, false, false] ?_
           refine purM (i := 4) (N := some 76) #[true, true, true, true, true, false, false, false, false, false, false, false, false, false, false, false, false, false, false, false, false, false, false, false, false, false, false] ?_
           refine purM (i := 5) (N := some 77) #[true, true, true, true, true, true, false, false, false, false, false, false, false, false, false, false, false, false, false, false, false, false, false, false, false, false, false] ?_
           refine purM (i := 6) (N := some 78) #[true, true, true, true, true, true, true, false, false, false, false, false, false, false, false, false, false, false, false, false, false, false, false, false, false, false, false] ?_
           refine purM (i := 7) (N := some 79) #[true, true, true, true, true, true, true, true, false, false, false, false, false, false, false, false, false, false, false, false, false, false, false, false, false, false, false] ?_
           refine purM (i := 8) (N := some 80) #[true, true, true, true, true, true, true, true, true, false, false, false, false, false, false, false, false, false, false, false, false, false, false, false, false, false, false] ?_
           refine purM (i := 9) (N := some 81) #[true, true, true, true, true, true, true, true, true, true, false, false, false, false, false, false, false, false, false, false, false, false, false, false, false, false, false] ?_
           refine purM (i := 10) (N := some 82) #[true, true, true, true, true, true, true, true, true, true, true, false, false, false, false, false, false, false, false, false, false, false, false, false, false, false, false] ?_
           refine purM (i := 11) (N := some 83) #[true, true, true, true, true, true, true, true, true, true, true, true, false, false, false, false, false, false, false, false, false, false, false, false, false, false, false] ?_
           refine purM (i := 12) (N := some 84) #[true, true, true, true, true, true, true, true, true, true, true, true, true, false, false, false, false, false, false, false, false, false, false, false, false, false, false] ?_
           refine purM (i := 13) (N := some 85) #[true, true, true, true, true, true, true, true, true, true, true, true, true, true, false, false, false, false, false, false, false, false, false, false, false, false, false] ?_
           refine pure_ (i := 14) (N := some 86) (v := undef) (a' := ?_) #[true, true, true, true, true, true, true, true, true, true, true, true, true, true, true, false, false, false, false, false, false, false, false, false, false, false, false] rfl rfl (any_of HT_.out (by kernel_rfl)) (fun _ _ _ h => h) (Or.inr ⟨by rfl, rfl⟩) ?_ ?_
           rotate_left
           ·simp only [Act.put, List.setIfInBounds_toArray, List.set_cons_zero, List.set_cons_succ, i64_w, i32_w]
            rfl
           refine pure_ (i := 15) (N := some 87) (v := undef) (a' := ?_) #[true, true, true, true, true, true, true, true, true, true, true, true, true, true, true, true, false, false, false, false, false, false, false, false, false, false, false] rfl rfl (any_of HT_.out (by kernel_rfl)) (fun _ _ _ h => h) (Or.inr ⟨by rfl, rfl⟩) ?_ ?_
           rotate_left
           ·simp only [Act.put, List.setIfInBounds_toArray, List.set_cons_zero, List.set_cons_succ, i64_w, i32_w]
            rfl
           refine pure_ (i := 16) (N := some 88) (v := undef) (a' := ?_) #[true, true, true, true, true, true, true, true, true, true, true, true, true, true, true, true, true, false, false, false, false, false, false, false, false, false, false] rfl rfl (any_of HT_.out (by kernel_rfl)) (fun _ _ _ h => h) (Or.inr ⟨by rfl, rfl⟩) ?_ ?_
           rotate_left
           ·simp only [Act.put, List.setIfInBounds_toArray, List.set_cons_zero, List.set_cons_succ, i64_w, i32_w]
            rfl
           refine pure_ (i := 17) (N := some 89) (v := undef) (a' := ?_) #[true, true, true, true, true, true, true, true, true, true, true, true, true, true, true, true, true, true, false, false, false, false, false, false, false, false, false] rfl rfl (any_of HT_.out (by kernel_rfl)) (fun _ _ _ h => h) (Or.inr ⟨by rfl, rfl⟩) ?_ ?_
           rotate_left
           ·simp only [Act.put, List.setIfInBounds_toArray, List.set_cons_zero, List.set_cons_succ, i64_w, i32_w]
            rfl
           refine pure_ (i := 18) (N := some 90) (v := undef) (a' := ?_) #[true, true, true, true, true, true, true, true, true, true, true, true, true, true, true, true, true, true, true, false, false, false, false, false, false, false, false] rfl rfl (any_of HT_.out (by kernel_rfl)) (fun _ _ _ h => h) (Or.inr ⟨by rfl, rfl⟩) ?_ ?_
           rotate_left
           ·simp only [Act.put, List.setIfInBounds_toArray, List.set_cons_zero, List.set_cons_succ, i64_w, i32_w]
            rfl
           refine purM (i := 19) (N := some 91) #[true, true, true, true, true, true, true, true, true, true, true, true, true, true, true, true, true, true, true, true, false, false, false, false, false, false, false] ?_
           refine purM (i := 20) (N := some 92) #[true, true, true, true, true, true, true, true, true, true, true, true, true, true, true, true, true, true, true, true, true, false, false, false, false, false, false] ?_
           refine pure_ (i := 21) (N := some 93) (v := undef) (a' := ?_) #[true, true, true, true, true, true, true, true, true, true, true, true, true, true, true, true, true, true, true, true, true, true, false, false, false, false, false] rfl rfl (any_of HT_.out (by kernel_rfl)) (fun _ _ _ h => h) (Or.inr ⟨by rfl, rfl⟩) ?_ ?_
           rotate_left
           ·simp only [Act.put, List.setIfInBounds_toArray, List.set_cons_zero, List.set_cons_succ, i64_w, i32_w]
            rfl
           refine pure_ (i := 22) (N := some 94) (v := undef) (a' := ?_) #[true, true, true, true, true, true, true, true, true, true, true, true, true, true, true, true, true, true, true, true, true, true, true, false, false, false, false] rfl rfl (any_of HT_.out (by kernel_rfl)) (fun _ _ _ h => h) (Or.inr ⟨by rfl, rfl⟩) ?_ ?_
           rotate_left
           ·simp only [Act.put, List.setIfInBounds_toArray, List.set_cons_zero, List.set_cons_succ, i64_w, i32_w]
            rfl
           refine pure_ (i := 23) (N := some 95) (v := undef) (a' := ?_) #[true, true, true, true, true, true, true, true, true, true, true, true, true, true, true, true, true, true, true, true, true, true, true, true, false, false, false] rfl rfl (any_of HT_.out (by kernel_rfl)) (fun _ _ _ h => h) (Or.inr ⟨by rfl, rfl⟩) ?_ ?_
           rotate_left
           ·simp only [Act.put, List.setIfInBounds_toArray, List.set_cons_zero, List.set_cons_succ, i64_w, i32_w]
            rfl
           refine pure_ (i := 24) (N := some 96) (v := undef) (a' := ?_) #[true, true, true, true, true, true, true, true, true, true, true, true, true, true, true, true, true, true, true, true, true, true, true, true, true, false, false] rfl rfl (any_of HT_.out (by kernel_rfl)) (fun _ _ _ h => h) (Or.inr ⟨by rfl, rfl⟩) ?_ ?_
           rotate_left
           ·simp only [Act.put, List.setIfInBounds_toArray, List.set_cons_zero, List.set_cons_succ, i64_w, i32_w]
            rfl
           refine pure_ (i := 25) (N := some 97) (v := undef) (a' := ?_) #[true, true, true, true, true, true, true, true, true, true, true, true, true, true, true, true, true, true, true, true, true, true, true, true, true, true, false] rfl rfl (any_of HT_.out (by kernel_rfl)) (fun _ _ _ h => h) (Or.inr ⟨by rfl, rfl⟩) ?_ ?_
           rotate_left
           ·simp only [Act.put, List.setIfInBounds_toArray, List.set_cons_zero, List.set_cons_succ, i64_w, i32_w]
            rfl
           refine purM (i := 26) (N := some 98) #[true, true, true, true, true, true, true, true, true, true, true, true, true, true, true, true, true, true, true, true, true, true, true, true, true, true, true] ?_
           refine done_ (done_of HT_.out (by kernel_rfl)) ?_
           try go_wp2
           go_meet
           case rel => exact ⟨_, (true), rs, H', ⟨by have := HJ2.out; have := HJ15.out; first | omega | exact Nat.le_refl _⟩, ⟨kr HO_5⟩, ⟨kr HO_7⟩, ⟨kr HO_9⟩, ⟨bl HB⟩⟩
         ·rw [if_neg c24] at H
          have c24b0 : (t596 == 0) = false := beq_eq_false_iff_ne.mpr c24
          have c24b1 : (t596 != 0) = true := bne_iff_ne.mpr c24
          have H' := Aside0.mk H
          clear H
          try go_wp2
          replace HO_5 := Aside0.mk (Kd.R_drew HO_5.out)
          replace HO_7 := Aside0.mk (Kd.R_drew HO_7.out)
          replace HO_9 := Aside0.mk (Kd.R_drew HO_9.out)
          replace HB := Aside0.mk (below_drew1 HB.out)
          refine start_ (n := 27) (S := fun w' => True) (ds := []) #[false, false, false, false, false, false, false, false, false, false, false, false, false, false, false, false, false, false, false, false, false, false, false, false, false, false, false] (by kernel_rfl) rfl rfl trivial (fun hHeld => ?_); refine with_tabW schismalaw13_SizeIntervals.tab9 schismalaw13_SizeIntervals.bits9 (fun HT_ HW_ => ?_)
          generalize wc.drew = w38 at HO_5 HO_7 HO_9 HB hHeld ⊢
          refine purM (i := 0) (N := some 72) #[true, false, false, false, false, false, false, false, false, false, false, false, false, false, false, false, false, false, false, false, false, false, false, false, false, false, false] ?_
          refine purM (i := 1) (N := some 73) #[true, true, false, false, false, false, false, false, false, false, false, false, false, false, false, false, false, false, false, false, false, false, false, false, false, false, false] ?_
          refine purM (i := 2) (N := some 74) #[true, true, true, false, false, false, false, false, false, false, false, false, false, false, false, false, false, false, false, false, false, false, false, false, false, false, false] ?_
          refine purM (i := 3) (N := some 75) #[true, true, true, true, false, false, false, false, false, false, false, false, false, false, false, false, false, false, false, false, false, false, false, false, false, false, false] ?_
          refine purM (i := 4) (N := some 76) #[true, true, true, true, true, false, false, false, false, false, false, false, false, false, false, false, false, false, false, false, false, false, false, false, false, false, false] ?_
          refine purM (i := 5) (N := some 77) #[true, true, true, true, true, true, false, false, false, false, false, false, false, false, false, false, false, false, false, false, false, false, false, false, false, false, false] ?_
          refine purM (i := 6) (N := some 78) #[true, true, true, true, true, true, true, false, false, false, false, false, false, false, false, false, false, false, false, false, false, false, false, false, false, false, false] ?_
          refine pure_ (i := 7) (N := some 79) (v := undef) (a' := ?_) #[true, true, true, true, true, true, true, true, false, false, false, false, false, false, false, false, false, false, false, false, false, false, false, false, false, false, false] rfl rfl (any_of HT_.out (by kernel_rfl)) (fun _ _ _ h => h) (Or.inr ⟨by rfl, rfl⟩) ?_ ?_
          rotate_left
          ·simp only [Act.put, List.setIfInBounds_toArray, List.set_cons_zero, List.set_cons_succ, i64_w, i32_w]
           rfl
          refine pure_ (i := 8) (N := some 80) (v := undef) (a' := ?_) #[true, true, true, true, true, true, true, true, true, false, false, false, false, false, false, false, false, false, false, false, false, false, false, false, false, false, false] rfl rfl (any_of HT_.out (by kernel_rfl)) (fun _ _ _ h => h) (Or.inr ⟨by rfl, rfl⟩) ?_ ?_
          rotate_left
          ·simp only [Act.put, List.setIfInBounds_toArray, List.set_cons_zero, List.set_cons_succ, i64_w, i32_w]
           rfl
          refine pure_ (i := 9) (N := some 81) (v := undef) (a' := ?_) #[true, true, true, true, true, true, true, true, true, true, false, false, false, false, false, false, false, false, false, false, false, false, false, false, false, false, false] rfl rfl (any_of HT_.out (by kernel_rfl)) (fun _ _ _ h => h) (Or.inr ⟨by rfl, rfl⟩) ?_ ?_
          rotate_left
          ·simp only [Act.put, List.setIfInBounds_toArray, List.set_cons_zero, List.set_cons_succ, i64_w, i32_w]
           rfl
          refine pure_ (i := 10) (N := some 82) (v := undef) (a' := ?_) #[true, true, true, true, true, true, true, true, true, true, true, false, false, false, false, false, false, false, false, false, false, false, false, false, false, false, false] rfl rfl (any_of HT_.out (by kernel_rfl)) (fun _ _ _ h => h) (Or.inr ⟨by rfl, rfl⟩) ?_ ?_
          rotate_left
          ·simp only [Act.put, List.setIfInBounds_toArray, List.set_cons_zero, List.set_cons_succ, i64_w, i32_w]
           rfl
          refine pure_ (i := 11) (N := some 83) (v := undef) (a' := ?_) #[true, true, true, true, true, true, true, true, true, true, true, true, false, false, false, false, false, false, false, false, false, false, false, false, false, false, false] rfl rfl (any_of HT_.out (by kernel_rfl)) (fun _ _ _ h => h) (Or.inr ⟨by rfl, rfl⟩) ?_ ?_
          rotate_left
          ·simp only [Act.put, List.setIfInBounds_toArray, List.set_cons_zero, List.set_cons_succ, i64_w, i32_w]
           rfl
          refine purM (i := 12) (N := some 84) #[true, true, true, true, true, true, true, true, true, true, true, true, true, false, false, false, false, false, false, false, false, false, false, false, false, false, false] ?_
          refine purM (i := 13) (N := some 85) #[true, true, true, true, true, true, true, true, true, true, true, true, true, true, false, false, false, false, false, false, false, false, false, false, false, false, false] ?_
          refine pure_ (i := 14) (N := some 86) (v := undef) (a' := ?_) #[true, true, true, true, true, true, true, true, true, true, true, true, true, true, true, false, false, false, false, false, false, false, false, false, false, false, false] rfl rfl (any_of HT_.out (by kernel_rfl)) (fun _ _ _ h => h) (Or.inr ⟨by rfl, rfl⟩) ?_ ?_
          rotate_left
          ·simp only [Act.put, List.setIfInBounds_toArray, List.set_cons_zero, List.set_cons_succ, i64_w, i32_w]
           rfl
          refine pure_ (i := 15) (N := some 87) (v := undef) (a' := ?_) #[true, true, true, true, true, true, true, true, true, true, true, true, true, true, true, true, false, false, false, false, false, false, false, false, false, false, false] rfl rfl (any_of HT_.out (by kernel_rfl)) (fun _ _ _ h => h) (Or.inr ⟨by rfl, rfl⟩) ?_ ?_
          rotate_left
          ·simp only [Act.put, List.setIfInBounds_toArray, List.set_cons_zero, List.set_cons_succ, i64_w, i32_w]
           rfl
          refine pure_ (i := 16) (N := some 88) (v := undef) (a' := ?_) #[true, true, true, true, true, true, true, true, true, true, true, true, true, true, true, true, true, false, false, false, false, false, false, false, false, false, false] rfl rfl (any_of HT_.out (by kernel_rfl)) (fun _ _ _ h => h) (Or.inr ⟨by rfl, rfl⟩) ?_ ?_
          rotate_left
          ·simp only [Act.put, List.setIfInBounds_toArray, List.set_cons_zero, List.set_cons_succ, i64_w, i32_w]
           rfl
          refine pure_ (i := 17) (N := some 89) (v := undef) (a' := ?_) #[true, true, true, true, true, true, true, true, true, true, true, true, true, true, true, true, true, true, false, false, false, false, false, false, false, false, false] rfl rfl (any_of HT_.out (by kernel_rfl)) (fun _ _ _ h => h) (Or.inr ⟨by rfl, rfl⟩) ?_ ?_
          rotate_left
          ·simp only [Act.put, List.setIfInBounds_toArray, List.set_cons_zero, List.set_cons_succ, i64_w, i32_w]
           rfl
          refine pure_ (i := 18) (N := some 90) (v := undef) (a' := ?_) #[true, true, true, true, true, true, true, true, true, true, true, true, true, true, true, true, true, true, true, false, false, false, false, false, false, false, false] rfl rfl (any_of HT_.out (by kernel_rfl)) (fun _ _ _ h => h) (Or.inr ⟨by rfl, rfl⟩) ?_ ?_
          rotate_left
          ·simp only [Act.put, List.setIfInBounds_toArray, List.set_cons_zero, List.set_cons_succ, i64_w, i32_w]
           rfl
          refine purM (i := 19) (N := some 91) #[true, true, true, true, true, true, true, true, true, true, true, true, true, true, true, true, true, true, true, true, false, false, false, false, false, false, false] ?_
          refine purM (i := 20) (N := some 92) #[true, true, true, true, true, true, true, true, true, true, true, true, true, true, true, true, true, true, true, true, true, false, false, false, false, false, false] ?_
          refine pure_ (i := 21) (N := some 93) (v := undef) (a' := ?_) #[true, true, true, true, true, true, true, true, true, true, true, true, true, true, true, true, true, true, true, true, true, true, false, false, false, false, false] rfl rfl (any_of HT_.out (by kernel_rfl)) (fun _ _ _ h => h) (Or.inr ⟨by rfl, rfl⟩) ?_ ?_
          rotate_left
          ·simp only [Act.put, List.setIfInBounds_toArray, List.set_cons_zero, List.set_cons_succ, i64_w, i32_w]
           rfl
          refine pure_ (i := 22) (N := some 94) (v := undef) (a' := ?_) #[true, true, true, true, true, true, true, true, true, true, true, true, true, true, true, true, true, true, true, true, true, true, true, false, false, false, false] rfl rfl (any_of HT_.out (by kernel_rfl)) (fun _ _ _ h => h) (Or.inr ⟨by rfl, rfl⟩) ?_ ?_
          rotate_left
          ·simp only [Act.put, List.setIfInBounds_toArray, List.set_cons_zero, List.set_cons_succ, i64_w, i32_w]
           rfl
          refine pure_ (i := 23) (N := some 95) (v := undef) (a' := ?_) #[true, true, true, true, true, true, true, true, true, true, true, true, true, true, true, true, true, true, true, true, true, true, true, true, false, false, false] rfl rfl (any_of HT_.out (by kernel_rfl)) (fun _ _ _ h => h) (Or.inr ⟨by rfl, rfl⟩) ?_ ?_
          rotate_left
          ·simp only [Act.put, List.setIfInBounds_toArray, List.set_cons_zero, List.set_cons_succ, i64_w, i32_w]
           rfl
          refine pure_ (i := 24) (N := some 96) (v := undef) (a' := ?_) #[true, true, true, true, true, true, true, true, true, true, true, true, true, true, true, true, true, true, true, true, true, true, true, true, true, false, false] rfl rfl (any_of HT_.out (by kernel_rfl)) (fun _ _ _ h => h) (Or.inr ⟨by rfl, rfl⟩) ?_ ?_
          rotate_left
          ·simp only [Act.put, List.setIfInBounds_toArray, List.set_cons_zero, List.set_cons_succ, i64_w, i32_w]
           rfl
          refine pure_ (i := 25) (N := some 97) (v := undef) (a' := ?_) #[true, true, true, true, true, true, true, true, true, true, true, true, true, true, true, true, true, true, true, true, true, true, true, true, true, true, false] rfl rfl (any_of HT_.out (by kernel_rfl)) (fun _ _ _ h => h) (Or.inr ⟨by rfl, rfl⟩) ?_ ?_
          rotate_left
          ·simp only [Act.put, List.setIfInBounds_toArray, List.set_cons_zero, List.set_cons_succ, i64_w, i32_w]
           rfl
          refine purM (i := 26) (N := some 98) #[true, true, true, true, true, true, true, true, true, true, true, true, true, true, true, true, true, true, true, true, true, true, true, true, true, true, true] ?_
          refine done_ (done_of HT_.out (by kernel_rfl)) ?_
          try go_wp2
          go_meet
          case rel => exact ⟨_, (true), rs, H', ⟨by have := HJ2.out; have := HJ15.out; first | omega | exact Nat.le_refl _⟩, ⟨kr HO_5⟩, ⟨kr HO_7⟩, ⟨kr HO_9⟩, ⟨bl HB⟩⟩
        ·rw [if_neg c23] at H
         have c23b0 : (t592 == 0) = false := beq_eq_false_iff_ne.mpr c23
         have c23b1 : (t592 != 0) = true := bne_iff_ne.mpr c23
         (first | rw [c23b0] | (simp only [i64_w, i32_w]; rw [c23b0]) | skip)
         have H' := Aside0.mk H
         clear H
         try go_wp2
         replace HO_5 := Aside0.mk (Kd.R_drew HO_5.out)
         replace HO_7 := Aside0.mk (Kd.R_drew HO_7.out)
         replace HO_9 := Aside0.mk (Kd.R_drew HO_9.out)
         replace HB := Aside0.mk (below_drew1 HB.out)
         refine start_ (n := 27) (S := fun w' => True) (ds := []) #[false, false, false, false, false, false, false, false, false, false, false, false, false, false, false, false, false, false, false, false, false, false, false, false, false, false, false] (by kernel_rfl) rfl rfl trivial (fun hHeld => ?_); refine with_tabW schismalaw13_SizeIntervals.tab9 schismalaw13_SizeIntervals.bits9 (fun HT_ HW_ => ?_)
         generalize wc.drew = w39 at HO_5 HO_7 HO_9 HB hHeld ⊢
         refine purM (i := 0) (N := some 72) #[true, false, false, false, false, false, false, false, false, false, false, false, false, false, false, false, false, false, false, false, false, false, false, false, false, false, false] ?_
         refine purM (i := 1) (N := some 73) #[true, true, false, false, false, false, false, false, false, false, false, false, false, false, false, false, false, false, false, false, false, false, false, false, false, false, false] ?_
         refine purM (i := 2) (N := some 74) #[true, true, true, false, false, false, false, false, false, false, false, false, false, false, false, false, false, false, false, false, false, false, false, false, false, false, false] ?_
         refine pure_ (i := 3) (N := some 75) (v := undef) (a' := ?_) #[true, true, true, true, false, false, false, false, false, false, false, false, false, false, false, false, false, false, false, false, false, false, false, false, false, false, false] rfl rfl (any_of HT_.out (by kernel_rfl)) (fun _ _ _ h => h) (Or.inr ⟨by rfl, rfl⟩) ?_ ?_
         rotate_left
         ·simp only [Act.put, List.setIfInBounds_toArray, List.set_cons_zero, List.set_cons_succ, i64_w, i32_w]
          rfl
         refine pure_ (i := 4) (N := some 76) (v := undef) (a' := ?_) #[true, true, true, true, true, false, false, false, false, false, false, false, false, false, false, false, false, false, false, false, false, false, false, false, false, false, false] rfl rfl (any_of HT_.out (by kernel_rfl)) (fun _ _ _ h => h) (Or.inr ⟨by rfl, rfl⟩) ?_ ?_
         rotate_left
         ·simp only [Act.put, List.setIfInBounds_toArray, List.set_cons_zero, List.set_cons_succ, i64_w, i32_w]
          rfl
         refine purM (i := 5) (N := some 77) #[true, true, true, true, true, true, false, false, false, false, false, false, false, false, false, false, false, false, false, false, false, false, false, false, false, false, false] ?_
         refine purM (i := 6) (N := some 78) #[true, true, true, true, true, true, true, false, false, false, false, false, false, false, false, false, false, false, false, false, false, false, false, false, false, false, false] ?_
         refine pure_ (i := 7) (N := some 79) (v := undef) (a' := ?_) #[true, true, true, true, true, true, true, true, false, false, false, false, false, false, false, false, false, false, false, false, false, false, false, false, false, false, false] rfl rfl (any_of HT_.out (by kernel_rfl)) (fun _ _ _ h => h) (Or.inr ⟨by rfl, rfl⟩) ?_ ?_
         rotate_left
         ·simp only [Act.put, List.setIfInBounds_toArray, List.set_cons_zero, List.set_cons_succ, i64_w, i32_w]
          rfl
         refine pure_ (i := 8) (N := some 80) (v := undef) (a' := ?_) #[true, true, true, true, true, true, true, true, true, false, false, false, false, false, false, false, false, false, false, false, false, false, false, false, false, false, false] rfl rfl (any_of HT_.out (by kernel_rfl)) (fun _ _ _ h => h) (Or.inr ⟨by rfl, rfl⟩) ?_ ?_
         rotate_left
         ·simp only [Act.put, List.setIfInBounds_toArray, List.set_cons_zero, List.set_cons_succ, i64_w, i32_w]
          rfl
         refine pure_ (i := 9) (N := some 81) (v := undef) (a' := ?_) #[true, true, true, true, true, true, true, true, true, true, false, false, false, false, false, false, false, false, false, false, false, false, false, false, false, false, false] rfl rfl (any_of HT_.out (by kernel_rfl)) (fun _ _ _ h => h) (Or.inr ⟨by rfl, rfl⟩) ?_ ?_
         rotate_left
         ·simp only [Act.put, List.setIfInBounds_toArray, List.set_cons_zero, List.set_cons_succ, i64_w, i32_w]
          rfl
         refine pure_ (i := 10) (N := some 82) (v := undef) (a' := ?_) #[true, true, true, true, true, true, true, true, true, true, true, false, false, false, false, false, false, false, false, false, false, false, false, false, false, false, false] rfl rfl (any_of HT_.out (by kernel_rfl)) (fun _ _ _ h => h) (Or.inr ⟨by rfl, rfl⟩) ?_ ?_
         rotate_left
         ·simp only [Act.put, List.setIfInBounds_toArray, List.set_cons_zero, List.set_cons_succ, i64_w, i32_w]
          rfl
         refine pure_ (i := 11) (N := some 83) (v := undef) (a' := ?_) #[true, true, true, true, true, true, true, true, true, true, true, true, false, false, false, false, false, false, false, false, false, false, false, false, false, false, false] rfl rfl (any_of HT_.out (by kernel_rfl)) (fun _ _ _ h => h) (Or.inr ⟨by rfl, rfl⟩) ?_ ?_
         rotate_left
         ·simp only [Act.put, List.setIfInBounds_toArray, List.set_cons_zero, List.set_cons_succ, i64_w, i32_w]
          rfl
         refine purM (i := 12) (N := some 84) #[true, true, true, true, true, true, true, true, true, true, true, true, true, false, false, false, false, false, false, false, false, false, false, false, false, false, false] ?_
         refine purM (i := 13) (N := some 85) #[true, true, true, true, true, true, true, true, true, true, true, true, true, true, false, false, false, false, false, false, false, false, false, false, false, false, false] ?_
         refine pure_ (i := 14) (N := some 86) (v := undef) (a' := ?_) #[true, true, true, true, true, true, true, true, true, true, true, true, true, true, true, false, false, false, false, false, false, false, false, false, false, false, false] rfl rfl (any_of HT_.out (by kernel_rfl)) (fun _ _ _ h => h) (Or.inr ⟨by rfl, rfl⟩) ?_ ?_
         rotate_left
         ·simp only [Act.put, List.setIfInBounds_toArray, List.set_cons_zero, List.set_cons_succ, i64_w, i32_w]
          rfl
         refine pure_ (i := 15) (N := some 87) (v := undef) (a' := ?_) #[true, true, true, true, true, true, true, true, true, true, true, true, true, true, true, true, false, false, false, false, false, false, false, false, false, false, false] rfl rfl (any_of HT_.out (by kernel_rfl)) (fun _ _ _ h => h) (Or.inr ⟨by rfl, rfl⟩) ?_ ?_
         rotate_left
         ·simp only [Act.put, List.setIfInBounds_toArray, List.set_cons_zero, List.set_cons_succ, i64_w, i32_w]
          rfl
         refine pure_ (i := 16) (N := some 88) (v := undef) (a' := ?_) #[true, true, true, true, true, true, true, true, true, true, true, true, true, true, true, true, true, false, false, false, false, false, false, false, false, false, false] rfl rfl (any_of HT_.out (by kernel_rfl)) (fun _ _ _ h => h) (Or.inr ⟨by rfl, rfl⟩) ?_ ?_
         rotate_left
         ·simp only [Act.put, List.setIfInBounds_toArray, List.set_cons_zero, List.set_cons_succ, i64_w, i32_w]
          rfl
         refine pure_ (i := 17) (N := some 89) (v := undef) (a' := ?_) #[true, true, true, true, true, true, true, true, true, true, true, true, true, true, true, true, true, true, false, false, false, false, false, false, false, false, false] rfl rfl (any_of HT_.out (by kernel_rfl)) (fun _ _ _ h => h) (Or.inr ⟨by rfl, rfl⟩) ?_ ?_
         rotate_left
         ·simp only [Act.put, List.setIfInBounds_toArray, List.set_cons_zero, List.set_cons_succ, i64_w, i32_w]
          rfl
         refine pure_ (i := 18) (N := some 90) (v := undef) (a' := ?_) #[true, true, true, true, true, true, true, true, true, true, true, true, true, true, true, true, true, true, true, false, false, false, false, false, false, false, false] rfl rfl (any_of HT_.out (by kernel_rfl)) (fun _ _ _ h => h) (Or.inr ⟨by rfl, rfl⟩) ?_ ?_
         rotate_left
         ·simp only [Act.put, List.setIfInBounds_toArray, List.set_cons_zero, List.set_cons_succ, i64_w, i32_w]
          rfl
         refine purM (i := 19) (N := some 91) #[true, true, true, true, true, true, true, true, true, true, true, true, true, true, true, true, true, true, true, true, false, false, false, false, false, false, false] ?_
         refine purM (i := 20) (N := some 92) #[true, true, true, true, true, true, true, true, true, true, true, true, true, true, true, true, true, true, true, true, true, false, false, false, false, false, false] ?_
         refine pure_ (i := 21) (N := some 93) (v := undef) (a' := ?_) #[true, true, true, true, true, true, true, true, true, true, true, true, true, true, true, true, true, true, true, true, true, true, false, false, false, false, false] rfl rfl (any_of HT_.out (by kernel_rfl)) (fun _ _ _ h => h) (Or.inr ⟨by rfl, rfl⟩) ?_ ?_
         rotate_left
         ·simp only [Act.put, List.setIfInBounds_toArray, List.set_cons_zero, List.set_cons_succ, i64_w, i32_w]
          rfl
         refine pure_ (i := 22) (N := some 94) (v := undef) (a' := ?_) #[true, true, true, true, true, true, true, true, true, true, true, true, true, true, true, true, true, true, true, true, true, true, true, false, false, false, false] rfl rfl (any_of HT_.out (by kernel_rfl)) (fun _ _ _ h => h) (Or.inr ⟨by rfl, rfl⟩) ?_ ?_
         rotate_left
         ·simp only [Act.put, List.setIfInBounds_toArray, List.set_cons_zero, List.set_cons_succ, i64_w, i32_w]
          rfl
         refine pure_ (i := 23) (N := some 95) (v := undef) (a' := ?_) #[true, true, true, true, true, true, true, true, true, true, true, true, true, true, true, true, true, true, true, true, true, true, true, true, false, false, false] rfl rfl (any_of HT_.out (by kernel_rfl)) (fun _ _ _ h => h) (Or.inr ⟨by rfl, rfl⟩) ?_ ?_
         rotate_left
         ·simp only [Act.put, List.setIfInBounds_toArray, List.set_cons_zero, List.set_cons_succ, i64_w, i32_w]
          rfl
         refine pure_ (i := 24) (N := some 96) (v := undef) (a' := ?_) #[true, true, true, true, true, true, true, true, true, true, true, true, true, true, true, true, true, true, true, true, true, true, true, true, true, false, false] rfl rfl (any_of HT_.out (by kernel_rfl)) (fun _ _ _ h => h) (Or.inr ⟨by rfl, rfl⟩) ?_ ?_
         rotate_left
         ·simp only [Act.put, List.setIfInBounds_toArray, List.set_cons_zero, List.set_cons_succ, i64_w, i32_w]
          rfl
         refine pure_ (i := 25) (N := some 97) (v := undef) (a' := ?_) #[true, true, true, true, true, true, true, true, true, true, true, true, true, true, true, true, true, true, true, true, true, true, true, true, true, true, false] rfl rfl (any_of HT_.out (by kernel_rfl)) (fun _ _ _ h => h) (Or.inr ⟨by rfl, rfl⟩) ?_ ?_
         rotate_left
         ·simp only [Act.put, List.setIfInBounds_toArray, List.set_cons_zero, List.set_cons_succ, i64_w, i32_w]
          rfl
         refine purM (i := 26) (N := some 98) #[true, true, true, true, true, true, true, true, true, true, true, true, true, true, true, true, true, true, true, true, true, true, true, true, true, true, true] ?_
         refine done_ (done_of HT_.out (by kernel_rfl)) ?_
         try go_wp2
         go_meet
         case rel => exact ⟨_, (true), rs, H', ⟨by have := HJ2.out; have := HJ15.out; first | omega | exact Nat.le_refl _⟩, ⟨kr HO_5⟩, ⟨kr HO_7⟩, ⟨kr HO_9⟩, ⟨bl HB⟩⟩
       case rest =>
        clear HC22
        try clear c2
        try clear p2
        try clear c23
        try clear c23b0
        try clear c23b1
        try clear c24
        try clear c24b0
        try clear c24b1
        try clear c25
        try clear c25b0
        try clear c25b1
        try clear c25b2
        obtain ⟨kq, x98_21, rfl, HA, HJ21, HO_5, HO_7, HO_9, HB⟩ := hcut
        cases kq with
        | zero => exact absurd HA.out (by simp [schismalaw13_SizeIntervals.j2])
        | succ kj21 =>
         have H := HA.out
         clear HA
         simp only [schismalaw13_SizeIntervals.j2] at H
         by_cases c40 : x98_21 = true
         ·subst c40
          have H1 : (some false) = some r := by rw [if_pos rfl] at H; exact H
          clear H
          have H := H1
          clear H1
          obtain rfl := Option.some.inj H
          go_wp2
          go_ret
          exact ⟨rl, bl HB⟩
         ·replace c40 := Bool.eq_false_iff.mpr c40
          subst c40
          have H1 : (schismalaw13_SizeIntervals.l0 kj21 l0 l1 t591 t595 t599 t600 0) = some r := by rw [if_neg (show ¬ (false = true) by decide)] at H; exact H
          clear H
          have H := H1
          clear H1
          have H' := Aside0.mk H
          clear H
          go_wp2
          go_loopg [12] kj21 (fun kq v12 w' => ∃ (x12_4 : Int), v12 = .int .i64 x12_4 ∧ Aside0 (schismalaw13_SizeIntervals.l0 kq l0 l1 t591 t595 t599 t600 x12_4 = some r) ∧ Aside0 (kq ≤ kj21) ∧ Aside0 (Kd.R k30 30 w' w.heap.size (fun k_ => some k_ ≠ (v597 : Value).ownBlock ∧ some k_ ≠ (v601 : Value).ownBlock) v593 t591) ∧ Aside0 (Kd.R k30 30 w' w.heap.size (fun k_ => some k_ ≠ (v593 : Value).ownBlock ∧ some k_ ≠ (v601 : Value).ownBlock) v597 t595) ∧ Aside0 (Kd.R k30 30 w' w.heap.size (fun k_ => some k_ ≠ (v593 : Value).ownBlock ∧ some k_ ≠ (v597 : Value).ownBlock) v601 t599) ∧ Aside0 (Below w.heap.size w w'))
          case atStart => exact ⟨(0), rs, H', ⟨Nat.le_refl _⟩, ⟨kr HO_5⟩, ⟨kr HO_7⟩, ⟨kr HO_9⟩, ⟨bl HB⟩⟩
          case round =>
           clear H'
           try clear c2
           try clear p2
           try clear c4
           try clear c23
           try clear c23b0
           try clear c23b1
           try clear c24
           try clear c24b0
           try clear c24b1
           try clear c25
           try clear c25b0
           try clear c25b1
           try clear c25b2
           try clear c40
           try clear p2
           obtain ⟨x12_4, rfl, HA, HK4, HO_5, HO_7, HO_9, HB⟩ := hrel
           cases gk with
           | zero => exact absurd HA.out (by simp [schismalaw13_SizeIntervals.l0])
           | succ k4 =>
            have H := HA.out
            clear HA
            simp only [schismalaw13_SizeIntervals.l0] at H
            by_cases c41 : x12_4 < (l0.length : Int)
            ·rw [if_pos c41] at H
             have c41b0 : decide (x12_4 < (l0.length : Int)) = true := decide_eq_true c41
             clear c41
             by_cases c42 : 0 ≤ x12_4
             ·rw [if_pos c42] at H
              have c42b0 : decide (0 ≤ x12_4) = true := decide_eq_true c42
              clear c42
              by_cases c43 : x12_4 < (t591.length : Int)
              ·rw [if_pos c43] at H
               have c43b0 : decide (x12_4 < (t591.length : Int)) = true := decide_eq_true c43
               clear c43
               replace H := Option.bind_eq_some_iff.mp H
               obtain ⟨⟨t608, t609⟩, A440, H⟩ := H
               replace H : (if (!((((rd_T30 t591 x12_4).f0).toList) == t608.toList) || (!((((rd_T30 t591 x12_4).f1).toList) == t609.toList))) = true then (some false) else (if x12_4 > 0 then (if x12_4 < (t595.length : Int) then ((schismalaw13_part.f k4 0 1).bind fun bt611 => (if (!((((rd_T30 t595 x12_4).f0).toList) == bt611.1.toList) || (!((((rd_T30 t595 x12_4).f1).toList) == bt611.2.toList))) = true then (some false) else (schismalaw13_SizeIntervals.l0 k4 l0 l1 t591 t595 t599 t600 (wrap64 (x12_4 + 1))))) else (none)) else (schismalaw13_SizeIntervals.l0 k4 l0 l1 t591 t595 t599 t600 (wrap64 (x12_4 + 1))))) = some r := H
               have A44 := Aside0.mk A440
               clear A440
               by_cases c45 : (!((((rd_T30 t591 x12_4).f0).toList) == t608.toList) || (!((((rd_T30 t591 x12_4).f1).toList) == t609.toList))) = true
               ·rw [if_pos c45] at H
                have c45b0 : (!((((rd_T30 t591 x12_4).f0).toList) == t608.toList) || (!((((rd_T30 t591 x12_4).f1).toList) == t609.toList))) = true := c45
                clear c45
                obtain rfl := Option.some.inj H
                try go_wp2
                replace HO_5 := Aside0.mk (Kd.R_drew HO_5.out)
                replace HO_7 := Aside0.mk (Kd.R_drew HO_7.out)
                replace HO_9 := Aside0.mk (Kd.R_drew HO_9.out)
                replace HB := Aside0.mk (below_drew1 HB.out)
                obtain ⟨Ao47, co47, eo47⟩ := Kd.R_slice HO_5.out
                (first | subst eo47 | (injection eo47 with f1_ f2_ f3_; have f4_ := f1_.symm; have f5_ := f3_.symm; clear f1_ f2_ f3_; subst f4_; subst f5_))
                have p607 : 0 ≤ (x12_4 : Int) := of_decide_eq_true (by first | (with_reducible assumption) | assumption)
                have q607 : x12_4 < (t591.length : Int) := of_decide_eq_true (by first | (with_reducible assumption) | assumption)
                (try (obtain ⟨Aq_, cq_, eq_⟩ := Kd.R_slice HO_5.out; subst eq_))
                obtain ⟨ad607, e607, hx607_0, hx607_1⟩ := at_T30 (Kd.R_reads' HO_5.out).2.2 x12_4 p607 q607
                cases e607
                replace p607 := eq_true p607
                replace q607 := eq_true q607
                refine start_ (n := 18) (S := fun w' => w'.cell? (ad607.add ((x12_4).toNat * 2)) = some (.string ((rd_T30 t591 x12_4).f0)) ∧ w'.cell? ⟨(ad607.add ((x12_4).toNat * 2)).block, (ad607.add ((x12_4).toNat * 2)).off + 1, none⟩ = some (.string ((rd_T30 t591 x12_4).f1))) (ds := []) #[false, false, false, false, false, false, false, false, false, false, false, false, false, false, false, false, false, false] (by kernel_rfl) rfl rfl ⟨hx607_0, hx607_1⟩ (fun hHeld => ?_); refine with_tabW schismalaw13_SizeIntervals.tab14 schismalaw13_SizeIntervals.bits14 (fun HT_ HW_ => ?_)
                generalize wr.drew = w46 at HO_5 HO_7 HO_9 HB hx607_0 hx607_1 hHeld ⊢
                refine purM (i := 0) (N := some 105) #[true, false, false, false, false, false, false, false, false, false, false, false, false, false, false, false, false, false] ?_
                refine purM (i := 1) (N := some 106) #[true, true, false, false, false, false, false, false, false, false, false, false, false, false, false, false, false, false] ?_
                refine purM (i := 2) (N := some 107) #[true, true, true, false, false, false, false, false, false, false, false, false, false, false, false, false, false, false] ?_
                refine take_ (i := 3) (N := some 108) (v := ?_) (a' := ?_) #[true, true, true, true, false, false, false, false, false, false, false, false, false, false, false, false, false, false] rfl rfl (take_ofW HT_.out HW_.out (by kernel_rfl)) (fun _ _ _ h => h) (Or.inl ⟨by rfl, ?_⟩) hHeld ?_ ?_
                rotate_left
                ·rintro w' ⟨s0, s1⟩
                 go_simp
                 with_reducible rfl
                rotate_left
                ·simp only [Act.put, List.setIfInBounds_toArray, List.set_cons_zero, List.set_cons_succ, i64_w, i32_w]
                 rfl
                refine one_ (i := 4) (N := some 109) #[true, true, true, true, true, false, false, false, false, false, false, false, false, false, false, false, false, false] rfl rfl (one_of HT_.out (by kernel_rfl)) (by decide) (fun K hK => ?_)
                refine goesR Tryz.func18 #[.int .i64 0, .int .i64 1] ?_
                with_reducible refine (schismalaw13_part.calls k4 0 1 t608 t609 _ ?side1 A44.out).mono ?_
                (case side1 => exact Glob.below HG0.out (bl HB))
                rintro e w48 ⟨rfl, hb⟩
                have HS0_ := (hb.cell (World.block_lt_of_cell? _ _ (hHeld.1))).trans (hHeld.1)
                have HS1_ := (hb.cell (World.block_lt_of_cell? _ _ (hHeld.2))).trans (hHeld.2)
                refine ⟨_, rfl, ?_⟩
                replace HO_5 := Aside0.mk (Kd.R_below (kr HO_5) hb)
                replace HO_7 := Aside0.mk (Kd.R_below (kr HO_7) hb)
                replace HO_9 := Aside0.mk (Kd.R_below (kr HO_9) hb)
                replace HB := Aside0.mk (below_step (bl HB) hb)
                (try clear hb)
                (try clear hb2)
                (try clear hk)
                (try clear hi)
                refine hK.out _ _ ⟨HS0_, HS1_⟩ (fun hHeld => ?_)
                clear hK K
                refine norm_ (a' := ?_) ?_ ?_
                rotate_left
                ·show Act.put _ (some 109) _ = _
                 simp only [Act.put, List.setIfInBounds_toArray, List.set_cons_zero, List.set_cons_succ, i64_w, i32_w]
                 rfl
                refine purM (i := 5) (N := some 110) #[true, true, true, true, true, true, false, false, false, false, false, false, false, false, false, false, false, false] ?_
                refine purM (i := 6) (N := some 111) #[true, true, true, true, true, true, true, false, false, false, false, false, false, false, false, false, false, false] ?_
                refine pure_ (i := 7) (N := some 112) (v := undef) (a' := ?_) #[true, true, true, true, true, true, true, true, false, false, false, false, false, false, false, false, false, false] rfl rfl (any_of HT_.out (by kernel_rfl)) (fun _ _ _ h => h) (Or.inr ⟨by rfl, rfl⟩) ?_ ?_
                rotate_left
                ·simp only [Act.put, List.setIfInBounds_toArray, List.set_cons_zero, List.set_cons_succ, i64_w, i32_w]
                 rfl
                refine pure_ (i := 8) (N := some 113) (v := undef) (a' := ?_) #[true, true, true, true, true, true, true, true, true, false, false, false, false, false, false, false, false, false] rfl rfl (any_of HT_.out (by kernel_rfl)) (fun _ _ _ h => h) (Or.inr ⟨by rfl, rfl⟩) ?_ ?_
                rotate_left
                ·simp only [Act.put, List.setIfInBounds_toArray, List.set_cons_zero, List.set_cons_succ, i64_w, i32_w]
                 rfl
                refine pure_ (i := 9) (N := some 114) (v := undef) (a' := ?_) #[true, true, true, true, true, true, true, true, true, true, false, false, false, false, false, false, false, false] rfl rfl (any_of HT_.out (by kernel_rfl)) (fun _ _ _ h => h) (Or.inr ⟨by rfl, rfl⟩) ?_ ?_
                rotate_left
                ·simp only [Act.put, List.setIfInBounds_toArray, List.set_cons_zero, List.set_cons_succ, i64_w, i32_w]
                 rfl
                refine pure_ (i := 10) (N := some 115) (v := undef) (a' := ?_) #[true, true, true, true, true, true, true, true, true, true, true, false, false, false, false, false, false, false] rfl rfl (any_of HT_.out (by kernel_rfl)) (fun _ _ _ h => h) (Or.inr ⟨by rfl, rfl⟩) ?_ ?_
                rotate_left
                ·simp only [Act.put, List.setIfInBounds_toArray, List.set_cons_zero, List.set_cons_succ, i64_w, i32_w]
                 rfl
                refine pure_ (i := 11) (N := some 116) (v := undef) (a' := ?_) #[true, true, true, true, true, true, true, true, true, true, true, true, false, false, false, false, false, false] rfl rfl (any_of HT_.out (by kernel_rfl)) (fun _ _ _ h => h) (Or.inr ⟨by rfl, rfl⟩) ?_ ?_
                rotate_left
                ·simp only [Act.put, List.setIfInBounds_toArray, List.set_cons_zero, List.set_cons_succ, i64_w, i32_w]
                 rfl
                refine pure_ (i := 12) (N := some 117) (v := undef) (a' := ?_) #[true, true, true, true, true, true, true, true, true, true, true, true, true, false, false, false, false, false] rfl rfl (any_of HT_.out (by kernel_rfl)) (fun _ _ _ h => h) (Or.inr ⟨by rfl, rfl⟩) ?_ ?_
                rotate_left
                ·simp only [Act.put, List.setIfInBounds_toArray, List.set_cons_zero, List.set_cons_succ, i64_w, i32_w]
                 rfl
                refine pure_ (i := 13) (N := some 118) (v := undef) (a' := ?_) #[true, true, true, true, true, true, true, true, true, true, true, true, true, true, false, false, false, false] rfl rfl (any_of HT_.out (by kernel_rfl)) (fun _ _ _ h => h) (Or.inr ⟨by rfl, rfl⟩) ?_ ?_
                rotate_left
                ·simp only [Act.put, List.setIfInBounds_toArray, List.set_cons_zero, List.set_cons_succ, i64_w, i32_w]
                 rfl
                refine pure_ (i := 14) (N := some 119) (v := undef) (a' := ?_) #[true, true, true, true, true, true, true, true, true, true, true, true, true, true, true, false, false, false] rfl rfl (any_of HT_.out (by kernel_rfl)) (fun _ _ _ h => h) (Or.inr ⟨by rfl, rfl⟩) ?_ ?_
                rotate_left
                ·simp only [Act.put, List.setIfInBounds_toArray, List.set_cons_zero, List.set_cons_succ, i64_w, i32_w]
                 rfl
                refine pure_ (i := 15) (N := some 120) (v := undef) (a' := ?_) #[true, true, true, true, true, true, true, true, true, true, true, true, true, true, true, true, false, false] rfl rfl (any_of HT_.out (by kernel_rfl)) (fun _ _ _ h => h) (Or.inr ⟨by rfl, rfl⟩) ?_ ?_
                rotate_left
                ·simp only [Act.put, List.setIfInBounds_toArray, List.set_cons_zero, List.set_cons_succ, i64_w, i32_w]
                 rfl
                refine pure_ (i := 16) (N := some 121) (v := undef) (a' := ?_) #[true, true, true, true, true, true, true, true, true, true, true, true, true, true, true, true, true, false] rfl rfl (any_of HT_.out (by kernel_rfl)) (fun _ _ _ h => h) (Or.inr ⟨by rfl, rfl⟩) ?_ ?_
                rotate_left
                ·simp only [Act.put, List.setIfInBounds_toArray, List.set_cons_zero, List.set_cons_succ, i64_w, i32_w]
                 rfl
                refine purM (i := 17) (N := some 122) #[true, true, true, true, true, true, true, true, true, true, true, true, true, true, true, true, true, true] ?_
                refine done_ (done_of HT_.out (by kernel_rfl)) ?_
                try go_wp2
                go_ret
                exact ⟨rl, bl HB⟩
               ·rw [if_neg c45] at H
                have c45b0 : (!((((rd_T30 t591 x12_4).f0).toList) == t608.toList) || (!((((rd_T30 t591 x12_4).f1).toList) == t609.toList))) = false := by simpa using c45
                clear c45
                by_cases c49 : x12_4 > 0
                ·rw [if_pos c49] at H
                 have c49b0 : decide (0 < x12_4) = true := decide_eq_true c49
                 clear c49
                 by_cases c50 : x12_4 < (t595.length : Int)
                 ·rw [if_pos c50] at H
                  have c50b0 : decide (x12_4 < (t595.length : Int)) = true := decide_eq_true c50
                  clear c50
                  replace H := Option.bind_eq_some_iff.mp H
                  obtain ⟨⟨t611, t612⟩, A510, H⟩ := H
                  replace H : (if (!((((rd_T30 t595 x12_4).f0).toList) == t611.toList) || (!((((rd_T30 t595 x12_4).f1).toList) == t612.toList))) = true then (some false) else (schismalaw13_SizeIntervals.l0 k4 l0 l1 t591 t595 t599 t600 (wrap64 (x12_4 + 1)))) = some r := H
                  have A51 := Aside0.mk A510
                  clear A510
                  by_cases c52 : (!((((rd_T30 t595 x12_4).f0).toList) == t611.toList) || (!((((rd_T30 t595 x12_4).f1).toList) == t612.toList))) = true
                  ·rw [if_pos c52] at H
                   have c52b0 : (!((((rd_T30 t595 x12_4).f0).toList) == t611.toList) || (!((((rd_T30 t595 x12_4).f1).toList) == t612.toList))) = true := c52
                   clear c52
                   obtain rfl := Option.some.inj H
                   try go_wp2
                   replace HO_5 := Aside0.mk (Kd.R_drew HO_5.out)
                   replace HO_7 := Aside0.mk (Kd.R_drew HO_7.out)
                   replace HO_9 := Aside0.mk (Kd.R_drew HO_9.out)
                   replace HB := Aside0.mk (below_drew1 HB.out)
                   obtain ⟨Ao54, co54, eo54⟩ := Kd.R_slice HO_5.out
                   (first | subst eo54 | (injection eo54 with f1_ f2_ f3_; have f4_ := f1_.symm; have f5_ := f3_.symm; clear f1_ f2_ f3_; subst f4_; subst f5_))
                   have p607 : 0 ≤ (x12_4 : Int) := of_decide_eq_true (by first | (with_reducible assumption) | assumption)
                   have q607 : x12_4 < (t591.length : Int) := of_decide_eq_true (by first | (with_reducible assumption) | assumption)
                   (try (obtain ⟨Aq_, cq_, eq_⟩ := Kd.R_slice HO_5.out; subst eq_))
                   obtain ⟨ad607, e607, hx607_0, hx607_1⟩ := at_T30 (Kd.R_reads' HO_5.out).2.2 x12_4 p607 q607
                   cases e607
                   replace p607 := eq_true p607
                   replace q607 := eq_true q607
                   have p610 : 0 ≤ (x12_4 : Int) := of_decide_eq_true (by first | (with_reducible assumption) | assumption)
                   have q610 : x12_4 < (t595.length : Int) := of_decide_eq_true (by first | (with_reducible assumption) | assumption)
                   (try (obtain ⟨Aq_, cq_, eq_⟩ := Kd.R_slice HO_7.out; subst eq_))
                   obtain ⟨ad610, e610, hx610_0, hx610_1⟩ := at_T30 (Kd.R_reads' HO_7.out).2.2 x12_4 p610 q610
                   cases e610
                   replace p610 := eq_true p610
                   replace q610 := eq_true q610
                   refine start_ (n := 18) (S := fun w' => w'.cell? (ad607.add ((x12_4).toNat * 2)) = some (.string ((rd_T30 t591 x12_4).f0)) ∧ w'.cell? ⟨(ad607.add ((x12_4).toNat * 2)).block, (ad607.add ((x12_4).toNat * 2)).off + 1, none⟩ = some (.string ((rd_T30 t591 x12_4).f1)) ∧ w'.cell? (ad610.add ((x12_4).toNat * 2)) = some (.string ((rd_T30 t595 x12_4).f0)) ∧ w'.cell? ⟨(ad610.add ((x12_4).toNat * 2)).block, (ad610.add ((x12_4).toNat * 2)).off + 1, none⟩ = some (.string ((rd_T30 t595 x12_4).f1))) (ds := []) #[false, false, false, false, false, false, false, false, false, false, false, false, false, false, false, false, false, false] (by kernel_rfl) rfl rfl ⟨hx607_0, hx607_1, hx610_0, hx610_1⟩ (fun hHeld => ?_); refine with_tabW schismalaw13_SizeIntervals.tab14 schismalaw13_SizeIntervals.bits14 (fun HT_ HW_ => ?_)
                   generalize wr.drew = w53 at HO_5 HO_7 HO_9 HB hx607_0 hx607_1 hx610_0 hx610_1 hHeld ⊢
                   refine purM (i := 0) (N := some 105) #[true, false, false, false, false, false, false, false, false, false, false, false, false, false, false, false, false, false] ?_
                   refine purM (i := 1) (N := some 106) #[true, true, false, false, false, false, false, false, false, false, false, false, false, false, false, false, false, false] ?_
                   refine purM (i := 2) (N := some 107) #[true, true, true, false, false, false, false, false, false, false, false, false, false, false, false, false, false, false] ?_
                   refine take_ (i := 3) (N := some 108) (v := ?_) (a' := ?_) #[true, true, true, true, false, false, false, false, false, false, false, false, false, false, false, false, false, false] rfl rfl (take_ofW HT_.out HW_.out (by kernel_rfl)) (fun _ _ _ h => h) (Or.inl ⟨by rfl, ?_⟩) hHeld ?_ ?_
                   rotate_left
                   ·rintro w' ⟨s0, s1, s2, s3⟩
                    go_simp
                    with_reducible rfl
                   rotate_left
                   ·simp only [Act.put, List.setIfInBounds_toArray, List.set_cons_zero, List.set_cons_succ, i64_w, i32_w]
                    rfl
                   refine one_ (i := 4) (N := some 109) #[true, true, true, true, true, false, false, false, false, false, false, false, false, false, false, false, false, false] rfl rfl (one_of HT_.out (by kernel_rfl)) (by decide) (fun K hK => ?_)
                   refine goesR Tryz.func18 #[.int .i64 0, .int .i64 1] ?_
                   with_reducible refine (schismalaw13_part.calls k4 0 1 t608 t609 _ ?side1 A44.out).mono ?_
                   (case side1 => exact Glob.below HG0.out (bl HB))
                   rintro e w55 ⟨rfl, hb⟩
                   have HS0_ := (hb.cell (World.block_lt_of_cell? _ _ (hHeld.1))).trans (hHeld.1)
                   have HS1_ := (hb.cell (World.block_lt_of_cell? _ _ (hHeld.2.1))).trans (hHeld.2.1)
                   have HS2_ := (hb.cell (World.block_lt_of_cell? _ _ (hHeld.2.2.1))).trans (hHeld.2.2.1)
                   have HS3_ := (hb.cell (World.block_lt_of_cell? _ _ (hHeld.2.2.2))).trans (hHeld.2.2.2)
                   refine ⟨_, rfl, ?_⟩
                   replace HO_5 := Aside0.mk (Kd.R_below (kr HO_5) hb)
                   replace HO_7 := Aside0.mk (Kd.R_below (kr HO_7) hb)
                   replace HO_9 := Aside0.mk (Kd.R_below (kr HO_9) hb)
                   replace HB := Aside0.mk (below_step (bl HB) hb)
                   (try clear hb)
                   (try clear hb2)
                   (try clear hk)
                   (try clear hi)
                   obtain ⟨Ao56, co56, eo56⟩ := Kd.R_slice HO_7.out
                   (first | subst eo56 | (injection eo56 with f1_ f2_ f3_; have f4_ := f1_.symm; have f5_ := f3_.symm; clear f1_ f2_ f3_; subst f4_; subst f5_))
                   refine hK.out _ _ ⟨HS0_, HS1_, HS2_, HS3_⟩ (fun hHeld => ?_)
                   clear hK K
                   refine norm_ (a' := ?_) ?_ ?_
                   rotate_left
                   ·show Act.put _ (some 109) _ = _
                    simp only [Act.put, List.setIfInBounds_toArray, List.set_cons_zero, List.set_cons_succ, i64_w, i32_w]
                    rfl
                   refine purM (i := 5) (N := some 110) #[true, true, true, true, true, true, false, false, false, false, false, false, false, false, false, false, false, false] ?_
                   refine purM (i := 6) (N := some 111) #[true, true, true, true, true, true, true, false, false, false, false, false, false, false, false, false, false, false] ?_
                   refine purM (i := 7) (N := some 112) #[true, true, true, true, true, true, true, true, false, false, false, false, false, false, false, false, false, false] ?_
                   refine purM (i := 8) (N := some 113) #[true, true, true, true, true, true, true, true, true, false, false, false, false, false, false, false, false, false] ?_
                   refine purM (i := 9) (N := some 114) #[true, true, true, true, true, true, true, true, true, true, false, false, false, false, false, false, false, false] ?_
                   refine purM (i := 10) (N := some 115) #[true, true, true, true, true, true, true, true, true, true, true, false, false, false, false, false, false, false] ?_
                   refine purM (i := 11) (N := some 116) #[true, true, true, true, true, true, true, true, true, true, true, true, false, false, false, false, false, false] ?_
                   refine purM (i := 12) (N := some 117) #[true, true, true, true, true, true, true, true, true, true, true, true, true, false, false, false, false, false] ?_
                   refine take_ (i := 13) (N := some 118) (v := ?_) (a' := ?_) #[true, true, true, true, true, true, true, true, true, true, true, true, true, true, false, false, false, false] rfl rfl (take_ofW HT_.out HW_.out (by kernel_rfl)) (fun _ _ _ h => h) (Or.inl ⟨by rfl, ?_⟩) hHeld ?_ ?_
                   rotate_left
                   ·rintro w' ⟨s0, s1, s2, s3⟩
                    go_simp
                    with_reducible rfl
                   rotate_left
                   ·simp only [Act.put, List.setIfInBounds_toArray, List.set_cons_zero, List.set_cons_succ, i64_w, i32_w]
                    rfl
                   refine one_ (i := 14) (N := some 119) #[true, true, true, true, true, true, true, true, true, true, true, true, true, true, true, false, false, false] rfl rfl (one_of HT_.out (by kernel_rfl)) (by decide) (fun K hK => ?_)
                   refine goesR Tryz.func18 #[.int .i64 0, .int .i64 1] ?_
                   with_reducible refine (schismalaw13_part.calls k4 0 1 t611 t612 _ ?side1 A51.out).mono ?_
                   (case side1 => exact Glob.below HG0.out (bl HB))
                   rintro e w57 ⟨rfl, hb⟩
                   have HS0_ := (hb.cell (World.block_lt_of_cell? _ _ (hHeld.1))).trans (hHeld.1)
                   have HS1_ := (hb.cell (World.block_lt_of_cell? _ _ (hHeld.2.1))).trans (hHeld.2.1)
                   have HS2_ := (hb.cell (World.block_lt_of_cell? _ _ (hHeld.2.2.1))).trans (hHeld.2.2.1)
                   have HS3_ := (hb.cell (World.block_lt_of_cell? _ _ (hHeld.2.2.2))).trans (hHeld.2.2.2)
                   refine ⟨_, rfl, ?_⟩
                   replace HO_5 := Aside0.mk (Kd.R_below (kr HO_5) hb)
                   replace HO_7 := Aside0.mk (Kd.R_below (kr HO_7) hb)
                   replace HO_9 := Aside0.mk (Kd.R_below (kr HO_9) hb)
                   replace HB := Aside0.mk (below_step (bl HB) hb)
                   (try clear hb)
                   (try clear hb2)
                   (try clear hk)
                   (try clear hi)
                   refine hK.out _ _ ⟨HS0_, HS1_, HS2_, HS3_⟩ (fun hHeld => ?_)
                   clear hK K
                   refine norm_ (a' := ?_) ?_ ?_
                   rotate_left
                   ·show Act.put _ (some 119) _ = _
                    simp only [Act.put, List.setIfInBounds_toArray, List.set_cons_zero, List.set_cons_succ, i64_w, i32_w]
                    rfl
                   refine purM (i := 15) (N := some 120) #[true, true, true, true, true, true, true, true, true, true, true, true, true, true, true, true, false, false] ?_
                   refine purM (i := 16) (N := some 121) #[true, true, true, true, true, true, true, true, true, true, true, true, true, true, true, true, true, false] ?_
                   refine purM (i := 17) (N := some 122) #[true, true, true, true, true, true, true, true, true, true, true, true, true, true, true, true, true, true] ?_
                   refine done_ (done_of HT_.out (by kernel_rfl)) ?_
                   try go_wp2
                   go_ret
                   exact ⟨rl, bl HB⟩
                  ·rw [if_neg c52] at H
                   have c52b0 : (!((((rd_T30 t595 x12_4).f0).toList) == t611.toList) || (!((((rd_T30 t595 x12_4).f1).toList) == t612.toList))) = false := by simpa using c52
                   clear c52
                   have H' := Aside0.mk H
                   clear H
                   try go_wp2
                   replace HO_5 := Aside0.mk (Kd.R_drew HO_5.out)
                   replace HO_7 := Aside0.mk (Kd.R_drew HO_7.out)
                   replace HO_9 := Aside0.mk (Kd.R_drew HO_9.out)
                   replace HB := Aside0.mk (below_drew1 HB.out)
                   obtain ⟨Ao59, co59, eo59⟩ := Kd.R_slice HO_5.out
                   (first | subst eo59 | (injection eo59 with f1_ f2_ f3_; have f4_ := f1_.symm; have f5_ := f3_.symm; clear f1_ f2_ f3_; subst f4_; subst f5_))
                   have p607 : 0 ≤ (x12_4 : Int) := of_decide_eq_true (by first | (with_reducible assumption) | assumption)
                   have q607 : x12_4 < (t591.length : Int) := of_decide_eq_true (by first | (with_reducible assumption) | assumption)
                   (try (obtain ⟨Aq_, cq_, eq_⟩ := Kd.R_slice HO_5.out; subst eq_))
                   obtain ⟨ad607, e607, hx607_0, hx607_1⟩ := at_T30 (Kd.R_reads' HO_5.out).2.2 x12_4 p607 q607
                   cases e607
                   replace p607 := eq_true p607
                   replace q607 := eq_true q607
                   have p610 : 0 ≤ (x12_4 : Int) := of_decide_eq_true (by first | (with_reducible assumption) | assumption)
                   have q610 : x12_4 < (t595.length : Int) := of_decide_eq_true (by first | (with_reducible assumption) | assumption)
                   (try (obtain ⟨Aq_, cq_, eq_⟩ := Kd.R_slice HO_7.out; subst eq_))
                   obtain ⟨ad610, e610, hx610_0, hx610_1⟩ := at_T30 (Kd.R_reads' HO_7.out).2.2 x12_4 p610 q610
                   cases e610
                   replace p610 := eq_true p610
                   replace q610 := eq_true q610
                   refine start_ (n := 18) (S := fun w' => w'.cell? (ad607.add ((x12_4).toNat * 2)) = some (.string ((rd_T30 t591 x12_4).f0)) ∧ w'.cell? ⟨(ad607.add ((x12_4).toNat * 2)).block, (ad607.add ((x12_4).toNat * 2)).off + 1, none⟩ = some (.string ((rd_T30 t591 x12_4).f1)) ∧ w'.cell? (ad610.add ((x12_4).toNat * 2)) = some (.string ((rd_T30 t595 x12_4).f0)) ∧ w'.cell? ⟨(ad610.add ((x12_4).toNat * 2)).block, (ad610.add ((x12_4).toNat * 2)).off + 1, none⟩ = some (.string ((rd_T30 t595 x12_4).f1))) (ds := []) #[false, false, false, false, false, false, false, false, false, false, false, false, false, false, false, false, false, false] (by kernel_rfl) rfl rfl ⟨hx607_0, hx607_1, hx610_0, hx610_1⟩ (fun hHeld => ?_); refine with_tabW schismalaw13_SizeIntervals.tab14 schismalaw13_SizeIntervals.bits14 (fun HT_ HW_ => ?_)
                   generalize wr.drew = w58 at HO_5 HO_7 HO_9 HB hx607_0 hx607_1 hx610_0 hx610_1 hHeld ⊢
                   refine purM (i := 0) (N := some 105) #[true, false, false, false, false, false, false, false, false, false, false, false, false, false, false, false, false, false] ?_
                   refine purM (i := 1) (N := some 106) #[true, true, false, false, false, false, false, false, false, false, false, false, false, false, false, false, false, false] ?_
                   refine purM (i := 2) (N := some 107) #[true, true, true, false, false, false, false, false, false, false, false, false, false, false, false, false, false, false] ?_
                   refine take_ (i := 3) (N := some 108) (v := ?_) (a' := ?_) #[true, true, true, true, false, false, false, false, false, false, false, false, false, false, false, false, false, false] rfl rfl (take_ofW HT_.out HW_.out (by kernel_rfl)) (fun _ _ _ h => h) (Or.inl ⟨by rfl, ?_⟩) hHeld ?_ ?_
                   rotate_left
                   ·rintro w' ⟨s0, s1, s2, s3⟩
                    go_simp
                    with_reducible rfl
                   rotate_left
                   ·simp only [Act.put, List.setIfInBounds_toArray, List.set_cons_zero, List.set_cons_succ, i64_w, i32_w]
                    rfl
                   refine one_ (i := 4) (N := some 109) #[true, true, true, true, true, false, false, false, false, false, false, false, false, false, false, false, false, false] rfl rfl (one_of HT_.out (by kernel_rfl)) (by decide) (fun K hK => ?_)
                   refine goesR Tryz.func18 #[.int .i64 0, .int .i64 1] ?_
                   with_reducible refine (schismalaw13_part.calls k4 0 1 t608 t609 _ ?side1 A44.out).mono ?_
                   (case side1 => exact Glob.below HG0.out (bl HB))
                   rintro e w60 ⟨rfl, hb⟩
                   have HS0_ := (hb.cell (World.block_lt_of_cell? _ _ (hHeld.1))).trans (hHeld.1)
                   have HS1_ := (hb.cell (World.block_lt_of_cell? _ _ (hHeld.2.1))).trans (hHeld.2.1)
                   have HS2_ := (hb.cell (World.block_lt_of_cell? _ _ (hHeld.2.2.1))).trans (hHeld.2.2.1)
                   have HS3_ := (hb.cell (World.block_lt_of_cell? _ _ (hHeld.2.2.2))).trans (hHeld.2.2.2)
                   refine ⟨_, rfl, ?_⟩
                   replace HO_5 := Aside0.mk (Kd.R_below (kr HO_5) hb)
                   replace HO_7 := Aside0.mk (Kd.R_below (kr HO_7) hb)
                   replace HO_9 := Aside0.mk (Kd.R_below (kr HO_9) hb)
                   replace HB := Aside0.mk (below_step (bl HB) hb)
                   (try clear hb)
                   (try clear hb2)
                   (try clear hk)
                   (try clear hi)
                   obtain ⟨Ao61, co61, eo61⟩ := Kd.R_slice HO_7.out
                   (first | subst eo61 | (injection eo61 with f1_ f2_ f3_; have f4_ := f1_.symm; have f5_ := f3_.symm; clear f1_ f2_ f3_; subst f4_; subst f5_))
                   refine hK.out _ _ ⟨HS0_, HS1_, HS2_, HS3_⟩ (fun hHeld => ?_)
                   clear hK K
                   refine norm_ (a' := ?_) ?_ ?_
                   rotate_left
                   ·show Act.put _ (some 109) _ = _
                    simp only [Act.put, List.setIfInBounds_toArray, List.set_cons_zero, List.set_cons_succ, i64_w, i32_w]
                    rfl
                   refine purM (i := 5) (N := some 110) #[true, true, true, true, true, true, false, false, false, false, false, false, false, false, false, false, false, false] ?_
                   refine purM (i := 6) (N := some 111) #[true, true, true, true, true, true, true, false, false, false, false, false, false, false, false, false, false, false] ?_
                   refine purM (i := 7) (N := some 112) #[true, true, true, true, true, true, true, true, false, false, false, false, false, false, false, false, false, false] ?_
                   refine purM (i := 8) (N := some 113) #[true, true, true, true, true, true, true, true, true, false, false, false, false, false, false, false, false, false] ?_
                   refine purM (i := 9) (N := some 114) #[true, true, true, true, true, true, true, true, true, true, false, false, false, false, false, false, false, false] ?_
                   refine purM (i := 10) (N := some 115) #[true, true, true, true, true, true, true, true, true, true, true, false, false, false, false, false, false, false] ?_
                   refine purM (i := 11) (N := some 116) #[true, true, true, true, true, true, true, true, true, true, true, true, false, false, false, false, false, false] ?_
                   refine purM (i := 12) (N := some 117) #[true, true, true, true, true, true, true, true, true, true, true, true, true, false, false, false, false, false] ?_
                   refine take_ (i := 13) (N := some 118) (v := ?_) (a' := ?_) #[true, true, true, true, true, true, true, true, true, true, true, true, true, true, false, false, false, false] rfl rfl (take_ofW HT_.out HW_.out (by kernel_rfl)) (fun _ _ _ h => h) (Or.inl ⟨by rfl, ?_⟩) hHeld ?_ ?_
                   rotate_left
                   ·rintro w' ⟨s0, s1, s2, s3⟩
                    go_simp
                    with_reducible rfl
                   rotate_left
                   ·simp only [Act.put, List.setIfInBounds_toArray, List.set_cons_zero, List.set_cons_succ, i64_w, i32_w]
                    rfl
                   refine one_ (i := 14) (N := some 119) #[true, true, true, true, true, true, true, true, true, true, true, true, true, true, true, false, false, false] rfl rfl (one_of HT_.out (by kernel_rfl)) (by decide) (fun K hK => ?_)
                   refine goesR Tryz.func18 #[.int .i64 0, .int .i64 1] ?_
                   with_reducible refine (schismalaw13_part.calls k4 0 1 t611 t612 _ ?side1 A51.out).mono ?_
                   (case side1 => exact Glob.below HG0.out (bl HB))
                   rintro e w62 ⟨rfl, hb⟩
                   have HS0_ := (hb.cell (World.block_lt_of_cell? _ _ (hHeld.1))).trans (hHeld.1)
                   have HS1_ := (hb.cell (World.block_lt_of_cell? _ _ (hHeld.2.1))).trans (hHeld.2.1)
                   have HS2_ := (hb.cell (World.block_lt_of_cell? _ _ (hHeld.2.2.1))).trans (hHeld.2.2.1)
                   have HS3_ := (hb.cell (World.block_lt_of_cell? _ _ (hHeld.2.2.2))).trans (hHeld.2.2.2)
                   refine ⟨_, rfl, ?_⟩
                   replace HO_5 := Aside0.mk (Kd.R_below (kr HO_5) hb)
                   replace HO_7 := Aside0.mk (Kd.R_below (kr HO_7) hb)
                   replace HO_9 := Aside0.mk (Kd.R_below (kr HO_9) hb)
                   replace HB := Aside0.mk (below_step (bl HB) hb)
                   (try clear hb)
                   (try clear hb2)
                   (try clear hk)
                   (try clear hi)
                   refine hK.out _ _ ⟨HS0_, HS1_, HS2_, HS3_⟩ (fun hHeld => ?_)
                   clear hK K
                   refine norm_ (a' := ?_) ?_ ?_
                   rotate_left
                   ·show Act.put _ (some 119) _ = _
                    simp only [Act.put, List.setIfInBounds_toArray, List.set_cons_zero, List.set_cons_succ, i64_w, i32_w]
                    rfl
                   refine purM (i := 15) (N := some 120) #[true, true, true, true, true, true, true, true, true, true, true, true, true, true, true, true, false, false] ?_
                   refine purM (i := 16) (N := some 121) #[true, true, true, true, true, true, true, true, true, true, true, true, true, true, true, true, true, false] ?_
                   refine purM (i := 17) (N := some 122) #[true, true, true, true, true, true, true, true, true, true, true, true, true, true, true, true, true, true] ?_
                   refine done_ (done_of HT_.out (by kernel_rfl)) ?_
                   try go_wp2
                   go_roundg k4
                   case measure => have := HJ2.out; have := HJ15.out; have := HJ21.out; have := HK4.out; omega
                   case rel => exact ⟨(wrap64 (x12_4 + 1)), rs, H', ⟨by have := HJ2.out; have := HJ15.out; have := HJ21.out; have := HK4.out; omega⟩, ⟨kr HO_5⟩, ⟨kr HO_7⟩, ⟨kr HO_9⟩, ⟨bl HB⟩⟩
                 ·rw [if_neg c50] at H
                  exact absurd H (by simp)
                ·rw [if_neg c49] at H
                 have c49b0 : decide (0 < x12_4) = false := decide_eq_false c49
                 clear c49
                 have H' := Aside0.mk H
                 clear H
                 try go_wp2
                 replace HO_5 := Aside0.mk (Kd.R_drew HO_5.out)
                 replace HO_7 := Aside0.mk (Kd.R_drew HO_7.out)
                 replace HO_9 := Aside0.mk (Kd.R_drew HO_9.out)
                 replace HB := Aside0.mk (below_drew1 HB.out)
                 obtain ⟨Ao64, co64, eo64⟩ := Kd.R_slice HO_5.out
                 (first | subst eo64 | (injection eo64 with f1_ f2_ f3_; have f4_ := f1_.symm; have f5_ := f3_.symm; clear f1_ f2_ f3_; subst f4_; subst f5_))
                 have p607 : 0 ≤ (x12_4 : Int) := of_decide_eq_true (by first | (with_reducible assumption) | assumption)
                 have q607 : x12_4 < (t591.length : Int) := of_decide_eq_true (by first | (with_reducible assumption) | assumption)
                 (try (obtain ⟨Aq_, cq_, eq_⟩ := Kd.R_slice HO_5.out; subst eq_))
                 obtain ⟨ad607, e607, hx607_0, hx607_1⟩ := at_T30 (Kd.R_reads' HO_5.out).2.2 x12_4 p607 q607
                 cases e607
                 replace p607 := eq_true p607
                 replace q607 := eq_true q607
                 refine start_ (n := 18) (S := fun w' => w'.cell? (ad607.add ((x12_4).toNat * 2)) = some (.string ((rd_T30 t591 x12_4).f0)) ∧ w'.cell? ⟨(ad607.add ((x12_4).toNat * 2)).block, (ad607.add ((x12_4).toNat * 2)).off + 1, none⟩ = some (.string ((rd_T30 t591 x12_4).f1))) (ds := []) #[false, false, false, false, false, false, false, false, false, false, false, false, false, false, false, false, false, false] (by kernel_rfl) rfl rfl ⟨hx607_0, hx607_1⟩ (fun hHeld => ?_); refine with_tabW schismalaw13_SizeIntervals.tab14 schismalaw13_SizeIntervals.bits14 (fun HT_ HW_ => ?_)
                 generalize wr.drew = w63 at HO_5 HO_7 HO_9 HB hx607_0 hx607_1 hHeld ⊢
                 refine purM (i := 0) (N := some 105) #[true, false, false, false, false, false, false, false, false, false, false, false, false, false, false, false, false, false] ?_
                 refine purM (i := 1) (N := some 106) #[true, true, false, false, false, false, false, false, false, false, false, false, false, false, false, false, false, false] ?_
                 refine purM (i := 2) (N := some 107) #[true, true, true, false, false, false, false, false, false, false, false, false, false, false, false, false, false, false] ?_
                 refine take_ (i := 3) (N := some 108) (v := ?_) (a' := ?_) #[true, true, true, true, false, false, false, false, false, false, false, false, false, false, false, false, false, false] rfl rfl (take_ofW HT_.out HW_.out (by kernel_rfl)) (fun _ _ _ h => h) (Or.inl ⟨by rfl, ?_⟩) hHeld ?_ ?_
                 rotate_left
                 ·rintro w' ⟨s0, s1⟩
                  go_simp
                  with_reducible rfl
                 rotate_left
                 ·simp only [Act.put, List.setIfInBounds_toArray, List.set_cons_zero, List.set_cons_succ, i64_w, i32_w]
                  rfl
                 refine one_ (i := 4) (N := some 109) #[true, true, true, true, true, false, false, false, false, false, false, false, false, false, false, false, false, false] rfl rfl (one_of HT_.out (by kernel_rfl)) (by decide) (fun K hK => ?_)
                 refine goesR Tryz.func18 #[.int .i64 0, .int .i64 1] ?_
                 with_reducible refine (schismalaw13_part.calls k4 0 1 t608 t609 _ ?side1 A44.out).mono ?_
                 (case side1 => exact Glob.below HG0.out (bl HB))
                 rintro e w65 ⟨rfl, hb⟩
                 have HS0_ := (hb.cell (World.block_lt_of_cell? _ _ (hHeld.1))).trans (hHeld.1)
                 have HS1_ := (hb.cell (World.block_lt_of_cell? _ _ (hHeld.2))).trans (hHeld.2)
                 refine ⟨_, rfl, ?_⟩
                 replace HO_5 := Aside0.mk (Kd.R_below (kr HO_5) hb)
                 replace HO_7 := Aside0.mk (Kd.R_below (kr HO_7) hb)
                 replace HO_9 := Aside0.mk (Kd.R_below (kr HO_9) hb)
                 replace HB := Aside0.mk (below_step (bl HB) hb)
                 (try clear hb)
                 (try clear hb2)
                 (try clear hk)
                 (try clear hi)
                 refine hK.out _ _ ⟨HS0_, HS1_⟩ (fun hHeld => ?_)
                 clear hK K
                 refine norm_ (a' := ?_) ?_ ?_
                 rotate_left
                 ·show Act.put _ (some 109) _ = _
                  simp only [Act.put, List.setIfInBounds_toArray, List.set_cons_zero, List.set_cons_succ, i64_w, i32_w]
                  rfl
                 refine purM (i := 5) (N := some 110) #[true, true, true, true, true, true, false, false, false, false, false, false, false, false, false, false, false, false] ?_
                 refine purM (i := 6) (N := some 111) #[true, true, true, true, true, true, true, false, false, false, false, false, false, false, false, false, false, false] ?_
                 refine purM (i := 7) (N := some 112) #[true, true, true, true, true, true, true, true, false, false, false, false, false, false, false, false, false, false] ?_
                 refine purM (i := 8) (N := some 113) #[true, true, true, true, true, true, true, true, true, false, false, false, false, false, false, false, false, false] ?_
                 refine purM (i := 9) (N := some 114) #[true, true, true, true, true, true, true, true, true, true, false, false, false, false, false, false, false, false] ?_
                 refine pure_ (i := 10) (N := some 115) (v := undef) (a' := ?_) #[true, true, true, true, true, true, true, true, true, true, true, false, false, false, false, false, false, false] rfl rfl (any_of HT_.out (by kernel_rfl)) (fun _ _ _ h => h) (Or.inr ⟨by rfl, rfl⟩) ?_ ?_
                 rotate_left
                 ·simp only [Act.put, List.setIfInBounds_toArray, List.set_cons_zero, List.set_cons_succ, i64_w, i32_w]
                  rfl
                 refine pure_ (i := 11) (N := some 116) (v := undef) (a' := ?_) #[true, true, true, true, true, true, true, true, true, true, true, true, false, false, false, false, false, false] rfl rfl (any_of HT_.out (by kernel_rfl)) (fun _ _ _ h => h) (Or.inr ⟨by rfl, rfl⟩) ?_ ?_
                 rotate_left
                 ·simp only [Act.put, List.setIfInBounds_toArray, List.set_cons_zero, List.set_cons_succ, i64_w, i32_w]
                  rfl
                 refine pure_ (i := 12) (N := some 117) (v := undef) (a' := ?_) #[true, true, true, true, true, true, true, true, true, true, true, true, true, false, false, false, false, false] rfl rfl (any_of HT_.out (by kernel_rfl)) (fun _ _ _ h => h) (Or.inr ⟨by rfl, rfl⟩) ?_ ?_
                 rotate_left
                 ·simp only [Act.put, List.setIfInBounds_toArray, List.set_cons_zero, List.set_cons_succ, i64_w, i32_w]
                  rfl
                 refine pure_ (i := 13) (N := some 118) (v := undef) (a' := ?_) #[true, true, true, true, true, true, true, true, true, true, true, true, true, true, false, false, false, false] rfl rfl (any_of HT_.out (by kernel_rfl)) (fun _ _ _ h => h) (Or.inr ⟨by rfl, rfl⟩) ?_ ?_
                 rotate_left
                 ·simp only [Act.put, List.setIfInBounds_toArray, List.set_cons_zero, List.set_cons_succ, i64_w, i32_w]
                  rfl
                 refine pure_ (i := 14) (N := some 119) (v := undef) (a' := ?_) #[true, true, true, true, true, true, true, true, true, true, true, true, true, true, true, false, false, false] rfl rfl (any_of HT_.out (by kernel_rfl)) (fun _ _ _ h => h) (Or.inr ⟨by rfl, rfl⟩) ?_ ?_
                 rotate_left
                 ·simp only [Act.put, List.setIfInBounds_toArray, List.set_cons_zero, List.set_cons_succ, i64_w, i32_w]
                  rfl
                 refine pure_ (i := 15) (N := some 120) (v := undef) (a' := ?_) #[true, true, true, true, true, true, true, true, true, true, true, true, true, true, true, true, false, false] rfl rfl (any_of HT_.out (by kernel_rfl)) (fun _ _ _ h => h) (Or.inr ⟨by rfl, rfl⟩) ?_ ?_
                 rotate_left
                 ·simp only [Act.put, List.setIfInBounds_toArray, List.set_cons_zero, List.set_cons_succ, i64_w, i32_w]
                  rfl
                 refine purM (i := 16) (N := some 121) #[true, true, true, true, true, true, true, true, true, true, true, true, true, true, true, true, true, false] ?_
                 refine purM (i := 17) (N := some 122) #[true, true, true, true, true, true, true, true, true, true, true, true, true, true, true, true, true, true] ?_
                 refine done_ (done_of HT_.out (by kernel_rfl)) ?_
                 try go_wp2
                 go_roundg k4
                 case measure => have := HJ2.out; have := HJ15.out; have := HJ21.out; have := HK4.out; omega
                 case rel => exact ⟨(wrap64 (x12_4 + 1)), rs, H', ⟨by have := HJ2.out; have := HJ15.out; have := HJ21.out; have := HK4.out; omega⟩, ⟨kr HO_5⟩, ⟨kr HO_7⟩, ⟨kr HO_9⟩, ⟨bl HB⟩⟩
              ·rw [if_neg c43] at H
               exact absurd H (by simp)
             ·rw [if_neg c42] at H
              exact absurd H (by simp)
            ·rw [if_neg c41] at H
             have c41b0 : decide (x12_4 < (l0.length : Int)) = false := decide_eq_false c41
             clear c41
             replace H := Option.bind_eq_some_iff.mp H
             obtain ⟨t613, A660, H⟩ := H
             replace H : (if t613 = 0 then (if t600 = 0 then (schismalaw13_SizeIntervals.j4 k4 l1 t599 ((t599.length : Int) != (l1.length : Int))) else (schismalaw13_SizeIntervals.j4 k4 l1 t599 true)) else (if (t599.length : Int) = 0 then (some (t600 == t613)) else (some false))) = some r := H
             have A66 := Aside0.mk A660
             clear A660
             by_cases c67 : t613 = 0
             ·rw [if_pos c67] at H
              have c67b0 : (t613 == 0) = true := beq_iff_eq.mpr c67
              have c67b1 : (t613 != 0) = false := bne_eq_false_iff_eq.mpr c67
              clear c67
              have HC68 := Aside0.mk H
              clear H
              go_upto_region 19 with (first | ((with_reducible refine gate_callee (f := 41) rfl ?_); refine goesM (some 125) Tryz.func41 #[.slice A0 l0.length c0, .slice A1 l1.length c1] ?_; (with_reducible refine (monzo_Check.calls k4 _ _ l0 (fun k_ => k_ < w.heap.size) _ _ l1 t613 _ ?side1 ?side2 ?side3 A66.out).mono ?_); (case side1 => repeat (first | exact (Kd.C_below HR0.out HB.out) | (with_reducible refine Kd.C_alloc ?_ _) | (with_reducible refine Kd.C_drewN ?_ _) | (with_reducible refine Kd.C_drew ?_))); (case side2 => exact HC0.out); (case side3 => exact Kd.V_mk HC1.out (Kd.F_below (Kd.C_F (Kd.heap_int .i64) HR1.out) (bl HB))); rintro e w69 ⟨rfl, hb⟩; refine ⟨_, rfl, ?_⟩; replace HO_5 := Aside0.mk (Kd.R_below (kr HO_5) hb); replace HO_7 := Aside0.mk (Kd.R_below (kr HO_7) hb); replace HO_9 := Aside0.mk (Kd.R_below (kr HO_9) hb); replace HB := Aside0.mk (below_step (bl HB) hb); (try clear hb); (try clear hb2); (try clear hk); (try clear hi)))
              (try simp only [Act.put, List.setIfInBounds_toArray, List.set_cons_zero, List.set_cons_succ])
              go_cut [144] (fun v144 wc => ∃ (kq : Nat) (x144_67 : Bool), v144 = .bool x144_67 ∧ Aside0 (schismalaw13_SizeIntervals.j4 kq l1 t599 x144_67 = some r) ∧ Aside0 (kq ≤ k4) ∧ Aside0 (Kd.R k30 30 wc w.heap.size (fun _ => True) v601 t599) ∧ Aside0 (Below w.heap.size w wc))
              case first =>
               have H := HC68.out
               clear HC68
               by_cases c70 : t600 = 0
               ·rw [if_pos c70] at H
                have c70b0 : (t600 == 0) = true := beq_iff_eq.mpr c70
                have c70b1 : (t600 != 0) = false := bne_eq_false_iff_eq.mpr c70
                clear c70
                (first | rw [c70b0] | (simp only [i64_w, i32_w]; rw [c70b0]) | skip)
                have H' := Aside0.mk H
                clear H
                obtain ⟨Ao71, co71, eo71⟩ := Kd.R_slice HO_9.out
                subst eo71
                go_wp2
                go_meet
                case rel => exact ⟨_, (((t599.length : Int) != (l1.length : Int))), rs, H', ⟨by have := HJ2.out; have := HJ15.out; have := HJ21.out; have := HK4.out; first | omega | exact Nat.le_refl _⟩, ⟨by (with_reducible repeat (first | apply Kd.R_alloc | apply Kd.R_drewN | apply Kd.R_drew)); exact Kd.R_mono HO_9.out (fun _ hk => trivial)⟩, ⟨bl HB⟩⟩
               ·rw [if_neg c70] at H
                have c70b0 : (t600 == 0) = false := beq_eq_false_iff_ne.mpr c70
                have c70b1 : (t600 != 0) = true := bne_iff_ne.mpr c70
                (first | rw [c70b0] | (simp only [i64_w, i32_w]; rw [c70b0]) | skip)
                have H' := Aside0.mk H
                clear H
                go_wp2
                go_meet
                case rel => exact ⟨_, (true), rs, H', ⟨by have := HJ2.out; have := HJ15.out; have := HJ21.out; have := HK4.out; first | omega | exact Nat.le_refl _⟩, ⟨by (with_reducible repeat (first | apply Kd.R_alloc | apply Kd.R_drewN | apply Kd.R_drew)); exact Kd.R_mono HO_9.out (fun _ hk => trivial)⟩, ⟨bl HB⟩⟩
              case rest =>
               clear HC68
               try clear c1
               try clear p2
               try clear c4
               try clear c5
               try clear c6
               try clear p6
               try clear q6
               try clear hx6
               try clear c7
               try clear c18
               try clear c41
               try clear c41b0
               try clear c42
               try clear c43
               try clear c49
               try clear c49b0
               try clear c50
               try clear c52
               try clear c52b0
               try clear p60
               try clear q60
               try clear hx60
               try clear p61
               try clear q61
               try clear hx61
               try clear p64
               try clear c67
               try clear c67b0
               try clear c67b1
               try clear c70
               try clear c70b0
               try clear c70b1
               try clear hx607_0
               try clear hx607_1
               try clear hx610_0
               try clear hx610_1
               try clear p607
               try clear p610
               try clear q607
               try clear q610
               obtain ⟨kq, x144_67, rfl, HA, HJ67, HO_9, HB⟩ := hcut
               cases kq with
               | zero => exact absurd HA.out (by simp [schismalaw13_SizeIntervals.j4])
               | succ kj67 =>
                have H := HA.out
                clear HA
                simp only [schismalaw13_SizeIntervals.j4] at H
                by_cases c72 : x144_67 = true
                ·subst c72
                 have H1 : (some false) = some r := by rw [if_pos rfl] at H; exact H
                 clear H
                 have H := H1
                 clear H1
                 obtain rfl := Option.some.inj H
                 go_wp2
                 go_ret
                 exact ⟨rl, bl HB⟩
                ·replace c72 := Bool.eq_false_iff.mpr c72
                 subst c72
                 have H1 : (schismalaw13_SizeIntervals.l1 kj67 l1 t599 0) = some r := by rw [if_neg (show ¬ (false = true) by decide)] at H; exact H
                 clear H
                 have H := H1
                 clear H1
                 have H' := Aside0.mk H
                 clear H
                 go_wp2
                 go_loopg [14] kj67 (fun kq v14 w' => ∃ (x14_6 : Int), v14 = .int .i64 x14_6 ∧ Aside0 (schismalaw13_SizeIntervals.l1 kq l1 t599 x14_6 = some r) ∧ Aside0 (kq ≤ kj67) ∧ Aside0 (Kd.R k30 30 w' w.heap.size (fun _ => True) v601 t599) ∧ Aside0 (Below w.heap.size w w'))
                 case atStart => exact ⟨(0), rs, H', ⟨Nat.le_refl _⟩, ⟨kr HO_9⟩, ⟨bl HB⟩⟩
                 case round =>
                  clear H'
                  try clear c1
                  try clear p2
                  try clear c4
                  try clear c5
                  try clear c6
                  try clear p6
                  try clear q6
                  try clear hx6
                  try clear c7
                  try clear c18
                  try clear c41
                  try clear c41b0
                  try clear c42
                  try clear c43
                  try clear c49
                  try clear c49b0
                  try clear c50
                  try clear c52
                  try clear c52b0
                  try clear p60
                  try clear q60
                  try clear hx60
                  try clear p61
                  try clear q61
                  try clear hx61
                  try clear p64
                  try clear c67
                  try clear c67b0
                  try clear c67b1
                  try clear c70
                  try clear c70b0
                  try clear c70b1
                  try clear c72
                  try clear hx607_0
                  try clear hx607_1
                  try clear hx610_0
                  try clear hx610_1
                  try clear p2
                  try clear p6
                  try clear p60
                  try clear p607
                  try clear p61
                  try clear p610
                  try clear p64
                  try clear q6
                  try clear q60
                  try clear q607
                  try clear q61
                  try clear q610
                  obtain ⟨x14_6, rfl, HA, HK6, HO_9, HB⟩ := hrel
                  cases gk with
                  | zero => exact absurd HA.out (by simp [schismalaw13_SizeIntervals.l1])
                  | succ k6 =>
                   have H := HA.out
                   clear HA
                   simp only [schismalaw13_SizeIntervals.l1] at H
                   by_cases c73 : x14_6 < (l1.length : Int)
                   ·rw [if_pos c73] at H
                    have c73b0 : decide (x14_6 < (l1.length : Int)) = true := decide_eq_true c73
                    clear c73
                    by_cases c74 : 0 ≤ x14_6
                    ·rw [if_pos c74] at H
                     have c74b0 : decide (0 ≤ x14_6) = true := decide_eq_true c74
                     clear c74
                     by_cases c75 : x14_6 < (t599.length : Int)
                     ·rw [if_pos c75] at H
                      have c75b0 : decide (x14_6 < (t599.length : Int)) = true := decide_eq_true c75
                      clear c75
                      replace H := Option.bind_eq_some_iff.mp H
                      obtain ⟨⟨t616, t617⟩, A760, H⟩ := H
                      replace H : (if (!((((rd_T30 t599 x14_6).f0).toList) == t616.toList) || (!((((rd_T30 t599 x14_6).f1).toList) == t617.toList))) = true then (some false) else (schismalaw13_SizeIntervals.l1 k6 l1 t599 (wrap64 (x14_6 + 1)))) = some r := H
                      have A76 := Aside0.mk A760
                      clear A760
                      by_cases c77 : (!((((rd_T30 t599 x14_6).f0).toList) == t616.toList) || (!((((rd_T30 t599 x14_6).f1).toList) == t617.toList))) = true
                      ·rw [if_pos c77] at H
                       have c77b0 : (!((((rd_T30 t599 x14_6).f0).toList) == t616.toList) || (!((((rd_T30 t599 x14_6).f1).toList) == t617.toList))) = true := c77
                       clear c77
                       obtain rfl := Option.some.inj H
                       try go_wp2
                       replace HO_9 := Aside0.mk (Kd.R_drew HO_9.out)
                       replace HB := Aside0.mk (below_drew1 HB.out)
                       obtain ⟨Ao79, co79, eo79⟩ := Kd.R_slice HO_9.out
                       (first | subst eo79 | (injection eo79 with f1_ f2_ f3_; have f4_ := f1_.symm; have f5_ := f3_.symm; clear f1_ f2_ f3_; subst f4_; subst f5_))
                       have p614 : 0 ≤ (x14_6 : Int) := of_decide_eq_true (by first | (with_reducible assumption) | assumption)
                       have q614 : x14_6 < (t599.length : Int) := of_decide_eq_true (by first | (with_reducible assumption) | assumption)
                       (try (obtain ⟨Aq_, cq_, eq_⟩ := Kd.R_slice HO_9.out; subst eq_))
                       obtain ⟨ad614, e614, hx614_0, hx614_1⟩ := at_T30 (Kd.R_reads' HO_9.out).2.2 x14_6 p614 q614
                       cases e614
                       replace p614 := eq_true p614
                       replace q614 := eq_true q614
                       have p615 : 0 ≤ (x14_6 : Int) := of_decide_eq_true (by first | (with_reducible assumption) | assumption)
                       have q615 : x14_6 < (l1.length : Int) := of_decide_eq_true (by first | (with_reducible assumption) | assumption)
                       obtain ⟨ad615, e615, hx615_0⟩ := Kd.at_int HR1.out x14_6 p615 q615
                       have hw615_0 := hx615_0
                       cases e615
                       replace hx615_0 := (HB.out.cell (World.block_lt_of_cell? w _ hx615_0)).trans hx615_0
                       replace p615 := eq_true p615
                       replace q615 := eq_true q615
                       refine start_ (n := 10) (S := fun w' => w'.cell? (ad614.add ((x14_6).toNat * 2)) = some (.string ((rd_T30 t599 x14_6).f0)) ∧ w'.cell? ⟨(ad614.add ((x14_6).toNat * 2)).block, (ad614.add ((x14_6).toNat * 2)).off + 1, none⟩ = some (.string ((rd_T30 t599 x14_6).f1)) ∧ w'.cell? (ad615.add (x14_6).toNat) = some (.int .i64 (rd l1 x14_6))) (ds := []) #[false, false, false, false, false, false, false, false, false, false] (by kernel_rfl) rfl rfl ⟨hx614_0, hx614_1, ((HB.out.cell (World.block_lt_of_cell? w _ hw615_0)).trans hw615_0)⟩ (fun hHeld => ?_); refine with_tabW schismalaw13_SizeIntervals.tab24 schismalaw13_SizeIntervals.bits24 (fun HT_ HW_ => ?_)
                       generalize wr.drew = w78 at HO_9 HB hx614_0 hx614_1 hx615_0 hHeld ⊢
                       refine purM (i := 0) (N := some 151) #[true, false, false, false, false, false, false, false, false, false] ?_
                       refine purM (i := 1) (N := some 152) #[true, true, false, false, false, false, false, false, false, false] ?_
                       refine purM (i := 2) (N := some 153) #[true, true, true, false, false, false, false, false, false, false] ?_
                       refine purM (i := 4) (N := some 155) #[true, true, true, false, true, false, false, false, false, false] ?_
                       refine purM (i := 5) (N := some 156) #[true, true, true, false, true, true, false, false, false, false] ?_
                       refine purM (i := 6) (N := some 157) #[true, true, true, false, true, true, true, false, false, false] ?_
                       refine take_ (i := 3) (N := some 154) (v := ?_) (a' := ?_) #[true, true, true, true, true, true, true, false, false, false] rfl rfl (take_ofW HT_.out HW_.out (by kernel_rfl)) (fun _ _ _ h => h) (Or.inl ⟨by rfl, ?_⟩) hHeld ?_ ?_
                       rotate_left
                       ·rintro w' ⟨s0, s1, s2⟩
                        go_simp
                        with_reducible rfl
                       rotate_left
                       ·simp only [Act.put, List.setIfInBounds_toArray, List.set_cons_zero, List.set_cons_succ, i64_w, i32_w]
                        rfl
                       refine take_ (i := 7) (N := some 158) (v := ?_) (a' := ?_) #[true, true, true, true, true, true, true, true, false, false] rfl rfl (take_ofW HT_.out HW_.out (by kernel_rfl)) (fun _ _ _ h => h) (Or.inl ⟨by rfl, ?_⟩) hHeld ?_ ?_
                       rotate_left
                       ·rintro w' ⟨s0, s1, s2⟩
                        go_simp
                        with_reducible rfl
                       rotate_left
                       ·simp only [Act.put, List.setIfInBounds_toArray, List.set_cons_zero, List.set_cons_succ, i64_w, i32_w]
                        rfl
                       refine one_ (i := 8) (N := some 159) #[true, true, true, true, true, true, true, true, true, false] rfl rfl (one_of HT_.out (by kernel_rfl)) (by decide) (fun K hK => ?_)
                       refine goesR Tryz.func18 #[.int .i64 (rd l1 x14_6), .int .i64 1] ?_
                       with_reducible refine (schismalaw13_part.calls k6 (rd l1 x14_6) 1 t616 t617 _ ?side1 A76.out).mono ?_
                       (case side1 => exact Glob.below HG0.out (bl HB))
                       rintro e w80 ⟨rfl, hb⟩
                       have HS0_ := (hb.cell (World.block_lt_of_cell? _ _ (hHeld.1))).trans (hHeld.1)
                       have HS1_ := (hb.cell (World.block_lt_of_cell? _ _ (hHeld.2.1))).trans (hHeld.2.1)
                       refine ⟨_, rfl, ?_⟩
                       replace HO_9 := Aside0.mk (Kd.R_below (kr HO_9) hb)
                       replace HB := Aside0.mk (below_step (bl HB) hb)
                       (try clear hb)
                       (try clear hb2)
                       (try clear hk)
                       (try clear hi)
                       refine hK.out _ _ ⟨HS0_, HS1_, ((HB.out.cell (World.block_lt_of_cell? w _ hw615_0)).trans hw615_0)⟩ (fun hHeld => ?_)
                       clear hK K
                       refine norm_ (a' := ?_) ?_ ?_
                       rotate_left
                       ·show Act.put _ (some 159) _ = _
                        simp only [Act.put, List.setIfInBounds_toArray, List.set_cons_zero, List.set_cons_succ, i64_w, i32_w]
                        rfl
                       refine purM (i := 9) (N := some 160) #[true, true, true, true, true, true, true, true, true, true] ?_
                       refine done_ (done_of HT_.out (by kernel_rfl)) ?_
                       try go_wp2
                       go_ret
                       exact ⟨rl, bl HB⟩
                      ·rw [if_neg c77] at H
                       have c77b0 : (!((((rd_T30 t599 x14_6).f0).toList) == t616.toList) || (!((((rd_T30 t599 x14_6).f1).toList) == t617.toList))) = false := by simpa using c77
                       clear c77
                       have H' := Aside0.mk H
                       clear H
                       try go_wp2
                       replace HO_9 := Aside0.mk (Kd.R_drew HO_9.out)
                       replace HB := Aside0.mk (below_drew1 HB.out)
                       obtain ⟨Ao82, co82, eo82⟩ := Kd.R_slice HO_9.out
                       (first | subst eo82 | (injection eo82 with f1_ f2_ f3_; have f4_ := f1_.symm; have f5_ := f3_.symm; clear f1_ f2_ f3_; subst f4_; subst f5_))
                       have p614 : 0 ≤ (x14_6 : Int) := of_decide_eq_true (by first | (with_reducible assumption) | assumption)
                       have q614 : x14_6 < (t599.length : Int) := of_decide_eq_true (by first | (with_reducible assumption) | assumption)
                       (try (obtain ⟨Aq_, cq_, eq_⟩ := Kd.R_slice HO_9.out; subst eq_))
                       obtain ⟨ad614, e614, hx614_0, hx614_1⟩ := at_T30 (Kd.R_reads' HO_9.out).2.2 x14_6 p614 q614
                       cases e614
                       replace p614 := eq_true p614
                       replace q614 := eq_true q614
                       have p615 : 0 ≤ (x14_6 : Int) := of_decide_eq_true (by first | (with_reducible assumption) | assumption)
                       have q615 : x14_6 < (l1.length : Int) := of_decide_eq_true (by first | (with_reducible assumption) | assumption)
                       obtain ⟨ad615, e615, hx615_0⟩ := Kd.at_int HR1.out x14_6 p615 q615
                       have hw615_0 := hx615_0
                       cases e615
                       replace hx615_0 := (HB.out.cell (World.block_lt_of_cell? w _ hx615_0)).trans hx615_0
                       replace p615 := eq_true p615
                       replace q615 := eq_true q615
                       refine start_ (n := 10) (S := fun w' => w'.cell? (ad614.add ((x14_6).toNat * 2)) = some (.string ((rd_T30 t599 x14_6).f0)) ∧ w'.cell? ⟨(ad614.add ((x14_6).toNat * 2)).block, (ad614.add ((x14_6).toNat * 2)).off + 1, none⟩ = some (.string ((rd_T30 t599 x14_6).f1)) ∧ w'.cell? (ad615.add (x14_6).toNat) = some (.int .i64 (rd l1 x14_6))) (ds := []) #[false, false, false, false, false, false, false, false, false, false] (by kernel_rfl) rfl rfl ⟨hx614_0, hx614_1, ((HB.out.cell (World.block_lt_of_cell? w _ hw615_0)).trans hw615_0)⟩ (fun hHeld => ?_); refine with_tabW schismalaw13_SizeIntervals.tab24 schismalaw13_SizeIntervals.bits24 (fun HT_ HW_ => ?_)
                       generalize wr.drew = w81 at HO_9 HB hx614_0 hx614_1 hx615_0 hHeld ⊢
                       refine purM (i := 0) (N := some 151) #[true, false, false, false, false, false, false, false, false, false] ?_
                       refine purM (i := 1) (N := some 152) #[true, true, false, false, false, false, false, false, false, false] ?_
                       refine purM (i := 2) (N := some 153) #[true, true, true, false, false, false, false, false, false, false] ?_
                       refine purM (i := 4) (N := some 155) #[true, true, true, false, true, false, false, false, false, false] ?_
                       refine purM (i := 5) (N := some 156) #[true, true, true, false, true, true, false, false, false, false] ?_
                       refine purM (i := 6) (N := some 157) #[true, true, true, false, true, true, true, false, false, false] ?_
                       refine take_ (i := 3) (N := some 154) (v := ?_) (a' := ?_) #[true, true, true, true, true, true, true, false, false, false] rfl rfl (take_ofW HT_.out HW_.out (by kernel_rfl)) (fun _ _ _ h => h) (Or.inl ⟨by rfl, ?_⟩) hHeld ?_ ?_
                       rotate_left
                       ·rintro w' ⟨s0, s1, s2⟩
                        go_simp
                        with_reducible rfl
                       rotate_left
                       ·simp only [Act.put, List.setIfInBounds_toArray, List.set_cons_zero, List.set_cons_succ, i64_w, i32_w]
                        rfl
                       refine take_ (i := 7) (N := some 158) (v := ?_) (a' := ?_) #[true, true, true, true, true, true, true, true, false, false] rfl rfl (take_ofW HT_.out HW_.out (by kernel_rfl)) (fun _ _ _ h => h) (Or.inl ⟨by rfl, ?_⟩) hHeld ?_ ?_
                       rotate_left
                       ·rintro w' ⟨s0, s1, s2⟩
                        go_simp
                        with_reducible rfl
                       rotate_left
                       ·simp only [Act.put, List.setIfInBounds_toArray, List.set_cons_zero, List.set_cons_succ, i64_w, i32_w]
                        rfl
                       refine one_ (i := 8) (N := some 159) #[true, true, true, true, true, true, true, true, true, false] rfl rfl (one_of HT_.out (by kernel_rfl)) (by decide) (fun K hK => ?_)
                       refine goesR Tryz.func18 #[.int .i64 (rd l1 x14_6), .int .i64 1] ?_
                       with_reducible refine (schismalaw13_part.calls k6 (rd l1 x14_6) 1 t616 t617 _ ?side1 A76.out).mono ?_
                       (case side1 => exact Glob.below HG0.out (bl HB))
                       rintro e w83 ⟨rfl, hb⟩
                       have HS0_ := (hb.cell (World.block_lt_of_cell? _ _ (hHeld.1))).trans (hHeld.1)
                       have HS1_ := (hb.cell (World.block_lt_of_cell? _ _ (hHeld.2.1))).trans (hHeld.2.1)
                       refine ⟨_, rfl, ?_⟩
                       replace HO_9 := Aside0.mk (Kd.R_below (kr HO_9) hb)
                       replace HB := Aside0.mk (below_step (bl HB) hb)
                       (try clear hb)
                       (try clear hb2)
                       (try clear hk)
                       (try clear hi)
                       refine hK.out _ _ ⟨HS0_, HS1_, ((HB.out.cell (World.block_lt_of_cell? w _ hw615_0)).trans hw615_0)⟩ (fun hHeld => ?_)
                       clear hK K
                       refine norm_ (a' := ?_) ?_ ?_
                       rotate_left
                       ·show Act.put _ (some 159) _ = _
                        simp only [Act.put, List.setIfInBounds_toArray, List.set_cons_zero, List.set_cons_succ, i64_w, i32_w]
                        rfl
                       refine purM (i := 9) (N := some 160) #[true, true, true, true, true, true, true, true, true, true] ?_
                       refine done_ (done_of HT_.out (by kernel_rfl)) ?_
                       try go_wp2
                       go_roundg k6
                       case measure => have := HJ2.out; have := HJ15.out; have := HJ21.out; have := HK4.out; have := HJ67.out; have := HK6.out; omega
                       case rel => exact ⟨(wrap64 (x14_6 + 1)), rs, H', ⟨by have := HJ2.out; have := HJ15.out; have := HJ21.out; have := HK4.out; have := HJ67.out; have := HK6.out; omega⟩, ⟨kr HO_9⟩, ⟨bl HB⟩⟩
                     ·rw [if_neg c75] at H
                      exact absurd H (by simp)
                    ·rw [if_neg c74] at H
                     exact absurd H (by simp)
                   ·rw [if_neg c73] at H
                    have c73b0 : decide (x14_6 < (l1.length : Int)) = false := decide_eq_false c73
                    clear c73
                    obtain rfl := Option.some.inj H
                    go_wp2
                    go_ret
                    exact ⟨rl, bl HB⟩
             ·rw [if_neg c67] at H
              have c67b0 : (t613 == 0) = false := beq_eq_false_iff_ne.mpr c67
              have c67b1 : (t613 != 0) = true := bne_iff_ne.mpr c67
              by_cases c84 : (t599.length : Int) = 0
              ·rw [if_pos c84] at H
               have c84b0 : ((t599.length : Int) == 0) = true := beq_iff_eq.mpr c84
               have c84b1 : ((t599.length : Int) != 0) = false := bne_eq_false_iff_eq.mpr c84
               clear c84
               obtain rfl := Option.some.inj H
               go_wp2_with (first | ((with_reducible refine gate_callee (f := 41) rfl ?_); refine goesM (some 125) Tryz.func41 #[.slice A0 l0.length c0, .slice A1 l1.length c1] ?_; (with_reducible refine (monzo_Check.calls k4 _ _ l0 (fun k_ => k_ < w.heap.size) _ _ l1 t613 _ ?side1 ?side2 ?side3 A66.out).mono ?_); (case side1 => repeat (first | exact (Kd.C_below HR0.out HB.out) | (with_reducible refine Kd.C_alloc ?_ _) | (with_reducible refine Kd.C_drewN ?_ _) | (with_reducible refine Kd.C_drew ?_))); (case side2 => exact HC0.out); (case side3 => exact Kd.V_mk HC1.out (Kd.F_below (Kd.C_F (Kd.heap_int .i64) HR1.out) (bl HB))); rintro e w85 ⟨rfl, hb⟩; refine ⟨_, rfl, ?_⟩; replace HO_5 := Aside0.mk (Kd.R_below (kr HO_5) hb); replace HO_7 := Aside0.mk (Kd.R_below (kr HO_7) hb); replace HO_9 := Aside0.mk (Kd.R_below (kr HO_9) hb); replace HB := Aside0.mk (below_step (bl HB) hb); (try clear hb); (try clear hb2); (try clear hk); (try clear hi); obtain ⟨Ao86, co86, eo86⟩ := Kd.R_slice HO_9.out; subst eo86))
               go_ret
               exact ⟨rl, bl HB⟩
              ·rw [if_neg c84] at H
               have c84b0 : ((t599.length : Int) == 0) = false := beq_eq_false_iff_ne.mpr c84
               have c84b1 : ((t599.length : Int) != 0) = true := bne_iff_ne.mpr c84
               have c84b2 : ¬ (t599 = []) := fun h_ => c84 (by rw [h_]; rfl)
               obtain rfl := Option.some.inj H
               go_wp2_with (first | ((with_reducible refine gate_callee (f := 41) rfl ?_); refine goesM (some 125) Tryz.func41 #[.slice A0 l0.length c0, .slice A1 l1.length c1] ?_; (with_reducible refine (monzo_Check.calls k4 _ _ l0 (fun k_ => k_ < w.heap.size) _ _ l1 t613 _ ?side1 ?side2 ?side3 A66.out).mono ?_); (case side1 => repeat (first | exact (Kd.C_below HR0.out HB.out) | (with_reducible refine Kd.C_alloc ?_ _) | (with_reducible refine Kd.C_drewN ?_ _) | (with_reducible refine Kd.C_drew ?_))); (case side2 => exact HC0.out); (case side3 => exact Kd.V_mk HC1.out (Kd.F_below (Kd.C_F (Kd.heap_int .i64) HR1.out) (bl HB))); rintro e w87 ⟨rfl, hb⟩; refine ⟨_, rfl, ?_⟩; replace HO_5 := Aside0.mk (Kd.R_below (kr HO_5) hb); replace HO_7 := Aside0.mk (Kd.R_below (kr HO_7) hb); replace HO_9 := Aside0.mk (Kd.R_below (kr HO_9) hb); replace HB := Aside0.mk (below_step (bl HB) hb); (try clear hb); (try clear hb2); (try clear hk); (try clear hi); obtain ⟨Ao88, co88, eo88⟩ := Kd.R_slice HO_9.out; subst eo88))
               go_ret
               exact ⟨rl, bl HB⟩
      ·rw [if_neg c21] at H
       have c21b0 : (x11_15 == 0) = false := beq_eq_false_iff_ne.mpr c21
       have c21b1 : (x11_15 != 0) = true := bne_iff_ne.mpr c21
       by_cases c89 : (wrap64 ((wrap64 ((t591.length : Int) + (t595.length : Int))) + (t599.length : Int))) = 0
       ·rw [if_pos c89] at H
        have c89b0 : ((wrap64 ((wrap64 ((t591.length : Int) + (t595.length : Int))) + (t599.length : Int))) == 0) = true := beq_iff_eq.mpr c89
        have c89b1 : ((wrap64 ((wrap64 ((t591.length : Int) + (t595.length : Int))) + (t599.length : Int))) != 0) = false := bne_eq_false_iff_eq.mpr c89
        clear c89
        by_cases c90 : t592 = x11_15
        ·rw [if_pos c90] at H
         have c90b0 : (t592 == x11_15) = true := beq_iff_eq.mpr c90
         have c90b1 : (t592 != x11_15) = false := bne_eq_false_iff_eq.mpr c90
         clear c90
         by_cases c91 : t596 = x11_15
         ·rw [if_pos c91] at H
          have c91b0 : (t596 == x11_15) = true := beq_iff_eq.mpr c91
          have c91b1 : (t596 != x11_15) = false := bne_eq_false_iff_eq.mpr c91
          clear c91
          obtain rfl := Option.some.inj H
          obtain ⟨Ao92, co92, eo92⟩ := Kd.R_slice HO_5.out
          subst eo92
          obtain ⟨Ao93, co93, eo93⟩ := Kd.R_slice HO_7.out
          subst eo93
          obtain ⟨Ao94, co94, eo94⟩ := Kd.R_slice HO_9.out
          subst eo94
          go_wp2
          go_ret
          exact ⟨rl, bl HB⟩
         ·rw [if_neg c91] at H
          have c91b0 : (t596 == x11_15) = false := beq_eq_false_iff_ne.mpr c91
          have c91b1 : (t596 != x11_15) = true := bne_iff_ne.mpr c91
          obtain rfl := Option.some.inj H
          obtain ⟨Ao95, co95, eo95⟩ := Kd.R_slice HO_5.out
          subst eo95
          obtain ⟨Ao96, co96, eo96⟩ := Kd.R_slice HO_7.out
          subst eo96
          obtain ⟨Ao97, co97, eo97⟩ := Kd.R_slice HO_9.out
          subst eo97
          go_wp2
          go_ret
          exact ⟨rl, bl HB⟩
        ·rw [if_neg c90] at H
         have c90b0 : (t592 == x11_15) = false := beq_eq_false_iff_ne.mpr c90
         have c90b1 : (t592 != x11_15) = true := bne_iff_ne.mpr c90
         obtain rfl := Option.some.inj H
         obtain ⟨Ao98, co98, eo98⟩ := Kd.R_slice HO_5.out
         subst eo98
         obtain ⟨Ao99, co99, eo99⟩ := Kd.R_slice HO_7.out
         subst eo99
         obtain ⟨Ao100, co100, eo100⟩ := Kd.R_slice HO_9.out
         subst eo100
         go_wp2
         go_ret
         exact ⟨rl, bl HB⟩
       ·rw [if_neg c89] at H
        have c89b0 : ((wrap64 ((wrap64 ((t591.length : Int) + (t595.length : Int))) + (t599.length : Int))) == 0) = false := beq_eq_false_iff_ne.mpr c89
        have c89b1 : ((wrap64 ((wrap64 ((t591.length : Int) + (t595.length : Int))) + (t599.length : Int))) != 0) = true := bne_iff_ne.mpr c89
        obtain rfl := Option.some.inj H
        obtain ⟨Ao101, co101, eo101⟩ := Kd.R_slice HO_5.out
        subst eo101
        obtain ⟨Ao102, co102, eo102⟩ := Kd.R_slice HO_7.out
        subst eo102
        obtain ⟨Ao103, co103, eo103⟩ := Kd.R_slice HO_9.out
        subst eo103
        go_wp2
        go_ret
        exact ⟨rl, bl HB⟩
def schismalaw13_SizeIntervals.Pure : Prop := ∀ (l0 : List Int) (l1 : List Int), l0.length ≤ maxLen → l0.length * 8 ≤ 140737488351232 → (∀ x ∈ l0, (Lit.int .i64 x).wf = true) → l1.length ≤ maxLen → l1.length * 8 ≤ 140737488351232 → (∀ x ∈ l1, (Lit.int .i64 x).wf = true) → ∃ k, schismalaw13_SizeIntervals.f k l0 l1 = some true
theorem schismalaw13_SizeIntervals.walk (P : schismalaw13_SizeIntervals.Pure) (a0 : Option Addr) (len0 cap0 : Nat) (z0 : List Int) (a1 : Option Addr) (len1 cap1 : Nat) (z1 : List Int) (w : World) (hG : Glob w) (w0 : (a0 = none ∧ len0 = 0 ∧ cap0 = 0 ∧ z0 = []) ∨ ∃ x, a0 = some x ∧ len0 ≤ cap0 ∧ cap0 ≤ maxLen ∧ z0.length = cap0 ∧ (∀ i, i < z0.length → w.cell? (x.add i) = some (.int .i64 (z0.getD i 0))) ∧ ∀ n ∈ z0, (Lit.int .i64 n).wf = true) (y0 : len0 * 8 ≤ 140737488351232) (w1 : (a1 = none ∧ len1 = 0 ∧ cap1 = 0 ∧ z1 = []) ∨ ∃ x, a1 = some x ∧ len1 ≤ cap1 ∧ cap1 ≤ maxLen ∧ z1.length = cap1 ∧ (∀ i, i < z1.length → w.cell? (x.add i) = some (.int .i64 (z1.getD i 0))) ∧ ∀ n ∈ z1, (Lit.int .i64 n).wf = true) (y1 : len1 * 8 ≤ 140737488351232) :
  Calls Tryz.prog 8 #[.slice a0 len0 cap0, .slice a1 len1 cap1] w fun e w' => e = .returned (.bool true) ∧ Below w.heap.size w w' := by
 obtain ⟨l0, rfl, hr0, hm0, hw0, hc0⟩ := ReadsInt.ofRowC w0
 obtain ⟨l1, rfl, hr1, hm1, hw1, hc1⟩ := ReadsInt.ofRowC w1
 obtain ⟨k, h⟩ := P l0 l1 hm0 y0 hw0 hm1 y1 hw1
 refine (schismalaw13_SizeIntervals.calls k _ _ l0 _ _ l1 true w hG (Kd.C_of_reads (d := (0 : Int)) (h1 := fun _ => rfl) hr0) hc0 (Kd.C_of_reads (d := (0 : Int)) (h1 := fun _ => rfl) hr1) hc1 h).mono ?_
 rintro e w' ⟨rfl, hd⟩
 exact ⟨rfl, hd⟩
end Go.Proofs.YtailoobjgbldgaaGreatDoor.P
end
