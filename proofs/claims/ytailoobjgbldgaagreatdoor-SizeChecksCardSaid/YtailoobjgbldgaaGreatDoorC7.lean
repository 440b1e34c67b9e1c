/- Part 7 of the proof: functions' contracts and what they lean on. -/
import Derived.Test.YtailoobjgbldgaaGreatDoorC6
section
namespace Go.Proofs.YtailoobjgbldgaaGreatDoor.P
open Go.RowKit Go.Proofs.YtailoobjgbldgaaGreatDoorW.PrintWords Go.Proofs.YtailoobjgbldgaaGreatDoorW.PrintLast Go.Proofs.YtailoobjgbldgaaGreatDoorW.PrintMore
attribute [local go_sem] max2_int min2_int max_two min_two max_three min_three max_four min_four   
set_option linter.unusedVariables false
set_option linter.unusedSimpArgs false
set_option maxHeartbeats 8000000
set_option maxRecDepth 100000
mutual
def fraction_Add.j0 : Nat → Bool → ByteArray → ByteArray → ByteArray → ByteArray → Option (ByteArray × ByteArray)
 | 0, _, _, _, _, _ => none
 | k + 1, x18, x348000, x348001, x349000, x349001 => if x18 = true then ((whole_Add.f k x348000 x349000).bind fun t350 => (some (t350, (⟨#[49]⟩ : ByteArray)))) else ((fraction_both.f x348000 x348001).bind fun bt351 => (fraction_Add.j1 k bt351.1 bt351.2.1 bt351.2.2 x349000 x349001))
def fraction_Add.j1 : Nat → Int → Int → Bool → ByteArray → ByteArray → Option (ByteArray × ByteArray)
 | 0, _, _, _, _, _ => none
 | k + 1, x5, x6, x7, x349000, x349001 => if x7 = true then ((fraction_both.f x349000 x349001).bind fun bt354 => (if bt354.2.2 = true then ((fraction_of.f k (wrap64 ((wrap64 (x5 * bt354.2.1)) + (wrap64 (bt354.1 * x6)))) (wrap64 (x6 * bt354.2.1))).bind fun bt357 => (some (bt357.1, bt357.2))) else (fraction_Add.j2 k))) else (fraction_Add.j2 k)
def fraction_Add.j2 : Nat → Option (ByteArray × ByteArray)
 | 0 => none
 | k + 1 => none
end
def fraction_Add.f (k : Nat) (a0_0 : ByteArray) (a0_1 : ByteArray) (a1_0 : ByteArray) (a1_1 : ByteArray) : Option (ByteArray × ByteArray) := if a0_1.toList = ([49] : List UInt8) then (fraction_Add.j0 k (a1_1.toList == ([49] : List UInt8)) a0_0 a0_1 a1_0 a1_1) else (fraction_Add.j0 k false a0_0 a0_1 a1_0 a1_1)
theorem fraction_Add.calls (k : Nat) (a0_0 : ByteArray) (a0_1 : ByteArray) (a1_0 : ByteArray) (a1_1 : ByteArray) (r1 : ByteArray) (r2 : ByteArray) (w : World) (hG : Glob w) (h : fraction_Add.f k a0_0 a0_1 a1_0 a1_1 = some (r1, r2)) :
  Calls Tryz.prog 60 #[.agg #[.string a0_0, .string a0_1], .agg #[.string a1_0, .string a1_1]] w fun e w' => e = .returned (.agg #[.string r1, .string r2]) ∧ Below w.heap.size w w' := by
 have hu30 := Tryz.underlying30
 have HG0 := am hG
 clear hG
 have HB := am (Below.refl w.heap.size w)
 have H := h
 unfold fraction_Add.f at H
 clear h
 have HC3 := am H
 clear H
 go_enter Tryz.func60, Tryz.ntmps60
 go_upto_region 1 with (first | ((with_reducible refine gd (N := 2) rfl ?_); refine boxM (N := 2) #[.string a0_0, .string a0_1] 30 ?_; intro gb347 hg w4 hbox hb; have BK347 := am (hbox); have GW347 := gw hg HB; have GE347 := GW347; replace HB := bs HB hb; clear hb hbox hg) | ((with_reducible refine gd (N := 3) rfl ?_); refine boxM (N := 3) #[.string a1_0, .string a1_1] 30 ?_; intro gb348 hg w5 hbox hb; have BK348 := am (hbox); have GW348 := gw hg HB; have GE348 := GW348; replace HB := bs HB hb; have NB347_348 := nl hg BK347; have NB348_347 := ng hg BK347; replace BK347 := kb BK347 hb; clear hb hbox hg) | ((with_reducible refine gd (N := 4) rfl ?_); refine boxM (N := 4) #[.string (⟨#[]⟩ : ByteArray), .string (⟨#[]⟩ : ByteArray)] 30 ?_; intro gb349 hg w6 hbox hb; have BK349 := am (hbox); have GW349 := gw hg HB; have GE349 := GW349; replace HB := bs HB hb; have NB347_349 := nl hg BK347; have NB349_347 := ng hg BK347; replace BK347 := kb BK347 hb; have NB348_349 := nl hg BK348; have NB349_348 := ng hg BK348; replace BK348 := kb BK348 hb; clear hb hbox hg))
 (try simp only [Act.put, List.setIfInBounds_toArray, List.set_cons_zero, List.set_cons_succ])
 go_cut [18] (fun v18 wc => ∃ (kq : Nat) (x18_2 : Bool), v18 = .bool x18_2 ∧ Aside0 (fraction_Add.j0 kq x18_2 a0_0 a0_1 a1_0 a1_1 = some (r1, r2)) ∧ Aside0 (kq ≤ k) ∧ Aside0 (wc.heap[gb347]? = some (.cells #[.string a0_0, .string a0_1] 30 (0, 0))) ∧ Aside0 (wc.heap[gb348]? = some (.cells #[.string a1_0, .string a1_1] 30 (0, 0))) ∧ Aside0 (wc.heap[gb349]? = some (.cells #[.string (⟨#[]⟩ : ByteArray), .string (⟨#[]⟩ : ByteArray)] 30 (0, 0))) ∧ Aside0 (Below w.heap.size w wc))
 case first =>
  have H := HC3.out
  clear HC3
  by_cases c7 : a0_1.toList = ([49] : List UInt8)
  ·rw [if_pos c7] at H
   have c7b0 := beq_iff_eq.mpr c7
   have c7b1 := bne_eq_false_iff_eq.mpr c7
   clear c7
   (first | rw [c7b0] | (simp only [i64_w, i32_w]; rw [c7b0]) | skip)
   have H' := am H
   clear H
   have hnb8 := NB347_348.out
   have hnc8 := NB348_347.out
   have hnb9 := NB347_349.out
   have hnc9 := NB349_347.out
   have hcz10_0 := bc BK347 0 (.string a0_0)
   have hcz10_1 := bc BK347 1 (.string a0_1)
   have hfz10_0 := blk_frozen BK347.out 0
   have hfz10_1 := blk_frozen BK347.out 1
   have hnb11 := NB348_349.out
   have hnc11 := NB349_348.out
   have hcz12_0 := bc BK348 0 (.string a1_0)
   have hcz12_1 := bc BK348 1 (.string a1_1)
   have hfz12_0 := blk_frozen BK348.out 0
   have hfz12_1 := blk_frozen BK348.out 1
   go_wp2
   go_meet
   case rel => exact ⟨_, ((a1_1.toList == ([49] : List UInt8))), rs, H', ⟨by first | omega | exact Nat.le_refl _⟩, ⟨bk BK347⟩, ⟨bk BK348⟩, ⟨bk BK349⟩, ⟨bl HB⟩⟩
  ·rw [if_neg c7] at H
   have c7b0 := beq_eq_false_iff_ne.mpr c7
   have c7b1 := bne_iff_ne.mpr c7
   (first | rw [c7b0] | (simp only [i64_w, i32_w]; rw [c7b0]) | skip)
   have H' := am H
   clear H
   have hnb13 := NB347_348.out
   have hnc13 := NB348_347.out
   have hnb14 := NB347_349.out
   have hnc14 := NB349_347.out
   have hcz15_0 := bc BK347 0 (.string a0_0)
   have hcz15_1 := bc BK347 1 (.string a0_1)
   have hfz15_0 := blk_frozen BK347.out 0
   have hfz15_1 := blk_frozen BK347.out 1
   go_wp2
   go_meet
   case rel => exact ⟨_, (false), rs, H', ⟨by first | omega | exact Nat.le_refl _⟩, ⟨bk BK347⟩, ⟨bk BK348⟩, ⟨bk BK349⟩, ⟨bl HB⟩⟩
 case rest =>
  clear HC3
  try clear c1
  try clear p2
  try clear c6
  try clear c7
  try clear c7b0
  try clear c7b1
  try clear c8
  try clear c9
  try clear c11
  try clear c13
  try clear c14
  try clear hcz10_0
  try clear hcz10_1
  try clear hcz12_0
  try clear hcz12_1
  try clear hcz15_0
  try clear hcz15_1
  try clear hfz10_0
  try clear hfz10_1
  try clear hfz12_0
  try clear hfz12_1
  try clear hfz15_0
  try clear hfz15_1
  obtain ⟨kq, x18_2, rfl, HA, HJ2, BK347, BK348, BK349, HB⟩ := hcut
  cases kq with
  | zero => exact absurd HA.out (by simp [fraction_Add.j0])
  | succ kj2 =>
   have H := HA.out
   clear HA
   simp only [fraction_Add.j0] at H
   by_cases c16 : x18_2 = true
   ·subst c16
    rw [if_pos rfl] at H
    obtain ⟨t350, A17, H⟩ := bo H
    try dsimp only at H
    simp only [Option.some.injEq, Prod.mk.injEq] at H
    obtain ⟨rfl, rfl⟩ := H
    have hnb18 := NB347_348.out
    have hnc18 := NB348_347.out
    have hnb19 := NB347_349.out
    have hnc19 := NB349_347.out
    have hcz20_0 := bc BK347 0 (.string a0_0)
    have hcz20_1 := bc BK347 1 (.string a0_1)
    have hfz20_0 := blk_frozen BK347.out 0
    have hfz20_1 := blk_frozen BK347.out 1
    have hnb21 := NB348_349.out
    have hnc21 := NB349_348.out
    have hcz22_0 := bc BK348 0 (.string a1_0)
    have hcz22_1 := bc BK348 1 (.string a1_1)
    have hfz22_0 := blk_frozen BK348.out 0
    have hfz22_1 := blk_frozen BK348.out 1
    go_wp2_with (first | ((with_reducible refine gc (f := 104) rfl ?_); refine goesM (some 23) Tryz.func104 #[.string a0_0, .string a1_0] ?_; (with_reducible refine (whole_Add.calls kj2 a0_0 a1_0 t350 _ ?s1 A17.out).mono ?_); (case s1 => exact gb HG0 HB); rintro e w23 ⟨rfl, hb⟩; refine ⟨_, rfl, ?_⟩; replace BK347 := kb BK347 hb; replace BK348 := kb BK348 hb; replace BK349 := kb BK349 hb; replace HB := bs HB hb; (try clear hb); have hcz24_0 := bc BK349 0 (.string (⟨#[]⟩ : ByteArray)); have hcz24_1 := bc BK349 1 (.string (⟨#[]⟩ : ByteArray)); have hfz24_0 := blk_frozen BK349.out 0; have hfz24_1 := blk_frozen BK349.out 1))
    refine bodyPost_ret (results_cell_row rfl _ _ gb349 30 #[.string t350, .string (⟨#[49]⟩ : ByteArray)] (0, 0) _ rfl (by (with_reducible repeat (first | refine blk_drewN ?_ _ | refine blk_drew ?_ | refine blk_alloc ?_ _)); refine blk_put (cs := #[.string t350, .string (⟨#[]⟩ : ByteArray)]) ?_ 1 _ rfl; (with_reducible repeat (first | refine blk_drewN ?_ _ | refine blk_drew ?_ | refine blk_alloc ?_ _)); refine blk_put (cs := #[.string (⟨#[]⟩ : ByteArray), .string (⟨#[]⟩ : ByteArray)]) ?_ 0 _ rfl; (with_reducible repeat (first | refine blk_drewN ?_ _ | refine blk_drew ?_ | refine blk_alloc ?_ _)); exact BK349.out) Tryz.underlying30 rfl (by kernel_rfl)) rfl ?_
    exact ⟨rl, bl HB⟩
   ·replace c16 := Bool.eq_false_iff.mpr c16
    subst c16
    rw [if_neg (show ¬ (false = true) by decide)] at H
    have HC25 := am H
    clear H
    go_upto_region 3 with (fail)
    go_cut [5, 6, 7] (fun v5 v6 v7 wc => ∃ (kq : Nat) (x5_24 : Int) (x6_24 : Int) (x7_24 : Bool), v5 = .int .i64 x5_24 ∧ v6 = .int .i64 x6_24 ∧ v7 = .bool x7_24 ∧ Aside0 (fraction_Add.j1 kq x5_24 x6_24 x7_24 a1_0 a1_1 = some (r1, r2)) ∧ Aside0 (kq ≤ kj2) ∧ Aside0 (wc.heap[gb347]? = some (.cells #[.string a0_0, .string a0_1] 30 (0, 0))) ∧ Aside0 (wc.heap[gb348]? = some (.cells #[.string a1_0, .string a1_1] 30 (0, 0))) ∧ Aside0 (wc.heap[gb349]? = some (.cells #[.string (⟨#[]⟩ : ByteArray), .string (⟨#[]⟩ : ByteArray)] 30 (0, 0))) ∧ Aside0 (Below w.heap.size w wc))
    case first =>
     have H := HC25.out
     clear HC25
     obtain ⟨⟨t351, t352, t353⟩, A26, H⟩ := bo H
     try dsimp only at H
     have H' := am H
     clear H
     have hnb27 := NB347_348.out
     have hnc27 := NB348_347.out
     have hnb28 := NB347_349.out
     have hnc28 := NB349_347.out
     have hcz29_0 := bc BK347 0 (.string a0_0)
     have hcz29_1 := bc BK347 1 (.string a0_1)
     have hfz29_0 := blk_frozen BK347.out 0
     have hfz29_1 := blk_frozen BK347.out 1
     go_wp2_with (first | ((with_reducible refine gc (f := 79) rfl ?_); refine goesM (some 27) Tryz.func79 #[.agg #[.string a0_0, .string a0_1]] ?_; (with_reducible refine (fraction_both.calls a0_0 a0_1 t351 t352 t353 _ ?s1 A26.out).mono ?_); (case s1 => exact gb HG0 HB); rintro e w30 ⟨rfl, hb⟩; refine ⟨_, rfl, ?_⟩; replace BK347 := kb BK347 hb; replace BK348 := kb BK348 hb; replace BK349 := kb BK349 hb; replace HB := bs HB hb; (try clear hb)))
     go_meet
     case rel => exact ⟨_, (t351), (t352), (t353), rs, rs, rs, H', ⟨by have := HJ2.out; first | omega | exact Nat.le_refl _⟩, ⟨bk BK347⟩, ⟨bk BK348⟩, ⟨bk BK349⟩, ⟨bl HB⟩⟩
    case rest =>
     clear HC25
     try clear c1
     try clear c2
     try clear p2
     try clear c6
     try clear c7
     try clear c7b0
     try clear c7b1
     try clear c8
     try clear c9
     try clear c10
     try clear c11
     try clear c13
     try clear c14
     try clear c16
     try clear c18
     try clear c19
     try clear c21
     try clear c27
     try clear c28
     try clear hcz10_0
     try clear hcz10_1
     try clear hcz12_0
     try clear hcz12_1
     try clear hcz15_0
     try clear hcz15_1
     try clear hcz20_0
     try clear hcz20_1
     try clear hcz22_0
     try clear hcz22_1
     try clear hcz24_0
     try clear hcz24_1
     try clear hcz29_0
     try clear hcz29_1
     try clear hfz10_0
     try clear hfz10_1
     try clear hfz12_0
     try clear hfz12_1
     try clear hfz15_0
     try clear hfz15_1
     try clear hfz20_0
     try clear hfz20_1
     try clear hfz22_0
     try clear hfz22_1
     try clear hfz24_0
     try clear hfz24_1
     try clear hfz29_0
     try clear hfz29_1
     try clear p2
     obtain ⟨kq, x5_24, x6_24, x7_24, rfl, rfl, rfl, HA, HJ24, BK347, BK348, BK349, HB⟩ := hcut
     cases kq with
     | zero => exact absurd HA.out (by simp [fraction_Add.j1])
     | succ kj24 =>
      have H := HA.out
      clear HA
      simp only [fraction_Add.j1] at H
      have HC31 := am H
      clear H
      go_upto_if 31 with (fail)
      go_cut [] (fun wc => ∃ (kq : Nat) (x350000_30 : ByteArray) (x350001_30 : ByteArray), Aside0 (fraction_Add.j2 kq  = some (r1, r2)) ∧ Aside0 (kq ≤ kj24) ∧ Aside0 (wc.heap[gb347]? = some (.cells #[.string a0_0, .string a0_1] 30 (0, 0))) ∧ Aside0 (wc.heap[gb348]? = some (.cells #[.string a1_0, .string a1_1] 30 (0, 0))) ∧ Aside0 (wc.heap[gb349]? = some (.cells #[.string x350000_30, .string x350001_30] 30 (0, 0))) ∧ Aside0 (Below w.heap.size w wc))
      case first =>
       have H := HC31.out
       clear HC31
       by_cases c32 : x7_24 = true
       ·subst c32
        rw [if_pos rfl] at H
        obtain ⟨⟨t354, t355, t356⟩, A33, H⟩ := bo H
        try dsimp only at H
        by_cases c34 : t356 = true
        ·subst c34
         rw [if_pos rfl] at H
         obtain ⟨⟨t357, t358⟩, A35, H⟩ := bo H
         try dsimp only at H
         simp only [Option.some.injEq, Prod.mk.injEq] at H
         obtain ⟨rfl, rfl⟩ := H
         have hnb36 := NB348_347.out
         have hnc36 := NB347_348.out
         have hnb37 := NB348_349.out
         have hnc37 := NB349_348.out
         have hcz38_0 := bc BK348 0 (.string a1_0)
         have hcz38_1 := bc BK348 1 (.string a1_1)
         have hfz38_0 := blk_frozen BK348.out 0
         have hfz38_1 := blk_frozen BK348.out 1
         go_wp2_with (first | ((with_reducible refine gc (f := 79) rfl ?_); refine goesM (some 34) Tryz.func79 #[.agg #[.string a1_0, .string a1_1]] ?_; (with_reducible refine (fraction_both.calls a1_0 a1_1 t354 t355 true _ ?s1 A33.out).mono ?_); (case s1 => exact gb HG0 HB); rintro e w39 ⟨rfl, hb⟩; refine ⟨_, rfl, ?_⟩; replace BK347 := kb BK347 hb; replace BK348 := kb BK348 hb; replace BK349 := kb BK349 hb; replace HB := bs HB hb; (try clear hb)) | ((with_reducible refine gc (f := 80) rfl ?_); refine goesM (some 49) Tryz.func80 #[.int .i64 (wrap64 ((wrap64 (x5_24 * t355)) + (wrap64 (t354 * x6_24)))), .int .i64 (wrap64 (x6_24 * t355))] ?_; (with_reducible refine (fraction_of.calls kj24 (wrap64 ((wrap64 (x5_24 * t355)) + (wrap64 (t354 * x6_24)))) (wrap64 (x6_24 * t355)) t357 t358 _ ?s1 A35.out).mono ?_); (case s1 => exact gb HG0 HB); rintro e w40 ⟨rfl, hb⟩; refine ⟨_, rfl, ?_⟩; replace BK347 := kb BK347 hb; replace BK348 := kb BK348 hb; replace BK349 := kb BK349 hb; replace HB := bs HB hb; (try clear hb); have hnb41 := NB349_347.out; have hnc41 := NB347_349.out; have hcz42_0 := bc BK349 0 (.string (⟨#[]⟩ : ByteArray)); have hcz42_1 := bc BK349 1 (.string (⟨#[]⟩ : ByteArray)); have hfz42_0 := blk_frozen BK349.out 0; have hfz42_1 := blk_frozen BK349.out 1))
         refine bodyPost_ret (results_cell_row rfl _ _ gb349 30 #[.string t357, .string t358] (0, 0) _ rfl (by (with_reducible repeat (first | refine blk_drewN ?_ _ | refine blk_drew ?_ | refine blk_alloc ?_ _)); refine blk_put (cs := #[.string t357, .string (⟨#[]⟩ : ByteArray)]) ?_ 1 _ rfl; (with_reducible repeat (first | refine blk_drewN ?_ _ | refine blk_drew ?_ | refine blk_alloc ?_ _)); refine blk_put (cs := #[.string (⟨#[]⟩ : ByteArray), .string (⟨#[]⟩ : ByteArray)]) ?_ 0 _ rfl; (with_reducible repeat (first | refine blk_drewN ?_ _ | refine blk_drew ?_ | refine blk_alloc ?_ _)); exact BK349.out) Tryz.underlying30 rfl (by kernel_rfl)) rfl ?_
         exact ⟨rl, bl HB⟩
        ·replace c34 := Bool.eq_false_iff.mpr c34
         subst c34
         rw [if_neg (show ¬ (false = true) by decide)] at H
         have H' := am H
         clear H
         have hnb43 := NB348_347.out
         have hnc43 := NB347_348.out
         have hnb44 := NB348_349.out
         have hnc44 := NB349_348.out
         have hcz45_0 := bc BK348 0 (.string a1_0)
         have hcz45_1 := bc BK348 1 (.string a1_1)
         have hfz45_0 := blk_frozen BK348.out 0
         have hfz45_1 := blk_frozen BK348.out 1
         go_wp2_with (first | ((with_reducible refine gc (f := 79) rfl ?_); refine goesM (some 34) Tryz.func79 #[.agg #[.string a1_0, .string a1_1]] ?_; (with_reducible refine (fraction_both.calls a1_0 a1_1 t354 t355 false _ ?s1 A33.out).mono ?_); (case s1 => exact gb HG0 HB); rintro e w46 ⟨rfl, hb⟩; refine ⟨_, rfl, ?_⟩; replace BK347 := kb BK347 hb; replace BK348 := kb BK348 hb; replace BK349 := kb BK349 hb; replace HB := bs HB hb; (try clear hb)))
         go_meet
         case rel => exact ⟨_, ((⟨#[]⟩ : ByteArray)), ((⟨#[]⟩ : ByteArray)), H', ⟨by have := HJ2.out; have := HJ24.out; first | omega | exact Nat.le_refl _⟩, ⟨bk BK347⟩, ⟨bk BK348⟩, ⟨bk BK349⟩, ⟨bl HB⟩⟩
       ·replace c32 := Bool.eq_false_iff.mpr c32
        subst c32
        rw [if_neg (show ¬ (false = true) by decide)] at H
        have H' := am H
        clear H
        go_wp2
        go_meet
        case rel => exact ⟨_, ((⟨#[]⟩ : ByteArray)), ((⟨#[]⟩ : ByteArray)), H', ⟨by have := HJ2.out; have := HJ24.out; first | omega | exact Nat.le_refl _⟩, ⟨bk BK347⟩, ⟨bk BK348⟩, ⟨bk BK349⟩, ⟨bl HB⟩⟩
      case rest =>
       clear HC31
       try clear c1
       try clear c2
       try clear p2
       try clear c3
       try clear c4
       try clear c6
       try clear p6
       try clear c7
       try clear c7b0
       try clear c7b1
       try clear c8
       try clear c9
       try clear c10
       try clear c11
       try clear c13
       try clear c14
       try clear c16
       try clear c18
       try clear c19
       try clear c21
       try clear c27
       try clear c28
       try clear c32
       try clear c34
       try clear c36
       try clear c37
       try clear c41
       try clear c43
       try clear c44
       try clear hcz10_0
       try clear hcz10_1
       try clear hcz12_0
       try clear hcz12_1
       try clear hcz15_0
       try clear hcz15_1
       try clear hcz20_0
       try clear hcz20_1
       try clear hcz22_0
       try clear hcz22_1
       try clear hcz24_0
       try clear hcz24_1
       try clear hcz29_0
       try clear hcz29_1
       try clear hcz38_0
       try clear hcz38_1
       try clear hcz42_0
       try clear hcz42_1
       try clear hcz45_0
       try clear hcz45_1
       try clear hfz10_0
       try clear hfz10_1
       try clear hfz12_0
       try clear hfz12_1
       try clear hfz15_0
       try clear hfz15_1
       try clear hfz20_0
       try clear hfz20_1
       try clear hfz22_0
       try clear hfz22_1
       try clear hfz24_0
       try clear hfz24_1
       try clear hfz29_0
       try clear hfz29_1
       try clear hfz38_0
       try clear hfz38_1
       try clear hfz42_0
       try clear hfz42_1
       try clear hfz45_0
       try clear hfz45_1
       try clear p2
       obtain ⟨kq, x350000_30, x350001_30, HA, HJ30, BK347, BK348, BK349, HB⟩ := hcut
       cases kq with
       | zero => exact absurd HA.out (by simp [fraction_Add.j2])
       | succ kj30 =>
        have H := HA.out
        clear HA
        simp only [fraction_Add.j2] at H
        cases H
def size_number.f (a0 : Int) : Option (ByteArray × ByteArray) := (whole_Of.f a0).bind fun t360 => (some (t360, (⟨#[49]⟩ : ByteArray)))
theorem size_number.calls (a0 : Int) (r1 : ByteArray) (r2 : ByteArray) (w : World) (hG : Glob w) (h : size_number.f a0 = some (r1, r2)) :
  Calls Tryz.prog 65 #[.int .i64 a0] w fun e w' => e = .returned (.agg #[.string r1, .string r2]) ∧ Below w.heap.size w w' := by
 have hu30 := Tryz.underlying30
 have HG0 := am hG
 clear hG
 have HB := am (Below.refl w.heap.size w)
 have H := h
 unfold size_number.f at H
 clear h
 obtain ⟨t360, A2, H⟩ := bo H
 try dsimp only at H
 simp only [Option.some.injEq, Prod.mk.injEq] at H
 obtain ⟨rfl, rfl⟩ := H
 go_enter Tryz.func65, Tryz.ntmps65
 go_wp2_with (first | ((with_reducible refine gd (N := 2) rfl ?_); refine boxM (N := 2) #[.string (⟨#[]⟩ : ByteArray), .string (⟨#[]⟩ : ByteArray)] 30 ?_; intro gb359 hg w3 hbox hb; have BK359 := am (hbox); have GW359 := gw hg HB; have GE359 := GW359; replace HB := bs HB hb; clear hb hbox hg) | ((with_reducible refine gc (f := 97) rfl ?_); refine goesM (some 4) Tryz.func97 #[.int .i64 a0] ?_; (with_reducible refine (whole_Of.calls a0 t360 _ ?s1 A2.out).mono ?_); (case s1 => exact gb HG0 HB); rintro e w4 ⟨rfl, hb⟩; refine ⟨_, rfl, ?_⟩; replace BK359 := kb BK359 hb; replace HB := bs HB hb; (try clear hb); have hcz5_0 := bc BK359 0 (.string (⟨#[]⟩ : ByteArray)); have hcz5_1 := bc BK359 1 (.string (⟨#[]⟩ : ByteArray)); have hfz5_0 := blk_frozen BK359.out 0; have hfz5_1 := blk_frozen BK359.out 1))
 refine bodyPost_ret (results_cell_row rfl _ _ gb359 30 #[.string t360, .string (⟨#[49]⟩ : ByteArray)] (0, 0) _ rfl (by (with_reducible repeat (first | refine blk_drewN ?_ _ | refine blk_drew ?_ | refine blk_alloc ?_ _)); refine blk_put (cs := #[.string t360, .string (⟨#[]⟩ : ByteArray)]) ?_ 1 _ rfl; (with_reducible repeat (first | refine blk_drewN ?_ _ | refine blk_drew ?_ | refine blk_alloc ?_ _)); refine blk_put (cs := #[.string (⟨#[]⟩ : ByteArray), .string (⟨#[]⟩ : ByteArray)]) ?_ 0 _ rfl; (with_reducible repeat (first | refine blk_drewN ?_ _ | refine blk_drew ?_ | refine blk_alloc ?_ _)); exact BK359.out) Tryz.underlying30 rfl (by kernel_rfl)) rfl ?_
 exact ⟨rl, bl HB⟩
def size_zero.l0 : Nat → List (S30) → Int → Int → Option ((List (S30)))
 | 0, _, _, _ => none
 | k + 1, x3, x8, x9 => if x9 < x8 then ((size_number.f 0).bind fun bt364 => (if 0 ≤ x9 then (if x9 < (x3.length : Int) then (size_zero.l0 k (x3.set (x9 : Int).toNat (⟨bt364.1, bt364.2⟩ : S30)) x8 (wrap64 (x9 + 1))) else (none)) else (none))) else (some x3)
def size_zero.f (k : Nat) (a0 : Int) : Option ((List (S30))) := if 0 ≤ a0 then (if (a0 : Int).toNat ≤ 8796093022208 then ((some (List.replicate (a0 : Int).toNat z30 : List (S30))).bind fun y361 => (size_zero.l0 k y361 (y361.length : Int) 0)) else (none)) else (none)
theorem size_zero.calls (k : Nat) (a0 : Int) (r : List (S30)) (w : World) (hG : Glob w) (h : size_zero.f k a0 = some r) :
  Calls Tryz.prog 83 #[.int .i64 a0] w fun e w' => ∃ v0_ : Value, e = .returned (v0_) ∧ Kd.R k30 30 w' w.heap.size (fun _ => True) v0_ r ∧ Below w.heap.size w w' := by
 have hu30 := Tryz.underlying30
 have HG0 := am hG
 clear hG
 have HB := am (Below.refl w.heap.size w)
 have H := h
 unfold size_zero.f at H
 clear h
 by_cases c2 : 0 ≤ a0
 case neg => rw [if_neg c2] at H; cases H
 rw [if_pos c2] at H
 have c2b0 := eq_true c2
 have c2b1 := decide_eq_true c2
 clear c2
 by_cases c3 : (a0 : Int).toNat ≤ 8796093022208
 case neg => rw [if_neg c3] at H; cases H
 rw [if_pos c3] at H
 have c3b0 := eq_true c3
 have c3b1 := decide_eq_true c3
 clear c3
 obtain ⟨y361, hy361⟩ : ∃ y_ : List (S30), y_ = (List.replicate (a0 : Int).toNat z30) := ⟨_, rfl⟩
 first | rw [Option.bind_some, ← hy361] at H | rw [← hy361] at H
 have Ny361 := am hy361
 clear hy361
 have H' := am H
 clear H
 go_enter Tryz.func83, Tryz.ntmps83
 go_wp2_with (first | ((with_reducible refine gd (N := 6) rfl ?_); refine Kd.R_make k30 _ 30 rfl (N := 6) rfl 34 _ _ rfl a0 rfl rfl Tryz.underlying34 (.agg #[(.string ⟨#[]⟩), (.string ⟨#[]⟩)]) 32 info30 rfl (by decide) (by omega) z30 (ok := fun _ => True) (okp := fun _ => True) (k30_mkM _ _ _ z30 ) (fun _ hk => hk) trivial (of_decide_eq_true (by first | (with_reducible assumption) | assumption)) (Nat.le_trans (Nat.mul_le_mul_right _ (of_decide_eq_true (by first | (with_reducible assumption) | assumption) : a0.toNat ≤ 8796093022208)) (by omega)) (Below.refl _ _) (Nat.le_refl _) ?_; intro v362 w4 ho5 hb hg_ hnew_; clear hg_ hnew_; (first | rw [← Ny361.out] at ho5 | (simp only [Int.reduceToNat] at ho5; rw [← Ny361.out] at ho5)); have HO363 := am (Kd.R_lower ho5 (below_size (bl HB))); replace HB := bs HB hb; clear hb ho5; obtain ⟨Ao6, co6, eo6⟩ := Kd.R_slice HO363.out; subst eo6))
 go_loopg [9] k (fun kq v9 w' => ∃ (x3_1 : List (S30)) (x9_1 : Int), v9 = .int .i64 x9_1 ∧ Aside0 (size_zero.l0 kq x3_1 (y361.length : Int) x9_1 = some r) ∧ Aside0 (kq ≤ k) ∧ Aside0 (Kd.R k30 30 w' w.heap.size (fun _ => True) (.slice Ao6 y361.length co6) x3_1) ∧ Aside0 (Below w.heap.size w w'))
 case atStart => exact ⟨(y361), (0), rs, H', ⟨Nat.le_refl _⟩, ⟨kr HO363⟩, ⟨bl HB⟩⟩
 case round =>
  clear H'
  try clear c2
  try clear c2b0
  try clear c2b1
  try clear p2
  try clear c3
  try clear c3b0
  try clear c3b1
  obtain ⟨x3_1, x9_1, rfl, HA, HK1, HO_3, HB⟩ := hrel
  have hl3_1 := (Kd.R_reads' HO_3.out).1
  rw [hl3_1] at HO_3
  (try simp only [hl3_1])
  cases gk with
  | zero => exact absurd HA.out (by simp [size_zero.l0])
  | succ k1 =>
   have H := HA.out
   clear HA
   simp only [size_zero.l0] at H
   by_cases c7 : x9_1 < (y361.length : Int)
   ·rw [if_pos c7] at H
    have c7b0 := decide_eq_true c7
    (try (have c7h := c7b0; rw [hl3_1] at c7h))
    clear c7
    obtain ⟨⟨t364, t365⟩, A8, H⟩ := bo H
    try dsimp only at H
    by_cases c9 : 0 ≤ x9_1
    case neg => rw [if_neg c9] at H; cases H
    rw [if_pos c9] at H
    have c9b0 := decide_eq_true c9
    clear c9
    by_cases c10 : x9_1 < (x3_1.length : Int)
    case neg => rw [if_neg c10] at H; cases H
    rw [if_pos c10] at H
    have c10b0 := decide_eq_true c10
    (try (have c10h := c10b0; rw [hl3_1] at c10h))
    clear c10
    obtain ⟨y366, hy366⟩ : ∃ y_ : List (S30), y_ = (x3_1.set (x9_1 : Int).toNat (⟨t364, t365⟩ : S30)) := ⟨_, rfl⟩
    first | rw [Option.bind_some, ← hy366] at H | rw [← hy366] at H
    have Ny366 := am hy366
    clear hy366
    have H' := am H
    clear H
    go_wp2_with (first | ((with_reducible refine gc (f := 65) rfl ?_); refine goesM (some 14) Tryz.func65 #[.int .i64 0] ?_; (with_reducible refine (size_number.calls 0 t364 t365 _ ?s1 A8.out).mono ?_); (case s1 => exact gb HG0 HB); rintro e w12 ⟨rfl, hb⟩; refine ⟨_, rfl, ?_⟩; replace HO_3 := rb HO_3 hb; replace HB := bs HB hb; (try clear hb); have p11 : 0 ≤ (x9_1 : Int) := of_decide_eq_true (by first | (with_reducible assumption) | assumption); have q11 : (x9_1 : Int) < ((x3_1.length : Int) : Int) := of_decide_eq_true (by first | (with_reducible assumption) | assumption); obtain ⟨go11, co11, eo11, gb11, gl11, cl11, HG11⟩ := Kd.R_form HO_3.out (by omega); (first | cases eo11 | (injection eo11 with ea_ en_ ec_; (first | subst ea_ | (injection ea_ with ea_; subst ea_)); subst ec_; clear en_)); have GB11 := am gb11; have GG11 := am HG11; clear gb11 gl11 HG11; obtain ⟨ce11, hcl11, hM11, hcc11, hfr11⟩ := Kd.R_elem HO_3.out z30 (x9_1 : Int) p11 q11; obtain rfl := k30_openM hM11; have hx11_0 : w12.cell? ⟨go11, (x9_1 : Int).toNat * 2, none⟩ = some (.string ((rd_T30 x3_1 x9_1).f0)) := hcc11 0 _ rfl; have hx11_1 : w12.cell? ⟨go11, (x9_1 : Int).toNat * 2 + 1, none⟩ = some (.string ((rd_T30 x3_1 x9_1).f1)) := hcc11 1 _ rfl; have hf11_0 : w12.frozen? ⟨go11, (x9_1 : Int).toNat * 2, none⟩ = false := hfr11 0; have hf11_1 : w12.frozen? ⟨go11, (x9_1 : Int).toNat * 2 + 1, none⟩ = false := hfr11 1; clear hcl11 hcc11 hfr11 hM11; replace p11 := eq_true p11; replace q11 := eq_true q11; have HX13 := am (show Kd.R k30 30 w12 w.heap.size (fun _ => True) (.slice (some ⟨go11, 0, none⟩) x3_1.length co6) x3_1 from (kr HO_3)); obtain ⟨ce13, hcl13, hM13, hcc13, hfr13⟩ := Kd.R_elem HX13.out z30 (x9_1 : Int) (of_decide_eq_true (by first | (with_reducible assumption) | assumption)) (by have h_ : (x9_1 : Int) < ((x3_1.length : Int) : Int) := of_decide_eq_true (by first | (with_reducible assumption) | assumption); first | exact h_ | (have e_ := (Kd.R_reads' HO_3.out).1; omega) | simpa using h_); obtain rfl := k30_openM hM13; have HP13 := Kd.R_seg HX13.out (x9_1 : Int) (of_decide_eq_true (by first | (with_reducible assumption) | assumption)) (by have h_ : (x9_1 : Int) < ((x3_1.length : Int) : Int) := of_decide_eq_true (by first | (with_reducible assumption) | assumption); first | exact h_ | (have e_ := (Kd.R_reads' HO_3.out).1; omega) | simpa using h_) (seg := [.string t364, .string t365]) (j := 0) hcl13 hcc13 (show 2 ≤ 2 from by decide) (x' := (⟨t364, t365⟩ : S30)) (k30_mkM _ _ _ (⟨t364, t365⟩ : S30) ) (fun _ hk => hk); have hx13_0 := hcc13 0 _ rfl; (try simp only [show (k30).sz = 2 from rfl, Nat.mul_one, Nat.add_zero] at hx13_0); have hf13_0 := hfr13 0; (try simp only [show (k30).sz = 2 from rfl, Nat.mul_one, Nat.add_zero] at hf13_0); have hx13_1 := hcc13 1 _ rfl; (try simp only [show (k30).sz = 2 from rfl, Nat.mul_one, Nat.add_zero] at hx13_1); have hf13_1 := hfr13 1; (try simp only [show (k30).sz = 2 from rfl, Nat.mul_one, Nat.add_zero] at hf13_1); clear hcl13 hcc13 hfr13 hM13) | ((with_reducible refine gate_store (t := 30) (p := 15) rfl ?_); refine store_event (t := 30) (p := 15) (v := ?vo_w14) (w1 := ((w12.setCell ⟨go11, (x9_1 : Int).toNat * 2, none⟩ (.string t364)).setCell ⟨go11, (x9_1 : Int).toNat * 2 + 1, none⟩ (.string t365))) ?hg ?ho ?hn ?hr ?_; (case ho => rfl); (case hg => rfl); (case hn => rfl); (case hr => first | (go_simp; done) | (go_simp; rfl)); intro w14 hw; have hg : w12.grownBy w14 (some go11) := (by rw [hw]; exact HP13.2); have hp_ : Kd.R k30 30 w14 w.heap.size (fun _ => True) (.slice (some ⟨go11, 0, none⟩) x3_1.length co6) y366 := (by rw [hw, Ny366.out]; exact HP13.1); clear HP13; replace HO_3 := am (hp_); replace HB := am ((by rw [hw]; exact below_set (below_set (HB.out) GB11.out) GB11.out : Below w.heap.size w w14)); clear hg hw hp_))
    (try simp only [← hl3_1])
    go_roundg k1
    case measure => have := HK1.out; omega
    case rel => exact ⟨(y366), (wrap64 (x9_1 + 1)), rs, H', ⟨by have := HK1.out; omega⟩, ⟨by (try simp only [hl3_1]); (with_reducible repeat (first | apply Kd.R_alloc | apply Kd.R_drewN | apply Kd.R_drew)); exact HO_3.out⟩, ⟨bl HB⟩⟩
   ·rw [if_neg c7] at H
    have c7b0 := decide_eq_false c7
    (try (have c7h := c7b0; rw [hl3_1] at c7h))
    clear c7
    obtain rfl := Option.some.inj H
    go_wp2
    go_ret
    exact ⟨_, rl, kr HO_3, bl HB⟩
mutual
def size_sum.l0 : Nat → List (S30) → List (S30) → List (List (S30)) → Int → Int → Option ((List (S30)))
 | 0, _, _, _, _, _ => none
 | k + 1, x2, x7, x14, x15, x16 => if x16 < x15 then (if 0 ≤ x16 then (if x16 < (x14.length : Int) then (size_sum.l1 k x2 x7 x16 x14 x15 x16 (rd_L6 x14 x16) ((rd_L6 x14 x16).length : Int) 0) else (none)) else (none)) else (some x7)
def size_sum.l1 : Nat → List (S30) → List (S30) → Int → List (List (S30)) → Int → Int → List (S30) → Int → Int → Option ((List (S30)))
 | 0, _, _, _, _, _, _, _, _, _ => none
 | k + 1, x2, x7, x8, x14, x15, x16, x21, x22, x23 => if x23 < x22 then (if 0 ≤ x23 then (if x23 < (x21.length : Int) then (if x23 < (x7.length : Int) then (if 0 ≤ x8 then (if x8 < (x2.length : Int) then ((fraction_Mul.f k ((rd_T30 x21 x23).f0) ((rd_T30 x21 x23).f1) ((rd_T30 x2 x8).f0) ((rd_T30 x2 x8).f1)).bind fun bt375 => ((fraction_Add.f k ((rd_T30 x7 x23).f0) ((rd_T30 x7 x23).f1) bt375.1 bt375.2).bind fun bt377 => (size_sum.l1 k x2 (x7.set (x23 : Int).toNat (⟨bt377.1, bt377.2⟩ : S30)) x8 x14 x15 x16 x21 x22 (wrap64 (x23 + 1))))) else (none)) else (none)) else (none)) else (none)) else (none)) else (size_sum.l0 k x2 x7 x14 x15 (wrap64 (x16 + 1)))
end
def size_sum.f (k : Nat) (a0 : Int) (l1 : List (List (S30))) (l2 : List (S30)) : Option ((List (S30))) := (size_zero.f k a0).bind fun t367 => (size_sum.l0 k l2 t367 l1 (l1.length : Int) 0)
def size_sum.T8 : Bool × List (List Nat × List Nat) := (true, [([], []), ([], []), ([], []), ([], []), ([2, 3], [2, 3]), ([4], [4]), ([], []), ([], []), ([], []), ([7, 8], [7, 8]), ([9], [9]), ([6, 10], [6, 10]), ([5, 11, 11], [5, 11]), ([0, 1, 0, 1, 2, 3, 4, 5, 6, 7, 8, 9, 10, 11, 12], [0, 1]), ([13, 12, 12, 0, 1, 2, 3, 4, 5, 6, 7, 8, 9, 10, 11, 12], [12, 13])])
def size_sum.B8 : List Nat := [0, 0, 0, 0, 12, 28, 0, 0, 0, 384, 896, 1984, 4092, 8191, 16383]
theorem size_sum.tab8 : rtab .any (opsOf Tryz.f59 8) = size_sum.T8 := by kernel_rfl
theorem size_sum.bits8 : waitsOk size_sum.T8.2 size_sum.B8 = true := by kernel_rfl
theorem size_sum.calls (k : Nat) (a0 : Int) (A1 : Option Addr) (c1 : Nat) (l1 : List (List (S30))) (A2 : Option Addr) (c2 : Nat) (l2 : List (S30)) (r : List (S30)) (w : World) (hG : Glob w) (hr1 : Kd.C (Kd.slice 30 k30) w A1 l1.length l1) (hc1 : l1.length ≤ c1) (hr2 : Kd.C k30 w A2 l2.length l2) (hc2 : l2.length ≤ c2) (h : size_sum.f k a0 l1 l2 = some r) :
  Calls Tryz.prog 59 #[.int .i64 a0, .slice A1 l1.length c1, .slice A2 l2.length c2] w fun e w' => ∃ v0_ : Value, e = .returned (v0_) ∧ Kd.R k30 30 w' w.heap.size (fun _ => True) v0_ r ∧ Below w.heap.size w w' := by
 have hu30 := Tryz.underlying30
 have HR1 := am hr1
 have HC1 := am hc1
 clear hr1 hc1
 have HR2 := am hr2
 have HC2 := am hc2
 clear hr2 hc2
 have HG0 := am hG
 clear hG
 have HB := am (Below.refl w.heap.size w)
 have H := h
 unfold size_sum.f at H
 clear h
 obtain ⟨t367, A4, H⟩ := bo H
 try dsimp only at H
 have H' := am H
 clear H
 go_enter Tryz.func59, Tryz.ntmps59
 go_wp2_with (first | ((with_reducible refine gc (f := 83) rfl ?_); refine goesM (some 13) Tryz.func83 #[.int .i64 a0] ?_; (with_reducible refine (size_zero.calls k a0 t367 _ ?s1 A4.out).mono ?_); (case s1 => exact gb HG0 HB); rintro e w5 ⟨v368, rfl, ho0, hb⟩; refine ⟨_, rfl, ?_⟩; have HO369 := am (Kd.R_lower ho0 (below_size (bl HB))); replace HB := bs HB hb; (try clear hb); (try clear ho0)))
 go_loopg [16] k (fun kq v16 w' => ∃ (x7_1 : List (S30)) (x16_1 : Int), v16 = .int .i64 x16_1 ∧ Aside0 (size_sum.l0 kq l2 x7_1 l1 (l1.length : Int) x16_1 = some r) ∧ Aside0 (kq ≤ k) ∧ Aside0 (Kd.R k30 30 w' w.heap.size (fun _ => True) v368 x7_1) ∧ Aside0 (Below w.heap.size w w'))
 case atStart => exact ⟨(t367), (0), rs, H', ⟨Nat.le_refl _⟩, ⟨kr HO369⟩, ⟨bl HB⟩⟩
 case round =>
  clear H'
  try clear c1
  try clear c2
  try clear p2
  try clear c5
  obtain ⟨x7_1, x16_1, rfl, HA, HK1, HO_7, HB⟩ := hrel
  cases gk with
  | zero => exact absurd HA.out (by simp [size_sum.l0])
  | succ k1 =>
   have H := HA.out
   clear HA
   simp only [size_sum.l0] at H
   by_cases c6 : x16_1 < (l1.length : Int)
   ·rw [if_pos c6] at H
    have c6b0 := decide_eq_true c6
    clear c6
    by_cases c7 : 0 ≤ x16_1
    case neg => rw [if_neg c7] at H; cases H
    rw [if_pos c7] at H
    have c7b0 := decide_eq_true c7
    clear c7
    by_cases c8 : x16_1 < (l1.length : Int)
    case neg => rw [if_neg c8] at H; cases H
    rw [if_pos c8] at H
    have c8b0 := decide_eq_true c8
    clear c8
    have H' := am H
    clear H
    have p370 : 0 ≤ (x16_1 : Int) := of_decide_eq_true (by first | (with_reducible assumption) | assumption)
    have q370 : x16_1 < (l1.length : Int) := of_decide_eq_true (by first | (with_reducible assumption) | assumption)
    obtain ⟨ad370, A370_0, c370_0, e370, hx370_0, hl370_0, hi370_0⟩ := at_L6 HR1.out x16_1 p370 q370
    cases e370
    replace hx370_0 := (HB.out.cell (World.block_lt_of_cell? w _ hx370_0)).trans hx370_0
    have HR370_0 := am hi370_0
    have HC370_0 := am hl370_0
    clear hi370_0 hl370_0
    replace p370 := eq_true p370
    replace q370 := eq_true q370
    go_wp2
    go_loopg [23] k1 (fun kq v23 w' => ∃ (x7_2 : List (S30)) (x23_2 : Int), v23 = .int .i64 x23_2 ∧ Aside0 (size_sum.l1 kq l2 x7_2 x16_1 l1 (l1.length : Int) x16_1 (rd_L6 l1 x16_1) ((rd_L6 l1 x16_1).length : Int) x23_2 = some r) ∧ Aside0 (kq ≤ k1) ∧ Aside0 (Kd.R k30 30 w' w.heap.size (fun _ => True) v368 x7_2) ∧ Aside0 (Below w.heap.size w w'))
    case atStart => exact ⟨(x7_1), (0), rs, H', ⟨Nat.le_refl _⟩, ⟨kr HO_7⟩, ⟨bl HB⟩⟩
    case round =>
     clear H'
     try clear c1
     try clear c2
     try clear p2
     try clear c3
     try clear p3
     try clear q3
     try clear hx3
     try clear c5
     try clear c6
     try clear c6b0
     try clear c7
     try clear c7b0
     try clear c8
     try clear c8b0
     try clear hx370_0
     try clear p2
     try clear p370
     try clear q370
     obtain ⟨x7_2, x23_2, rfl, HA, HK2, HO_7, HB⟩ := hrel
     cases gk with
     | zero => exact absurd HA.out (by simp [size_sum.l1])
     | succ k2 =>
      have H := HA.out
      clear HA
      simp only [size_sum.l1] at H
      by_cases c9 : x23_2 < ((rd_L6 l1 x16_1).length : Int)
      ·rw [if_pos c9] at H
       have c9b0 := decide_eq_true c9
       clear c9
       by_cases c10 : 0 ≤ x23_2
       case neg => rw [if_neg c10] at H; cases H
       rw [if_pos c10] at H
       have c10b0 := decide_eq_true c10
       clear c10
       by_cases c11 : x23_2 < ((rd_L6 l1 x16_1).length : Int)
       case neg => rw [if_neg c11] at H; cases H
       rw [if_pos c11] at H
       have c11b0 := decide_eq_true c11
       clear c11
       by_cases c12 : x23_2 < (x7_2.length : Int)
       case neg => rw [if_neg c12] at H; cases H
       rw [if_pos c12] at H
       have c12b0 := decide_eq_true c12
       clear c12
       by_cases c13 : 0 ≤ x16_1
       case neg => rw [if_neg c13] at H; cases H
       rw [if_pos c13] at H
       have c13b0 := decide_eq_true c13
       clear c13
       by_cases c14 : x16_1 < (l2.length : Int)
       case neg => rw [if_neg c14] at H; cases H
       rw [if_pos c14] at H
       have c14b0 := decide_eq_true c14
       clear c14
       obtain ⟨⟨t375, t376⟩, A15, H⟩ := bo H
       try dsimp only at H
       obtain ⟨⟨t377, t378⟩, A16, H⟩ := bo H
       try dsimp only at H
       obtain ⟨y379, hy379⟩ : ∃ y_ : List (S30), y_ = (x7_2.set (x23_2 : Int).toNat (⟨t377, t378⟩ : S30)) := ⟨_, rfl⟩
       first | rw [Option.bind_some, ← hy379] at H | rw [← hy379] at H
       have Ny379 := am hy379
       clear hy379
       have H' := am H
       clear H
       have p371 : 0 ≤ (x23_2 : Int) := of_decide_eq_true (by first | (with_reducible assumption) | assumption)
       have q371 : x23_2 < ((rd_L6 l1 x16_1).length : Int) := of_decide_eq_true (by first | (with_reducible assumption) | assumption)
       obtain ⟨ad371, e371, hx371_0, hx371_1⟩ := at_T30 HR370_0.out x23_2 p371 q371
       cases e371
       replace hx371_0 := (HB.out.cell (World.block_lt_of_cell? w _ hx371_0)).trans hx371_0
       replace hx371_1 := (HB.out.cell (World.block_lt_of_cell? w _ hx371_1)).trans hx371_1
       replace p371 := eq_true p371
       replace q371 := eq_true q371
       try go_wp2_with (first | ((with_reducible refine gd (N := 11) rfl ?_); refine boxM (N := 11) #[.string (⟨#[]⟩ : ByteArray), .string (⟨#[]⟩ : ByteArray)] 30 ?_; intro gb372 hg w18 hbox hb; replace HO_7 := am (Kd.R_below (Kd.R_elderB (kr HO_7) gb372 (Nat.le_of_eq hg.symm)) hb); have BK372 := am (hbox); have GW372 := gw hg HB; have GE372 := GW372; replace HB := bs HB hb; clear hb hbox hg; have hcz19_0 := bc BK372 0 (.string (⟨#[]⟩ : ByteArray)); have hcz19_1 := bc BK372 1 (.string (⟨#[]⟩ : ByteArray)); have hfz19_0 := blk_frozen BK372.out 0; have hfz19_1 := blk_frozen BK372.out 1))
       have n0_ : Aside0 (Kd.R k30 30 ((w18.setCell ⟨gb372, 0, none⟩ (.string ((rd_T30 (rd_L6 l1 x16_1) x23_2).f0))).setCell ⟨gb372, 1, none⟩ (.string ((rd_T30 (rd_L6 l1 x16_1) x23_2).f1))) w.heap.size (fun k_ => k_ ≠ gb372) v368 x7_2) := ⟨by (with_reducible repeat (first | apply Kd.R_alloc | apply Kd.R_drewN | apply Kd.R_drew)); exact Kd.R_mono (Kd.R_far (p := ⟨gb372, 1, none⟩) (Kd.R_far (p := ⟨gb372, 0, none⟩) (Kd.R_mono HO_7.out (fun k_ hk => (⟨hk, hk.2⟩ : _ ∧ k_ ≠ gb372))) (fun _ hk => hk.2) (.string ((rd_T30 (rd_L6 l1 x16_1) x23_2).f0))) (fun _ hk => hk.2) (.string ((rd_T30 (rd_L6 l1 x16_1) x23_2).f1))) (fun _ hk => hk.1.2)⟩
       have n1_ : Aside0 (((w18.setCell ⟨gb372, 0, none⟩ (.string ((rd_T30 (rd_L6 l1 x16_1) x23_2).f0))).setCell ⟨gb372, 1, none⟩ (.string ((rd_T30 (rd_L6 l1 x16_1) x23_2).f1))).heap[gb372]? = some (.cells #[.string ((rd_T30 (rd_L6 l1 x16_1) x23_2).f0), .string ((rd_T30 (rd_L6 l1 x16_1) x23_2).f1)] 30 (0, 0))) := ⟨by (with_reducible repeat (first | refine blk_drewN ?_ _ | refine blk_drew ?_ | refine blk_alloc ?_ _)); refine blk_put (cs := #[.string ((rd_T30 (rd_L6 l1 x16_1) x23_2).f0), .string (⟨#[]⟩ : ByteArray)]) ?_ 1 _ rfl; (with_reducible repeat (first | refine blk_drewN ?_ _ | refine blk_drew ?_ | refine blk_alloc ?_ _)); refine blk_put (cs := #[.string (⟨#[]⟩ : ByteArray), .string (⟨#[]⟩ : ByteArray)]) ?_ 0 _ rfl; (with_reducible repeat (first | refine blk_drewN ?_ _ | refine blk_drew ?_ | refine blk_alloc ?_ _)); exact BK372.out⟩
       have n2_ : Aside0 (Below w.heap.size w ((w18.setCell ⟨gb372, 0, none⟩ (.string ((rd_T30 (rd_L6 l1 x16_1) x23_2).f0))).setCell ⟨gb372, 1, none⟩ (.string ((rd_T30 (rd_L6 l1 x16_1) x23_2).f1)))) := ⟨bl HB⟩
       (try clear HO_7)
       (try clear BK372)
       (try clear HB)
       generalize ((w18.setCell ⟨gb372, 0, none⟩ (.string ((rd_T30 (rd_L6 l1 x16_1) x23_2).f0))).setCell ⟨gb372, 1, none⟩ (.string ((rd_T30 (rd_L6 l1 x16_1) x23_2).f1))) = w20 at n0_ n1_ n2_ ⊢
       have HO_7 := n0_
       have BK372 := n1_
       have HB := n2_
       clear n0_ n1_ n2_
       replace HO_7 := am (Kd.R_drew HO_7.out)
       replace BK372 := am (blk_drew BK372.out)
       replace HB := am (below_drew1 HB.out)
       obtain ⟨Ao22, co22, eo22⟩ := Kd.R_slice HO_7.out
       (first | subst eo22 | (injection eo22 with f1_ f2_ f3_; have f4_ := f1_.symm; have f5_ := f3_.symm; clear f1_ f2_ f3_; subst f4_; subst f5_))
       have p373 : 0 ≤ (x23_2 : Int) := of_decide_eq_true (by first | (with_reducible assumption) | assumption)
       have q373 : x23_2 < (x7_2.length : Int) := of_decide_eq_true (by first | (with_reducible assumption) | assumption)
       (try (obtain ⟨Aq_, cq_, eq_⟩ := Kd.R_slice HO_7.out; subst eq_))
       obtain ⟨ad373, e373, hx373_0, hx373_1⟩ := at_T30 (Kd.R_reads' HO_7.out).2.2 x23_2 p373 q373
       cases e373
       replace p373 := eq_true p373
       replace q373 := eq_true q373
       have p374 : 0 ≤ (x16_1 : Int) := of_decide_eq_true (by first | (with_reducible assumption) | assumption)
       have q374 : x16_1 < (l2.length : Int) := of_decide_eq_true (by first | (with_reducible assumption) | assumption)
       obtain ⟨ad374, e374, hx374_0, hx374_1⟩ := at_T30 HR2.out x16_1 p374 q374
       have hw374_1 := hx374_1
       have hw374_0 := hx374_0
       cases e374
       replace hx374_0 := (HB.out.cell (World.block_lt_of_cell? w _ hx374_0)).trans hx374_0
       replace hx374_1 := (HB.out.cell (World.block_lt_of_cell? w _ hx374_1)).trans hx374_1
       replace p374 := eq_true p374
       replace q374 := eq_true q374
       refine start_ (n := 15) (S := fun w' => w'.cell? ⟨gb372, 0, none⟩ = some (.string ((rd_T30 (rd_L6 l1 x16_1) x23_2).f0)) ∧ w'.cell? ⟨gb372, 1, none⟩ = some (.string ((rd_T30 (rd_L6 l1 x16_1) x23_2).f1)) ∧ w'.cell? (ad373.add ((x23_2).toNat * 2)) = some (.string ((rd_T30 x7_2 x23_2).f0)) ∧ w'.cell? ⟨(ad373.add ((x23_2).toNat * 2)).block, (ad373.add ((x23_2).toNat * 2)).off + 1, none⟩ = some (.string ((rd_T30 x7_2 x23_2).f1)) ∧ w'.cell? (ad374.add ((x16_1).toNat * 2)) = some (.string ((rd_T30 l2 x16_1).f0)) ∧ w'.cell? ⟨(ad374.add ((x16_1).toNat * 2)).block, (ad374.add ((x16_1).toNat * 2)).off + 1, none⟩ = some (.string ((rd_T30 l2 x16_1).f1))) (ds := [14]) #[false, false, false, false, false, false, false, false, false, false, false, false, false, false, false] (by kernel_rfl) rfl rfl ⟨(blk_cell BK372.out 0).trans rfl, (blk_cell BK372.out 1).trans rfl, hx373_0, hx373_1, ((HB.out.cell (World.block_lt_of_cell? w _ hw374_0)).trans hw374_0), ((HB.out.cell (World.block_lt_of_cell? w _ hw374_1)).trans hw374_1)⟩ (fun hHeld => ?_); refine with_tabW size_sum.tab8 size_sum.bits8 (fun HT_ HW_ => ?_)
       generalize w20.drew = w21 at HO_7 BK372 HB hx373_0 hx373_1 hx374_0 hx374_1 hHeld ⊢
       refine purM (i := 0) (N := some 28) #[true, false, false, false, false, false, false, false, false, false, false, false, false, false, false] ?_
       refine purM (i := 1) (N := some 29) #[true, true, false, false, false, false, false, false, false, false, false, false, false, false, false] ?_
       refine purM (i := 2) (N := some 30) #[true, true, true, false, false, false, false, false, false, false, false, false, false, false, false] ?_
       refine purM (i := 3) (N := some 31) #[true, true, true, true, false, false, false, false, false, false, false, false, false, false, false] ?_
       refine purM (i := 4) (N := some 32) #[true, true, true, true, true, false, false, false, false, false, false, false, false, false, false] ?_
       refine purM (i := 7) (N := some 35) #[true, true, true, true, true, false, false, true, false, false, false, false, false, false, false] ?_
       refine purM (i := 8) (N := some 36) #[true, true, true, true, true, false, false, true, true, false, false, false, false, false, false] ?_
       refine purM (i := 9) (N := some 37) #[true, true, true, true, true, false, false, true, true, true, false, false, false, false, false] ?_
       refine take_ (i := 5) (N := some 33) (v := ?_) (a' := ?_) #[true, true, true, true, true, true, false, true, true, true, false, false, false, false, false] rfl rfl (take_ofW HT_.out HW_.out (by kernel_rfl)) (fun _ _ _ h => h) (Or.inl ⟨by rfl, ?_⟩) hHeld ?_ ?_
       rotate_left
       ·rintro w' ⟨s0, s1, s2, s3, s4, s5⟩
        go_simp
        with_reducible rfl
       rotate_left
       ·simp only [Act.put, List.setIfInBounds_toArray, List.set_cons_zero, List.set_cons_succ, i64_w, i32_w]
        rfl
       refine take_ (i := 6) (N := some 34) (v := ?_) (a' := ?_) #[true, true, true, true, true, true, true, true, true, true, false, false, false, false, false] rfl rfl (take_ofW HT_.out HW_.out (by kernel_rfl)) (fun _ _ _ h => h) (Or.inl ⟨by rfl, ?_⟩) hHeld ?_ ?_
       rotate_left
       ·rintro w' ⟨s0, s1, s2, s3, s4, s5⟩
        go_simp
        with_reducible rfl
       rotate_left
       ·simp only [Act.put, List.setIfInBounds_toArray, List.set_cons_zero, List.set_cons_succ, i64_w, i32_w]
        rfl
       refine take_ (i := 10) (N := some 38) (v := ?_) (a' := ?_) #[true, true, true, true, true, true, true, true, true, true, true, false, false, false, false] rfl rfl (take_ofW HT_.out HW_.out (by kernel_rfl)) (fun _ _ _ h => h) (Or.inl ⟨by rfl, ?_⟩) hHeld ?_ ?_
       rotate_left
       ·rintro w' ⟨s0, s1, s2, s3, s4, s5⟩
        go_simp
        with_reducible rfl
       rotate_left
       ·simp only [Act.put, List.setIfInBounds_toArray, List.set_cons_zero, List.set_cons_succ, i64_w, i32_w]
        rfl
       refine one_ (i := 11) (N := some 39) #[true, true, true, true, true, true, true, true, true, true, true, true, false, false, false] rfl rfl (one_of HT_.out (by kernel_rfl)) (by decide) (fun K hK => ?_)
       refine goesR Tryz.func35 #[.agg #[.string ((rd_T30 (rd_L6 l1 x16_1) x23_2).f0), .string ((rd_T30 (rd_L6 l1 x16_1) x23_2).f1)], .agg #[.string ((rd_T30 l2 x16_1).f0), .string ((rd_T30 l2 x16_1).f1)]] ?_
       with_reducible refine (fraction_Mul.calls k2 ((rd_T30 (rd_L6 l1 x16_1) x23_2).f0) ((rd_T30 (rd_L6 l1 x16_1) x23_2).f1) ((rd_T30 l2 x16_1).f0) ((rd_T30 l2 x16_1).f1) t375 t376 _ ?s1 A15.out).mono ?_
       (case s1 => exact gb HG0 HB)
       rintro e w23 ⟨rfl, hb⟩
       have HS2_ := (hb.cell (World.block_lt_of_cell? _ _ (hHeld.2.2.1))).trans (hHeld.2.2.1)
       have HS3_ := (hb.cell (World.block_lt_of_cell? _ _ (hHeld.2.2.2.1))).trans (hHeld.2.2.2.1)
       refine ⟨_, rfl, ?_⟩
       replace HO_7 := rb HO_7 hb
       replace BK372 := kb BK372 hb
       replace HB := bs HB hb
       (try clear hb)
       (try clear hb2)
       (try clear hk)
       (try clear hi)
       refine hK.out _ _ ⟨(blk_cell BK372.out 0).trans rfl, (blk_cell BK372.out 1).trans rfl, HS2_, HS3_, ((HB.out.cell (World.block_lt_of_cell? w _ hw374_0)).trans hw374_0), ((HB.out.cell (World.block_lt_of_cell? w _ hw374_1)).trans hw374_1)⟩ (fun hHeld => ?_)
       clear hK K
       refine norm_ (a' := ?_) ?_ ?_
       rotate_left
       ·show Act.put _ (some 39) _ = _
        simp only [Act.put, List.setIfInBounds_toArray, List.set_cons_zero, List.set_cons_succ, i64_w, i32_w]
        rfl
       refine one_ (i := 12) (N := some 40) #[true, true, true, true, true, true, true, true, true, true, true, true, true, false, false] rfl rfl (one_of HT_.out (by kernel_rfl)) (by decide) (fun K hK => ?_)
       refine goesR Tryz.func60 #[.agg #[.string ((rd_T30 x7_2 x23_2).f0), .string ((rd_T30 x7_2 x23_2).f1)], .agg #[.string t375, .string t376]] ?_
       with_reducible refine (fraction_Add.calls k2 ((rd_T30 x7_2 x23_2).f0) ((rd_T30 x7_2 x23_2).f1) t375 t376 t377 t378 _ ?s1 A16.out).mono ?_
       (case s1 => exact gb HG0 HB)
       rintro e w24 ⟨rfl, hb⟩
       have HS2_ := (hb.cell (World.block_lt_of_cell? _ _ (hHeld.2.2.1))).trans (hHeld.2.2.1)
       have HS3_ := (hb.cell (World.block_lt_of_cell? _ _ (hHeld.2.2.2.1))).trans (hHeld.2.2.2.1)
       refine ⟨_, rfl, ?_⟩
       replace HO_7 := rb HO_7 hb
       replace BK372 := kb BK372 hb
       replace HB := bs HB hb
       (try clear hb)
       (try clear hb2)
       (try clear hk)
       (try clear hi)
       have p17 : 0 ≤ (x23_2 : Int) := of_decide_eq_true (by first | (with_reducible assumption) | assumption)
       have q17 : (x23_2 : Int) < ((x7_2.length : Int) : Int) := of_decide_eq_true (by first | (with_reducible assumption) | assumption)
       obtain ⟨go17, co17, eo17, gb17, gl17, cl17, HG17⟩ := Kd.R_form HO_7.out (by omega)
       (first | cases eo17 | (injection eo17 with ea_ en_ ec_; (first | subst ea_ | (injection ea_ with ea_; subst ea_)); subst ec_; clear en_))
       have GB17 := am gb17
       have GG17 := am HG17
       clear gb17 gl17 HG17
       (first | simp only [add_plain] at hx373_0 | skip)
       (first | simp only [add_plain] at hx373_1 | skip)
       obtain ⟨ce17, hcl17, hM17, hcc17, hfr17⟩ := Kd.R_elem HO_7.out z30 (x23_2 : Int) p17 q17
       obtain rfl := k30_openM hM17
       have hx17_0 : World.cell? _ ⟨go17, (x23_2 : Int).toNat * 2, none⟩ = some (.string ((rd_T30 x7_2 x23_2).f0)) := hcc17 0 _ rfl
       have hx17_1 : World.cell? _ ⟨go17, (x23_2 : Int).toNat * 2 + 1, none⟩ = some (.string ((rd_T30 x7_2 x23_2).f1)) := hcc17 1 _ rfl
       have hf17_0 : World.frozen? _ ⟨go17, (x23_2 : Int).toNat * 2, none⟩ = false := hfr17 0
       have hf17_1 : World.frozen? _ ⟨go17, (x23_2 : Int).toNat * 2 + 1, none⟩ = false := hfr17 1
       clear hcl17 hcc17 hfr17 hM17
       replace p17 := eq_true p17
       replace q17 := eq_true q17
       obtain ⟨ce25, hcl25, hM25, hcc25, hfr25⟩ := Kd.R_elem HO_7.out z30 (x23_2 : Int) (of_decide_eq_true (by first | (with_reducible assumption) | assumption)) (by have h_ : (x23_2 : Int) < ((x7_2.length : Int) : Int) := of_decide_eq_true (by first | (with_reducible assumption) | assumption); first | exact h_ | (have e_ := (Kd.R_reads' HO_7.out).1; omega) | simpa using h_)
       obtain rfl := k30_openM hM25
       have HP25 := (Kd.R_seg HO_7.out (x23_2 : Int) (of_decide_eq_true (by first | (with_reducible assumption) | assumption)) (by have h_ : (x23_2 : Int) < ((x7_2.length : Int) : Int) := of_decide_eq_true (by first | (with_reducible assumption) | assumption); first | exact h_ | (have e_ := (Kd.R_reads' HO_7.out).1; omega) | simpa using h_) (seg := [.string t377, .string t378]) (j := 0) hcl25 hcc25 (show 2 ≤ 2 from by decide) (x' := (⟨t377, t378⟩ : S30)) (k30_mkM _ _ _ (⟨t377, t378⟩ : S30) ) (fun _ hk => hk)).1
       rw [← Ny379.out] at HP25
       have HQ25 := am HP25
       clear hcl25 hcc25 hfr25 hM25 HP25
       refine hK.out _ _ ⟨(blk_cell BK372.out 0).trans rfl, (blk_cell BK372.out 1).trans rfl, HS2_, HS3_, ((HB.out.cell (World.block_lt_of_cell? w _ hw374_0)).trans hw374_0), ((HB.out.cell (World.block_lt_of_cell? w _ hw374_1)).trans hw374_1)⟩ (fun hHeld => ?_)
       clear hK K
       refine norm_ (a' := ?_) ?_ ?_
       rotate_left
       ·show Act.put _ (some 40) _ = _
        simp only [Act.put, List.setIfInBounds_toArray, List.set_cons_zero, List.set_cons_succ, i64_w, i32_w]
        rfl
       refine purM (i := 13) (N := some 41) #[true, true, true, true, true, true, true, true, true, true, true, true, true, true, false] ?_
       refine last_ (i := 14) (N := none) #[true, true, true, true, true, true, true, true, true, true, true, true, true, true, true] rfl rfl (one_of HT_.out (by kernel_rfl)) (by decide) (fun K hK => ?_)
       refine skip_ (w1 := ?_) (by rfl) rfl ?_ ?_
       rotate_left
       ·go_simp
        rfl
       refine hK.out _ _ ?_
       clear hK K
       refine done_ (done_of HT_.out (by kernel_rfl)) ?_
       try go_wp2
       go_roundg k2
       case measure => have := HK1.out; have := HK2.out; omega
       case rel => exact ⟨(y379), (wrap64 (x23_2 + 1)), rs, H', ⟨by have := HK1.out; have := HK2.out; omega⟩, ⟨by (with_reducible repeat (first | apply Kd.R_alloc | apply Kd.R_drewN | apply Kd.R_drew)); exact Kd.R_mono HQ25.out (fun _ hk => trivial)⟩, ⟨by repeat (first | (with_reducible first | exact HB.out | apply below_alloc | apply pw_below_drewN | apply below_drew1 | refine below_set ?_ GB17.out | refine below_set ?_ GB17.out | refine below_set ?_ GE372.out) | exact HB.out)⟩⟩
      ·rw [if_neg c9] at H
       have c9b0 := decide_eq_false c9
       clear c9
       have H' := am H
       clear H
       go_wp2
       go_roundg k2
       case measure => have := HK1.out; have := HK2.out; omega
       case rel => exact ⟨(x7_2), (wrap64 (x16_1 + 1)), rs, H', ⟨by have := HK1.out; have := HK2.out; omega⟩, ⟨kr HO_7⟩, ⟨bl HB⟩⟩
   ·rw [if_neg c6] at H
    have c6b0 := decide_eq_false c6
    clear c6
    obtain rfl := Option.some.inj H
    go_wp2
    go_ret
    exact ⟨_, rl, kr HO_7, bl HB⟩
def decimal_Mul.f (k : Nat) (a0 : ByteArray) (a1 : ByteArray) : Option (ByteArray) := if (wrap64 ((a0.size : Int) + (a1.size : Int))) ≤ 18 then ((decimal_both.f k a0 a1).bind fun bt380 => ((decimal_Of.f (IntKind.u64.wrap (bt380.1 * bt380.2.1))).bind fun t383 => (some t383))) else (none)
theorem decimal_Mul.calls (k : Nat) (a0 : ByteArray) (a1 : ByteArray) (r : ByteArray) (w : World) (hG : Glob w) (h : decimal_Mul.f k a0 a1 = some r) :
  Calls Tryz.prog 119 #[.string a0, .string a1] w fun e w' => e = .returned (.string r) ∧ Below w.heap.size w w' := by
 have HG0 := am hG
 clear hG
 have HB := am (Below.refl w.heap.size w)
 have H := h
 unfold decimal_Mul.f at H
 clear h
 by_cases c3 : (wrap64 ((a0.size : Int) + (a1.size : Int))) ≤ 18
 case neg => rw [if_neg c3] at H; cases H
 rw [if_pos c3] at H
 have c3b0 := decide_eq_true c3
 clear c3
 obtain ⟨⟨t380, t381, t382⟩, A4, H⟩ := bo H
 try dsimp only at H
 obtain ⟨t383, A5, H⟩ := bo H
 try dsimp only at H
 obtain rfl := Option.some.inj H
 go_enter Tryz.func119, Tryz.ntmps119
 go_wp2_with (first | ((with_reducible refine gc (f := 141) rfl ?_); refine goesM (some 17) Tryz.func141 #[.string a0, .string a1] ?_; (with_reducible refine (decimal_both.calls k a0 a1 t380 t381 t382 _ ?s1 A4.out).mono ?_); (case s1 => exact gb HG0 HB); rintro e w6 ⟨rfl, hb⟩; refine ⟨_, rfl, ?_⟩; replace HB := bs HB hb; (try clear hb)) | ((with_reducible refine gc (f := 122) rfl ?_); refine goesM (some 24) Tryz.func122 #[.int .u64 (IntKind.u64.wrap (t380 * t381))] ?_; (with_reducible refine (decimal_Of.calls (IntKind.u64.wrap (t380 * t381)) t383 _ ?s1 A5.out).mono ?_); (case s1 => exact gb HG0 HB); rintro e w7 ⟨rfl, hb⟩; refine ⟨_, rfl, ?_⟩; replace HB := bs HB hb; (try clear hb)))
 go_ret
 exact ⟨rl, bl HB⟩
def whole_Mul.j0 : Nat → ByteArray → ByteArray → Option (ByteArray)
 | 0, _, _ => none
 | k + 1, x0, x1 => (whole_split.f x0).bind fun bt389 => ((whole_split.f x1).bind fun bt391 => ((decimal_Mul.f k bt389.2 bt391.2).bind fun t393 => ((whole_join.f (bt389.1 != bt391.1) t393).bind fun t394 => (some t394))))
def whole_Mul.f (k : Nat) (a0 : ByteArray) (a1 : ByteArray) : Option (ByteArray) := (wLittle.f a0 9).bind fun bt384 => (if bt384.2 = true then ((wLittle.f a1 9).bind fun bt386 => (if bt386.2 = true then ((whole_Of.f (wrap64 (bt384.1 * bt386.1))).bind fun t388 => (some t388)) else (whole_Mul.j0 k a0 a1))) else (whole_Mul.j0 k a0 a1))
theorem whole_Mul.calls (k : Nat) (a0 : ByteArray) (a1 : ByteArray) (r : ByteArray) (w : World) (hG : Glob w) (h : whole_Mul.f k a0 a1 = some r) :
  Calls Tryz.prog 82 #[.string a0, .string a1] w fun e w' => e = .returned (.string r) ∧ Below w.heap.size w w' := by
 have HG0 := am hG
 clear hG
 have HB := am (Below.refl w.heap.size w)
 have H := h
 unfold whole_Mul.f at H
 clear h
 obtain ⟨⟨t384, t385⟩, A3, H⟩ := bo H
 try dsimp only at H
 have HC4 := am H
 clear H
 go_enter Tryz.func82, Tryz.ntmps82
 go_upto_if 18 with (first | ((with_reducible refine gc (f := 96) rfl ?_); refine goesM (some 15) Tryz.func96 #[.string a0, .int .i64 9] ?_; (with_reducible refine (wLittle.calls a0 9 t384 t385 _ ?s1 A3.out).mono ?_); (case s1 => exact gb HG0 HB); rintro e w5 ⟨rfl, hb⟩; refine ⟨_, rfl, ?_⟩; replace HB := bs HB hb; (try clear hb)))
 (try simp only [Act.put, List.setIfInBounds_toArray, List.set_cons_zero, List.set_cons_succ])
 go_cut [] (fun wc => ∃ (kq : Nat), Aside0 (whole_Mul.j0 kq a0 a1 = some r) ∧ Aside0 (kq ≤ k) ∧ Aside0 (Below w.heap.size w wc))
 case first =>
  have H := HC4.out
  clear HC4
  by_cases c6 : t385 = true
  ·subst c6
   rw [if_pos rfl] at H
   obtain ⟨⟨t386, t387⟩, A7, H⟩ := bo H
   try dsimp only at H
   by_cases c8 : t387 = true
   ·subst c8
    rw [if_pos rfl] at H
    obtain ⟨t388, A9, H⟩ := bo H
    try dsimp only at H
    obtain rfl := Option.some.inj H
    go_wp2_with (first | ((with_reducible refine gc (f := 96) rfl ?_); refine goesM (some 21) Tryz.func96 #[.string a1, .int .i64 9] ?_; (with_reducible refine (wLittle.calls a1 9 t386 true _ ?s1 A7.out).mono ?_); (case s1 => exact gb HG0 HB); rintro e w10 ⟨rfl, hb⟩; refine ⟨_, rfl, ?_⟩; replace HB := bs HB hb; (try clear hb)) | ((with_reducible refine gc (f := 97) rfl ?_); refine goesM (some 28) Tryz.func97 #[.int .i64 (wrap64 (t384 * t386))] ?_; (with_reducible refine (whole_Of.calls (wrap64 (t384 * t386)) t388 _ ?s1 A9.out).mono ?_); (case s1 => exact gb HG0 HB); rintro e w11 ⟨rfl, hb⟩; refine ⟨_, rfl, ?_⟩; replace HB := bs HB hb; (try clear hb)))
    go_ret
    exact ⟨rl, bl HB⟩
   ·replace c8 := Bool.eq_false_iff.mpr c8
    subst c8
    rw [if_neg (show ¬ (false = true) by decide)] at H
    have H' := am H
    clear H
    go_wp2_with (first | ((with_reducible refine gc (f := 96) rfl ?_); refine goesM (some 21) Tryz.func96 #[.string a1, .int .i64 9] ?_; (with_reducible refine (wLittle.calls a1 9 t386 false _ ?s1 A7.out).mono ?_); (case s1 => exact gb HG0 HB); rintro e w12 ⟨rfl, hb⟩; refine ⟨_, rfl, ?_⟩; replace HB := bs HB hb; (try clear hb)))
    go_meet
    case rel => exact ⟨_, H', ⟨by first | omega | exact Nat.le_refl _⟩, ⟨bl HB⟩⟩
  ·replace c6 := Bool.eq_false_iff.mpr c6
   subst c6
   rw [if_neg (show ¬ (false = true) by decide)] at H
   have H' := am H
   clear H
   go_wp2
   go_meet
   case rel => exact ⟨_, H', ⟨by first | omega | exact Nat.le_refl _⟩, ⟨bl HB⟩⟩
 case rest =>
  clear HC4
  try clear p2
  try clear c6
  try clear p6
  try clear c8
  try clear c9
  obtain ⟨kq, HA, HJ3, HB⟩ := hcut
  cases kq with
  | zero => exact absurd HA.out (by simp [whole_Mul.j0])
  | succ kj3 =>
   have H := HA.out
   clear HA
   simp only [whole_Mul.j0] at H
   obtain ⟨⟨t389, t390⟩, A13, H⟩ := bo H
   try dsimp only at H
   obtain ⟨⟨t391, t392⟩, A14, H⟩ := bo H
   try dsimp only at H
   obtain ⟨t393, A15, H⟩ := bo H
   try dsimp only at H
   obtain ⟨t394, A16, H⟩ := bo H
   try dsimp only at H
   obtain rfl := Option.some.inj H
   go_wp2_with (first | ((with_reducible refine gc (f := 76) rfl ?_); refine goesM (some 31) Tryz.func76 #[.string a0] ?_; (with_reducible refine (whole_split.calls a0 t389 t390 _ A13.out).mono ?_); rintro e w' ⟨rfl, ⟨nd, rfl⟩⟩; refine ⟨_, rfl, ?_⟩) | ((with_reducible refine gc (f := 76) rfl ?_); refine goesM (some 36) Tryz.func76 #[.string a1] ?_; (with_reducible refine (whole_split.calls a1 t391 t392 _ A14.out).mono ?_); rintro e w' ⟨rfl, ⟨nd, rfl⟩⟩; refine ⟨_, rfl, ?_⟩) | ((with_reducible refine gc (f := 119) rfl ?_); refine goesM (some 44) Tryz.func119 #[.string t390, .string t392] ?_; (with_reducible refine (decimal_Mul.calls kj3 t390 t392 t393 _ ?s1 A15.out).mono ?_); (case s1 => exact gb HG0 HB); rintro e w17 ⟨rfl, hb⟩; refine ⟨_, rfl, ?_⟩; replace HB := bs HB hb; (try clear hb)) | ((with_reducible refine gc (f := 78) rfl ?_); refine goesM (some 45) Tryz.func78 #[.bool (!(t389 == t391)), .string t393] ?_; (with_reducible refine (whole_join.calls (!(t389 == t391)) t393 t394 _ (by with_unfolding_all exact A16.out)).mono ?_); rintro e w' ⟨rfl, ⟨nd, rfl⟩⟩; refine ⟨_, rfl, ?_⟩))
   go_ret
   exact ⟨rl, bl HB⟩
def decimal_Lcm.j0 : Nat → ByteArray → ByteArray → Bool → Option (ByteArray)
 | 0, _, _, _ => none
 | k + 1, x0, x1, x13 => if x13 = true then (some (⟨#[48]⟩ : ByteArray)) else ((decimal_Gcd.f k x0 x1).bind fun t395 => ((decimal_DivMod.f k x0 t395).bind fun bt396 => (if bt396.2.2 = 0 then ((decimal_Mul.f k bt396.1 x1).bind fun t399 => (some t399)) else (some (⟨#[]⟩ : ByteArray)))))
def decimal_Lcm.f (k : Nat) (a0 : ByteArray) (a1 : ByteArray) : Option (ByteArray) := if a0.toList = ([48] : List UInt8) then (decimal_Lcm.j0 k a0 a1 true) else (decimal_Lcm.j0 k a0 a1 (a1.toList == ([48] : List UInt8)))
theorem decimal_Lcm.calls (k : Nat) (a0 : ByteArray) (a1 : ByteArray) (r : ByteArray) (w : World) (hG : Glob w) (h : decimal_Lcm.f k a0 a1 = some r) :
  Calls Tryz.prog 133 #[.string a0, .string a1] w fun e w' => e = .returned (.string r) ∧ Below w.heap.size w w' := by
 have HG0 := am hG
 clear hG
 have HB := am (Below.refl w.heap.size w)
 have H := h
 unfold decimal_Lcm.f at H
 clear h
 have HC3 := am H
 clear H
 go_enter Tryz.func133, Tryz.ntmps133
 go_upto_region 1 with (fail)
 go_cut [13] (fun v13 wc => ∃ (kq : Nat) (x13_2 : Bool), v13 = .bool x13_2 ∧ Aside0 (decimal_Lcm.j0 kq a0 a1 x13_2 = some r) ∧ Aside0 (kq ≤ k) ∧ Aside0 (Below w.heap.size w wc))
 case first =>
  have H := HC3.out
  clear HC3
  by_cases c4 : a0.toList = ([48] : List UInt8)
  ·rw [if_pos c4] at H
   have c4b0 := beq_iff_eq.mpr c4
   have c4b1 := bne_eq_false_iff_eq.mpr c4
   clear c4
   (first | rw [c4b0] | (simp only [i64_w, i32_w]; rw [c4b0]) | skip)
   have H' := am H
   clear H
   go_wp2
   go_meet
   case rel => exact ⟨_, (true), rs, H', ⟨by first | omega | exact Nat.le_refl _⟩, ⟨bl HB⟩⟩
  ·rw [if_neg c4] at H
   have c4b0 := beq_eq_false_iff_ne.mpr c4
   have c4b1 := bne_iff_ne.mpr c4
   (first | rw [c4b0] | (simp only [i64_w, i32_w]; rw [c4b0]) | skip)
   have H' := am H
   clear H
   go_wp2
   go_meet
   case rel => exact ⟨_, ((a1.toList == ([48] : List UInt8))), rs, H', ⟨by first | omega | exact Nat.le_refl _⟩, ⟨bl HB⟩⟩
 case rest =>
  clear HC3
  try clear c1
  try clear p2
  try clear c4
  try clear c4b0
  try clear c4b1
  obtain ⟨kq, x13_2, rfl, HA, HJ2, HB⟩ := hcut
  cases kq with
  | zero => exact absurd HA.out (by simp [decimal_Lcm.j0])
  | succ kj2 =>
   have H := HA.out
   clear HA
   simp only [decimal_Lcm.j0] at H
   by_cases c5 : x13_2 = true
   ·subst c5
    rw [if_pos rfl] at H
    obtain rfl := Option.some.inj H
    go_wp2
    go_ret
    exact ⟨rl, bl HB⟩
   ·replace c5 := Bool.eq_false_iff.mpr c5
    subst c5
    rw [if_neg (show ¬ (false = true) by decide)] at H
    obtain ⟨t395, A6, H⟩ := bo H
    try dsimp only at H
    obtain ⟨⟨t396, t397, t398⟩, A7, H⟩ := bo H
    try dsimp only at H
    by_cases c8 : t398 = 0
    ·rw [if_pos c8] at H
     have c8b0 := beq_iff_eq.mpr c8
     have c8b1 := bne_eq_false_iff_eq.mpr c8
     clear c8
     obtain ⟨t399, A9, H⟩ := bo H
     try dsimp only at H
     obtain rfl := Option.some.inj H
     go_wp2_with (first | ((with_reducible refine gc (f := 99) rfl ?_); refine goesM (some 18) Tryz.func99 #[.string a0, .string a1] ?_; (with_reducible refine (decimal_Gcd.calls kj2 a0 a1 t395 _ ?s1 A6.out).mono ?_); (case s1 => exact gb HG0 HB); rintro e w10 ⟨rfl, hb⟩; refine ⟨_, rfl, ?_⟩; replace HB := bs HB hb; (try clear hb)) | ((with_reducible refine gc (f := 129) rfl ?_); refine goesM (some 19) Tryz.func129 #[.string a0, .string t395] ?_; (with_reducible refine (decimal_DivMod.calls kj2 a0 t395 t396 t397 t398 _ ?s1 A7.out).mono ?_); (case s1 => exact gb HG0 HB); rintro e w11 ⟨rfl, hb⟩; refine ⟨_, rfl, ?_⟩; replace HB := bs HB hb; (try clear hb)) | ((with_reducible refine gc (f := 119) rfl ?_); refine goesM (some 27) Tryz.func119 #[.string t396, .string a1] ?_; (with_reducible refine (decimal_Mul.calls kj2 t396 a1 t399 _ ?s1 A9.out).mono ?_); (case s1 => exact gb HG0 HB); rintro e w12 ⟨rfl, hb⟩; refine ⟨_, rfl, ?_⟩; replace HB := bs HB hb; (try clear hb)))
     go_ret
     exact ⟨rl, bl HB⟩
    ·rw [if_neg c8] at H
     have c8b0 := beq_eq_false_iff_ne.mpr c8
     have c8b1 := bne_iff_ne.mpr c8
     obtain rfl := Option.some.inj H
     go_wp2_with (first | ((with_reducible refine gc (f := 99) rfl ?_); refine goesM (some 18) Tryz.func99 #[.string a0, .string a1] ?_; (with_reducible refine (decimal_Gcd.calls kj2 a0 a1 t395 _ ?s1 A6.out).mono ?_); (case s1 => exact gb HG0 HB); rintro e w13 ⟨rfl, hb⟩; refine ⟨_, rfl, ?_⟩; replace HB := bs HB hb; (try clear hb)) | ((with_reducible refine gc (f := 129) rfl ?_); refine goesM (some 19) Tryz.func129 #[.string a0, .string t395] ?_; (with_reducible refine (decimal_DivMod.calls kj2 a0 t395 t396 t397 t398 _ ?s1 A7.out).mono ?_); (case s1 => exact gb HG0 HB); rintro e w14 ⟨rfl, hb⟩; refine ⟨_, rfl, ?_⟩; replace HB := bs HB hb; (try clear hb)))
     go_ret
     exact ⟨rl, bl HB⟩
def whole_Lcm.f (k : Nat) (a0 : ByteArray) (a1 : ByteArray) : Option (ByteArray) := (whole_Abs.f a0).bind fun t400 => ((whole_Abs.f a1).bind fun t401 => ((decimal_Lcm.f k t400 t401).bind fun t402 => (some t402)))
theorem whole_Lcm.calls (k : Nat) (a0 : ByteArray) (a1 : ByteArray) (r : ByteArray) (w : World) (hG : Glob w) (h : whole_Lcm.f k a0 a1 = some r) :
  Calls Tryz.prog 106 #[.string a0, .string a1] w fun e w' => e = .returned (.string r) ∧ Below w.heap.size w w' := by
 have HG0 := am hG
 clear hG
 have HB := am (Below.refl w.heap.size w)
 have H := h
 unfold whole_Lcm.f at H
 clear h
 obtain ⟨t400, A3, H⟩ := bo H
 try dsimp only at H
 obtain ⟨t401, A4, H⟩ := bo H
 try dsimp only at H
 obtain ⟨t402, A5, H⟩ := bo H
 try dsimp only at H
 obtain rfl := Option.some.inj H
 go_enter Tryz.func106, Tryz.ntmps106
 go_wp2_with (first | ((with_reducible refine gc (f := 63) rfl ?_); refine goesM (some 6) Tryz.func63 #[.string a0] ?_; (with_reducible refine (whole_Abs.calls a0 t400 _ A3.out).mono ?_); rintro e w' ⟨rfl, ⟨nd, rfl⟩⟩; refine ⟨_, rfl, ?_⟩) | ((with_reducible refine gc (f := 63) rfl ?_); refine goesM (some 8) Tryz.func63 #[.string a1] ?_; (with_reducible refine (whole_Abs.calls a1 t401 _ A4.out).mono ?_); rintro e w' ⟨rfl, ⟨nd, rfl⟩⟩; refine ⟨_, rfl, ?_⟩) | ((with_reducible refine gc (f := 133) rfl ?_); refine goesM (some 9) Tryz.func133 #[.string t400, .string t401] ?_; (with_reducible refine (decimal_Lcm.calls k t400 t401 t402 _ ?s1 A5.out).mono ?_); (case s1 => exact gb HG0 HB); rintro e w6 ⟨rfl, hb⟩; refine ⟨_, rfl, ?_⟩; replace HB := bs HB hb; (try clear hb)))
 go_ret
 exact ⟨rl, bl HB⟩
mutual
def size_termsOf.l0 : Nat → List Int → List (S30) → List (S30) → Int → Int → ByteArray → Option (List Int × List ByteArray × ByteArray)
 | 0, _, _, _, _, _, _ => none
 | k + 1, x0, x1, x14, x15, x16, x405002 => if x16 < x15 then (if 0 ≤ x16 then (if x16 < (x14.length : Int) then ((whole_Lcm.f k x405002 ((rd_T30 x14 x16).f1)).bind fun t407 => (size_termsOf.l0 k x0 x1 x14 x15 (wrap64 (x16 + 1)) t407)) else (none)) else (none)) else (size_termsOf.l1 k x0 x1 (x1.length : Int) 0 ([] : List Int) ([] : List ByteArray) x405002)
def size_termsOf.l1 : Nat → List Int → List (S30) → Int → Int → List Int → List ByteArray → ByteArray → Option (List Int × List ByteArray × ByteArray)
 | 0, _, _, _, _, _, _, _ => none
 | k + 1, x0, x27, x28, x29, x405000, x405001, x405002 => if x29 < x28 then (if 0 ≤ x29 then (if x29 < (x27.length : Int) then (if ((rd_T30 x27 x29).f0).toList = ([48] : List UInt8) then (size_termsOf.l1 k x0 x27 x28 (wrap64 (x29 + 1)) x405000 x405001 x405002) else ((whole_DivMod.f k x405002 ((rd_T30 x27 x29).f1)).bind fun bt410 => (if x29 < (x0.length : Int) then (if x405000.length < 17592186044416 then ((whole_Mul.f k ((rd_T30 x27 x29).f0) bt410.1).bind fun t417 => (if x405001.length < 8796093022208 then (size_termsOf.l1 k x0 x27 x28 (wrap64 (x29 + 1)) (x405000 ++ [rd x0 x29]) (x405001 ++ [t417]) x405002) else (none))) else (none)) else (none)))) else (none)) else (none)) else (some (x405000, x405001, x405002))
end
def size_termsOf.f (k : Nat) (l0 : List Int) (l1 : List (S30)) : Option (List Int × List ByteArray × ByteArray) := size_termsOf.l0 k l0 l1 l1 (l1.length : Int) 0 (⟨#[49]⟩ : ByteArray)
def size_termsOf.T12 : Bool × List (List Nat × List Nat) := (true, [([], []), ([0], [0]), ([], []), ([], []), ([2, 3], [2, 3]), ([4], [4]), ([5], [5]), ([1, 6], [1, 6]), ([], []), ([8], [8]), ([], []), ([10], [10]), ([], []), ([11, 12, 7], [11, 12]), ([13], [13]), ([9, 14, 13], [9, 14]), ([0, 1, 2, 3, 4, 5, 6, 7, 8, 9], []), ([16, 7, 15, 0, 1, 2, 3, 4, 5, 6, 7, 8, 9], [7, 16]), ([0, 1, 2, 3, 4, 5, 6, 7, 8, 9, 10, 11, 12, 13, 14, 15, 16, 17], []), ([18, 15, 17, 0, 1, 2, 3, 4, 5, 6, 7, 8, 9, 10, 11, 12, 13, 14, 15, 16, 17], [15, 18])])
def size_termsOf.B12 : List Nat := [0, 1, 0, 0, 12, 28, 60, 127, 0, 256, 0, 1024, 0, 7423, 15615, 32767, 1023, 131071, 262143, 524287]
theorem size_termsOf.tab12 : rtab .any (opsOf Tryz.f66 12) = size_termsOf.T12 := by kernel_rfl
theorem size_termsOf.bits12 : waitsOk size_termsOf.T12.2 size_termsOf.B12 = true := by kernel_rfl
theorem size_termsOf.calls (k : Nat) (A0 : Option Addr) (c0 : Nat) (l0 : List Int) (A1 : Option Addr) (c1 : Nat) (l1 : List (S30)) (r1 : List Int) (r2 : List ByteArray) (r3 : ByteArray) (w : World) (hG : Glob w) (hr0 : Kd.C (Kd.int .i64) w A0 l0.length l0) (hc0 : l0.length ≤ c0) (hr1 : Kd.C k30 w A1 l1.length l1) (hc1 : l1.length ≤ c1) (h : size_termsOf.f k l0 l1 = some (r1, r2, r3)) :
  Calls Tryz.prog 66 #[.slice A0 l0.length c0, .slice A1 l1.length c1] w fun e w' => ∃ v0_ v1_ : Value, e = .returned (.agg #[v0_, v1_, .string r3]) ∧ Kd.R (Kd.int .i64) 3 w' w.heap.size (fun _ => True) v0_ r1 ∧ Kd.R Kd.string 28 w' w.heap.size (fun _ => True) v1_ r2 ∧ Below w.heap.size w w' := by
 have hu103 := Tryz.underlying103
 have hu30 := Tryz.underlying30
 have HR0 := am hr0
 have HC0 := am hc0
 clear hr0 hc0
 have HR1 := am hr1
 have HC1 := am hc1
 clear hr1 hc1
 have HG0 := am hG
 clear hG
 have HB := am (Below.refl w.heap.size w)
 have H := h
 unfold size_termsOf.f at H
 clear h
 have H' := am H
 clear H
 go_enter Tryz.func66, Tryz.ntmps66
 go_wp2_with (first | ((with_reducible refine gd (N := 4) rfl ?_); refine boxM (N := 4) #[.slice none 0 0, .slice none 0 0, .string (⟨#[]⟩ : ByteArray)] 103 ?_; intro gb403 hg w3 hbox hb; have BK403 := am (hbox); have GW403 := gw hg HB; have GE403 := GW403; replace HB := bs HB hb; clear hb hbox hg) | ((with_reducible refine gd (N := 5) rfl ?_); refine boxM (N := 5) #[.slice none 0 0, .slice none 0 0, .string (⟨#[]⟩ : ByteArray)] 103 ?_; intro gb404 hg w4 hbox hb; have BK404 := am (hbox); have GW404 := gw hg HB; have GE404 := GW404; replace HB := bs HB hb; have NB403_404 := nl hg BK403; have NB404_403 := ng hg BK403; replace BK403 := kb BK403 hb; clear hb hbox hg; have hnb5 := NB404_403.out; have hnc5 := NB403_404.out; have hcz6_0 := bc BK404 0 (.slice none 0 0); have hcz6_1 := bc BK404 1 (.slice none 0 0); have hcz6_2 := bc BK404 2 (.string (⟨#[]⟩ : ByteArray)); have hfz6_0 := blk_frozen BK404.out 0; have hfz6_1 := blk_frozen BK404.out 1; have hfz6_2 := blk_frozen BK404.out 2))
 go_loopg [16] k (fun kq v16 w' => ∃ (x16_1 : Int) (x405002_1 : ByteArray), v16 = .int .i64 x16_1 ∧ Aside0 (size_termsOf.l0 kq l0 l1 l1 (l1.length : Int) x16_1 x405002_1 = some (r1, r2, r3)) ∧ Aside0 (kq ≤ k) ∧ Aside0 (w'.heap[gb403]? = some (.cells #[(.slice none 0 0), (.slice none 0 0), .string (⟨#[]⟩ : ByteArray)] 103 (0, 0))) ∧ Aside0 (w'.heap[gb404]? = some (.cells #[(.slice none 0 0), (.slice none 0 0), .string x405002_1] 103 (0, 0))) ∧ Aside0 (Below w.heap.size w w'))
 case atStart => exact ⟨(0), ((⟨#[49]⟩ : ByteArray)), rs, H', ⟨Nat.le_refl _⟩, ⟨by (with_reducible repeat (first | refine blk_drewN ?_ _ | refine blk_drew ?_ | refine blk_alloc ?_ _)); refine blk_far ?_ NB403_404.out _; (with_reducible repeat (first | refine blk_drewN ?_ _ | refine blk_drew ?_ | refine blk_alloc ?_ _)); refine blk_far ?_ NB403_404.out _; (with_reducible repeat (first | refine blk_drewN ?_ _ | refine blk_drew ?_ | refine blk_alloc ?_ _)); refine blk_far ?_ NB403_404.out _; (with_reducible repeat (first | refine blk_drewN ?_ _ | refine blk_drew ?_ | refine blk_alloc ?_ _)); exact BK403.out⟩, ⟨by (with_reducible repeat (first | refine blk_drewN ?_ _ | refine blk_drew ?_ | refine blk_alloc ?_ _)); refine blk_put (cs := #[.slice none 0 0, .slice none 0 0, .string (⟨#[]⟩ : ByteArray)]) ?_ 2 _ rfl; (with_reducible repeat (first | refine blk_drewN ?_ _ | refine blk_drew ?_ | refine blk_alloc ?_ _)); refine blk_put (cs := #[.slice none 0 0, .slice none 0 0, .string (⟨#[]⟩ : ByteArray)]) ?_ 1 _ rfl; (with_reducible repeat (first | refine blk_drewN ?_ _ | refine blk_drew ?_ | refine blk_alloc ?_ _)); refine blk_put (cs := #[.slice none 0 0, .slice none 0 0, .string (⟨#[]⟩ : ByteArray)]) ?_ 0 _ rfl; (with_reducible repeat (first | refine blk_drewN ?_ _ | refine blk_drew ?_ | refine blk_alloc ?_ _)); exact BK404.out⟩, ⟨bl HB⟩⟩
 case round =>
  clear H'
  try clear c1
  try clear p2
  try clear c5
  try clear c6
  try clear hcz6_0
  try clear hcz6_1
  try clear hcz6_2
  try clear hfz6_0
  try clear hfz6_1
  try clear hfz6_2
  obtain ⟨x16_1, x405002_1, rfl, HA, HK1, BK403, BK404, HB⟩ := hrel
  cases gk with
  | zero => exact absurd HA.out (by simp [size_termsOf.l0])
  | succ k1 =>
   have H := HA.out
   clear HA
   simp only [size_termsOf.l0] at H
   by_cases c7 : x16_1 < (l1.length : Int)
   ·rw [if_pos c7] at H
    have c7b0 := decide_eq_true c7
    clear c7
    by_cases c8 : 0 ≤ x16_1
    case neg => rw [if_neg c8] at H; cases H
    rw [if_pos c8] at H
    have c8b0 := decide_eq_true c8
    clear c8
    by_cases c9 : x16_1 < (l1.length : Int)
    case neg => rw [if_neg c9] at H; cases H
    rw [if_pos c9] at H
    have c9b0 := decide_eq_true c9
    clear c9
    obtain ⟨t407, A10, H⟩ := bo H
    try dsimp only at H
    have H' := am H
    clear H
    have p405 : 0 ≤ (x16_1 : Int) := of_decide_eq_true (by first | (with_reducible assumption) | assumption)
    have q405 : x16_1 < (l1.length : Int) := of_decide_eq_true (by first | (with_reducible assumption) | assumption)
    obtain ⟨ad405, e405, hx405_0, hx405_1⟩ := at_T30 HR1.out x16_1 p405 q405
    cases e405
    replace hx405_0 := (HB.out.cell (World.block_lt_of_cell? w _ hx405_0)).trans hx405_0
    replace hx405_1 := (HB.out.cell (World.block_lt_of_cell? w _ hx405_1)).trans hx405_1
    replace p405 := eq_true p405
    replace q405 := eq_true q405
    go_wp2_with (first | ((with_reducible refine gd (N := 7) rfl ?_); refine boxM (N := 7) #[.string (⟨#[]⟩ : ByteArray), .string (⟨#[]⟩ : ByteArray)] 30 ?_; intro gb406 hg w11 hbox hb; have BK406 := am (hbox); have GW406 := gw hg HB; have GE406 := GW406; replace HB := bs HB hb; have NB403_406 := nl hg BK403; have NB406_403 := ng hg BK403; replace BK403 := kb BK403 hb; have NB404_406 := nl hg BK404; have NB406_404 := ng hg BK404; replace BK404 := kb BK404 hb; clear hb hbox hg; have hnb12 := NB406_403.out; have hnc12 := NB403_406.out; have hnb13 := NB406_404.out; have hnc13 := NB404_406.out; have hcz14_0 := bc BK406 0 (.string (⟨#[]⟩ : ByteArray)); have hcz14_1 := bc BK406 1 (.string (⟨#[]⟩ : ByteArray)); have hfz14_0 := blk_frozen BK406.out 0; have hfz14_1 := blk_frozen BK406.out 1; have hnb15 := NB404_403.out; have hnc15 := NB403_404.out; have hcz16_0 := bc BK404 0 (.slice none 0 0); have hcz16_1 := bc BK404 1 (.slice none 0 0); have hcz16_2 := bc BK404 2 (.string x405002_1); have hfz16_0 := blk_frozen BK404.out 0; have hfz16_1 := blk_frozen BK404.out 1; have hfz16_2 := blk_frozen BK404.out 2) | ((with_reducible refine gc (f := 106) rfl ?_); refine goesM (some 24) Tryz.func106 #[.string x405002_1, .string ((rd_T30 l1 x16_1).f1)] ?_; (with_reducible refine (whole_Lcm.calls k1 x405002_1 ((rd_T30 l1 x16_1).f1) t407 _ ?s1 A10.out).mono ?_); (case s1 => exact gb HG0 HB); rintro e w17 ⟨rfl, hb⟩; refine ⟨_, rfl, ?_⟩; replace BK403 := am (blk_below (g := gb403) (o := .cells #[.slice none 0 0, .slice none 0 0, .string (⟨#[]⟩ : ByteArray)] 103 (0, 0)) (by (with_reducible repeat (first | refine blk_drewN ?_ _ | refine blk_drew ?_ | refine blk_alloc ?_ _)); refine blk_far ?_ NB403_406.out _; (with_reducible repeat (first | refine blk_drewN ?_ _ | refine blk_drew ?_ | refine blk_alloc ?_ _)); refine blk_far ?_ NB403_406.out _; (with_reducible repeat (first | refine blk_drewN ?_ _ | refine blk_drew ?_ | refine blk_alloc ?_ _)); exact BK403.out) hb); replace BK404 := am (blk_below (g := gb404) (o := .cells #[.slice none 0 0, .slice none 0 0, .string x405002_1] 103 (0, 0)) (by (with_reducible repeat (first | refine blk_drewN ?_ _ | refine blk_drew ?_ | refine blk_alloc ?_ _)); refine blk_far ?_ NB404_406.out _; (with_reducible repeat (first | refine blk_drewN ?_ _ | refine blk_drew ?_ | refine blk_alloc ?_ _)); refine blk_far ?_ NB404_406.out _; (with_reducible repeat (first | refine blk_drewN ?_ _ | refine blk_drew ?_ | refine blk_alloc ?_ _)); exact BK404.out) hb); replace BK406 := am (blk_below (g := gb406) (o := .cells #[.string ((rd_T30 l1 x16_1).f0), .string ((rd_T30 l1 x16_1).f1)] 30 (0, 0)) (by (with_reducible repeat (first | refine blk_drewN ?_ _ | refine blk_drew ?_ | refine blk_alloc ?_ _)); refine blk_put (cs := #[.string ((rd_T30 l1 x16_1).f0), .string (⟨#[]⟩ : ByteArray)]) ?_ 1 _ rfl; (with_reducible repeat (first | refine blk_drewN ?_ _ | refine blk_drew ?_ | refine blk_alloc ?_ _)); refine blk_put (cs := #[.string (⟨#[]⟩ : ByteArray), .string (⟨#[]⟩ : ByteArray)]) ?_ 0 _ rfl; (with_reducible repeat (first | refine blk_drewN ?_ _ | refine blk_drew ?_ | refine blk_alloc ?_ _)); exact BK406.out) hb); replace HB := bs HB hb; (try clear hb); have hcz18_0 := bc BK404 0 (.slice none 0 0); have hcz18_1 := bc BK404 1 (.slice none 0 0); have hcz18_2 := bc BK404 2 (.string x405002_1); have hfz18_0 := blk_frozen BK404.out 0; have hfz18_1 := blk_frozen BK404.out 1; have hfz18_2 := blk_frozen BK404.out 2))
    go_roundg k1
    case measure => have := HK1.out; omega
    case rel => exact ⟨(wrap64 (x16_1 + 1)), (t407), rs, H', ⟨by have := HK1.out; omega⟩, ⟨by (with_reducible repeat (first | refine blk_drewN ?_ _ | refine blk_drew ?_ | refine blk_alloc ?_ _)); refine blk_far ?_ NB403_404.out _; (with_reducible repeat (first | refine blk_drewN ?_ _ | refine blk_drew ?_ | refine blk_alloc ?_ _)); exact BK403.out⟩, ⟨by (with_reducible repeat (first | refine blk_drewN ?_ _ | refine blk_drew ?_ | refine blk_alloc ?_ _)); refine blk_put (cs := #[.slice none 0 0, .slice none 0 0, .string x405002_1]) ?_ 2 _ rfl; (with_reducible repeat (first | refine blk_drewN ?_ _ | refine blk_drew ?_ | refine blk_alloc ?_ _)); exact BK404.out⟩, ⟨bl HB⟩⟩
   ·rw [if_neg c7] at H
    have c7b0 := decide_eq_false c7
    clear c7
    have H' := am H
    clear H
    go_wp2
    go_loopg [29] k1 (fun kq v29 w' => ∃ (x29_2 : Int) (x405000_2 : List Int) (x405001_2 : List ByteArray) (u405000 : Value) (u405001 : Value), v29 = .int .i64 x29_2 ∧ Aside0 (size_termsOf.l1 kq l0 l1 (l1.length : Int) x29_2 x405000_2 x405001_2 x405002_1 = some (r1, r2, r3)) ∧ Aside0 (kq ≤ k1) ∧ Aside0 (Kd.R (Kd.int .i64) 3 w' w.heap.size (fun _ => True) u405000 x405000_2) ∧ Aside0 (Kd.R Kd.string 28 w' w.heap.size (fun _ => True) u405001 x405001_2) ∧ Aside0 (w'.heap[gb403]? = some (.cells #[(.slice none 0 0), (.slice none 0 0), .string (⟨#[]⟩ : ByteArray)] 103 (0, 0))) ∧ Aside0 (w'.heap[gb404]? = some (.cells #[u405000, u405001, .string x405002_1] 103 (0, 0))) ∧ Aside0 (Below w.heap.size w w'))
    case atStart => exact ⟨(0), (([] : List Int)), (([] : List ByteArray)), (.slice none 0 0), (.slice none 0 0), rs, H', ⟨Nat.le_refl _⟩, ⟨by first | exact Kd.R_nil _ _ _ _ _ | exact Kd.N_nil _ _ _ _ _ | exact Kd.V_nil _ _ _ _ _ | exact Kd.Q_nil _ _ _ _ _ | exact Kd.S_nil _ _ _ _ _⟩, ⟨by first | exact Kd.R_nil _ _ _ _ _ | exact Kd.N_nil _ _ _ _ _ | exact Kd.V_nil _ _ _ _ _ | exact Kd.Q_nil _ _ _ _ _ | exact Kd.S_nil _ _ _ _ _⟩, ⟨bk BK403⟩, ⟨bk BK404⟩, ⟨bl HB⟩⟩
    case round =>
     clear H'
     try clear c1
     try clear p2
     try clear p4
     try clear q4
     try clear hx4
     try clear c5
     try clear c6
     try clear p6
     try clear c7
     try clear c7b0
     try clear c8
     try clear c8b0
     try clear c9
     try clear c9b0
     try clear c10
     try clear c12
     try clear c13
     try clear c15
     try clear hcz14_0
     try clear hcz14_1
     try clear hcz16_0
     try clear hcz16_1
     try clear hcz16_2
     try clear hcz18_0
     try clear hcz18_1
     try clear hcz18_2
     try clear hcz6_0
     try clear hcz6_1
     try clear hcz6_2
     try clear hfz14_0
     try clear hfz14_1
     try clear hfz16_0
     try clear hfz16_1
     try clear hfz16_2
     try clear hfz18_0
     try clear hfz18_1
     try clear hfz18_2
     try clear hfz6_0
     try clear hfz6_1
     try clear hfz6_2
     try clear hx405_0
     try clear hx405_1
     try clear p2
     try clear p405
     try clear q405
     obtain ⟨x29_2, x405000_2, x405001_2, u405000, u405001, rfl, HA, HK2, HO_405000, HO_405001, BK403, BK404, HB⟩ := hrel
     cases gk with
     | zero => exact absurd HA.out (by simp [size_termsOf.l1])
     | succ k2 =>
      have H := HA.out
      clear HA
      simp only [size_termsOf.l1] at H
      by_cases c19 : x29_2 < (l1.length : Int)
      ·rw [if_pos c19] at H
       have c19b0 := decide_eq_true c19
       clear c19
       by_cases c20 : 0 ≤ x29_2
       case neg => rw [if_neg c20] at H; cases H
       rw [if_pos c20] at H
       have c20b0 := decide_eq_true c20
       clear c20
       by_cases c21 : x29_2 < (l1.length : Int)
       case neg => rw [if_neg c21] at H; cases H
       rw [if_pos c21] at H
       have c21b0 := decide_eq_true c21
       clear c21
       by_cases c22 : ((rd_T30 l1 x29_2).f0).toList = ([48] : List UInt8)
       ·rw [if_pos c22] at H
        have c22b0 := beq_iff_eq.mpr c22
        have c22b1 := bne_eq_false_iff_eq.mpr c22
        clear c22
        have H' := am H
        clear H
        have p408 : 0 ≤ (x29_2 : Int) := of_decide_eq_true (by first | (with_reducible assumption) | assumption)
        have q408 : x29_2 < (l1.length : Int) := of_decide_eq_true (by first | (with_reducible assumption) | assumption)
        obtain ⟨ad408, e408, hx408_0, hx408_1⟩ := at_T30 HR1.out x29_2 p408 q408
        cases e408
        replace hx408_0 := (HB.out.cell (World.block_lt_of_cell? w _ hx408_0)).trans hx408_0
        replace hx408_1 := (HB.out.cell (World.block_lt_of_cell? w _ hx408_1)).trans hx408_1
        replace p408 := eq_true p408
        replace q408 := eq_true q408
        go_wp2_with (first | ((with_reducible refine gd (N := 9) rfl ?_); refine boxM (N := 9) #[.string (⟨#[]⟩ : ByteArray), .string (⟨#[]⟩ : ByteArray)] 30 ?_; intro gb409 hg w23 hbox hb; replace HO_405000 := rb HO_405000 hb; replace HO_405001 := rb HO_405001 hb; have BK409 := am (hbox); have GW409 := gw hg HB; have GE409 := GW409; replace HB := bs HB hb; have NB403_409 := nl hg BK403; have NB409_403 := ng hg BK403; replace BK403 := kb BK403 hb; have NB404_409 := nl hg BK404; have NB409_404 := ng hg BK404; replace BK404 := kb BK404 hb; clear hb hbox hg; have hnb24 := NB409_403.out; have hnc24 := NB403_409.out; have hnb25 := NB409_404.out; have hnc25 := NB404_409.out; have hcz26_0 := bc BK409 0 (.string (⟨#[]⟩ : ByteArray)); have hcz26_1 := bc BK409 1 (.string (⟨#[]⟩ : ByteArray)); have hfz26_0 := blk_frozen BK409.out 0; have hfz26_1 := blk_frozen BK409.out 1))
        go_roundg k2
        case measure => have := HK1.out; have := HK2.out; omega
        case rel => exact ⟨(wrap64 (x29_2 + 1)), (x405000_2), (x405001_2), (u405000), (u405001), rs, H', ⟨by have := HK1.out; have := HK2.out; omega⟩, ⟨by (with_reducible repeat (first | apply Kd.R_alloc | apply Kd.R_drewN | apply Kd.R_drew)); exact Kd.R_mono (Kd.R_far (p := ⟨gb409, 1, none⟩) (Kd.R_far (p := ⟨gb409, 0, none⟩) (Kd.R_types HO_405000.out BK409.out (by decide)) (fun _ hk => hk.2) (.string ((rd_T30 l1 x29_2).f0))) (fun _ hk => hk.2) (.string ((rd_T30 l1 x29_2).f1))) (fun _ hk => trivial)⟩, ⟨by (with_reducible repeat (first | apply Kd.R_alloc | apply Kd.R_drewN | apply Kd.R_drew)); exact Kd.R_mono (Kd.R_far (p := ⟨gb409, 1, none⟩) (Kd.R_far (p := ⟨gb409, 0, none⟩) (Kd.R_types HO_405001.out BK409.out (by decide)) (fun _ hk => hk.2) (.string ((rd_T30 l1 x29_2).f0))) (fun _ hk => hk.2) (.string ((rd_T30 l1 x29_2).f1))) (fun _ hk => trivial)⟩, ⟨by (with_reducible repeat (first | refine blk_drewN ?_ _ | refine blk_drew ?_ | refine blk_alloc ?_ _)); refine blk_far ?_ NB403_409.out _; (with_reducible repeat (first | refine blk_drewN ?_ _ | refine blk_drew ?_ | refine blk_alloc ?_ _)); refine blk_far ?_ NB403_409.out _; (with_reducible repeat (first | refine blk_drewN ?_ _ | refine blk_drew ?_ | refine blk_alloc ?_ _)); exact BK403.out⟩, ⟨by (with_reducible repeat (first | refine blk_drewN ?_ _ | refine blk_drew ?_ | refine blk_alloc ?_ _)); refine blk_far ?_ NB404_409.out _; (with_reducible repeat (first | refine blk_drewN ?_ _ | refine blk_drew ?_ | refine blk_alloc ?_ _)); refine blk_far ?_ NB404_409.out _; (with_reducible repeat (first | refine blk_drewN ?_ _ | refine blk_drew ?_ | refine blk_alloc ?_ _)); exact BK404.out⟩, ⟨bl HB⟩⟩
       ·rw [if_neg c22] at H
        have c22b0 := beq_eq_false_iff_ne.mpr c22
        have c22b1 := bne_iff_ne.mpr c22
        obtain ⟨⟨t410, t411, t412⟩, A27, H⟩ := bo H
        try dsimp only at H
        by_cases c28 : x29_2 < (l0.length : Int)
        case neg => rw [if_neg c28] at H; cases H
        rw [if_pos c28] at H
        have c28b0 := decide_eq_true c28
        clear c28
        by_cases c29 : x405000_2.length < 17592186044416
        case neg => rw [if_neg c29] at H; cases H
        rw [if_pos c29] at H
        have LMc29 := am c29
        clear c29
        obtain ⟨y414, hy414⟩ : ∃ y_ : List Int, y_ = (x405000_2 ++ [rd l0 x29_2]) := ⟨_, rfl⟩
        first | rw [Option.bind_some, ← hy414] at H | rw [← hy414] at H
        have Ny414 := am hy414
        clear hy414
        obtain ⟨t417, A30, H⟩ := bo H
        try dsimp only at H
        by_cases c31 : x405001_2.length < 8796093022208
        case neg => rw [if_neg c31] at H; cases H
        rw [if_pos c31] at H
        have LMc31 := am c31
        clear c31
        obtain ⟨y418, hy418⟩ : ∃ y_ : List ByteArray, y_ = (x405001_2 ++ [t417]) := ⟨_, rfl⟩
        first | rw [Option.bind_some, ← hy418] at H | rw [← hy418] at H
        have Ny418 := am hy418
        clear hy418
        have H' := am H
        clear H
        have p408 : 0 ≤ (x29_2 : Int) := of_decide_eq_true (by first | (with_reducible assumption) | assumption)
        have q408 : x29_2 < (l1.length : Int) := of_decide_eq_true (by first | (with_reducible assumption) | assumption)
        obtain ⟨ad408, e408, hx408_0, hx408_1⟩ := at_T30 HR1.out x29_2 p408 q408
        cases e408
        replace hx408_0 := (HB.out.cell (World.block_lt_of_cell? w _ hx408_0)).trans hx408_0
        replace hx408_1 := (HB.out.cell (World.block_lt_of_cell? w _ hx408_1)).trans hx408_1
        replace p408 := eq_true p408
        replace q408 := eq_true q408
        try go_wp2_with (first | ((with_reducible refine gd (N := 9) rfl ?_); refine boxM (N := 9) #[.string (⟨#[]⟩ : ByteArray), .string (⟨#[]⟩ : ByteArray)] 30 ?_; intro gb409 hg w32 hbox hb; replace HO_405000 := rb HO_405000 hb; replace HO_405001 := rb HO_405001 hb; have BK409 := am (hbox); have GW409 := gw hg HB; have GE409 := GW409; replace HB := bs HB hb; have NB403_409 := nl hg BK403; have NB409_403 := ng hg BK403; replace BK403 := kb BK403 hb; have NB404_409 := nl hg BK404; have NB409_404 := ng hg BK404; replace BK404 := kb BK404 hb; clear hb hbox hg; have hnb33 := NB409_403.out; have hnc33 := NB403_409.out; have hnb34 := NB409_404.out; have hnc34 := NB404_409.out; have hcz35_0 := bc BK409 0 (.string (⟨#[]⟩ : ByteArray)); have hcz35_1 := bc BK409 1 (.string (⟨#[]⟩ : ByteArray)); have hfz35_0 := blk_frozen BK409.out 0; have hfz35_1 := blk_frozen BK409.out 1; have hnb36 := NB404_403.out; have hnc36 := NB403_404.out; have hcz37_0 := bc BK404 0 (u405000); have hcz37_1 := bc BK404 1 (u405001); have hcz37_2 := bc BK404 2 (.string x405002_1); have hfz37_0 := blk_frozen BK404.out 0; have hfz37_1 := blk_frozen BK404.out 1; have hfz37_2 := blk_frozen BK404.out 2) | ((with_reducible refine gc (f := 107) rfl ?_); refine goesM (some 42) Tryz.func107 #[.string x405002_1, .string ((rd_T30 l1 x29_2).f1)] ?_; (with_reducible refine (whole_DivMod.calls k2 x405002_1 ((rd_T30 l1 x29_2).f1) t410 t411 t412 _ ?s1 A27.out).mono ?_); (case s1 => exact gb HG0 HB); rintro e w38 ⟨rfl, hb⟩; refine ⟨_, rfl, ?_⟩; replace HO_405000 := am (Kd.R_below (by (with_reducible repeat (first | apply Kd.R_alloc | apply Kd.R_drewN | apply Kd.R_drew)); exact (Kd.R_mono (Kd.R_far (p := ⟨gb409, 1, none⟩) (Kd.R_far (p := ⟨gb409, 0, none⟩) (Kd.R_types HO_405000.out BK409.out (by decide)) (fun _ hk => hk.2) (.string ((rd_T30 l1 x29_2).f0))) (fun _ hk => hk.2) (.string ((rd_T30 l1 x29_2).f1))) (fun _ h_ => h_.1))) hb); replace HO_405001 := am (Kd.R_below (by (with_reducible repeat (first | apply Kd.R_alloc | apply Kd.R_drewN | apply Kd.R_drew)); exact (Kd.R_mono (Kd.R_far (p := ⟨gb409, 1, none⟩) (Kd.R_far (p := ⟨gb409, 0, none⟩) (Kd.R_types HO_405001.out BK409.out (by decide)) (fun _ hk => hk.2) (.string ((rd_T30 l1 x29_2).f0))) (fun _ hk => hk.2) (.string ((rd_T30 l1 x29_2).f1))) (fun _ h_ => h_.1))) hb); replace BK403 := am (blk_below (g := gb403) (o := .cells #[.slice none 0 0, .slice none 0 0, .string (⟨#[]⟩ : ByteArray)] 103 (0, 0)) (by (with_reducible repeat (first | refine blk_drewN ?_ _ | refine blk_drew ?_ | refine blk_alloc ?_ _)); refine blk_far ?_ NB403_409.out _; (with_reducible repeat (first | refine blk_drewN ?_ _ | refine blk_drew ?_ | refine blk_alloc ?_ _)); refine blk_far ?_ NB403_409.out _; (with_reducible repeat (first | refine blk_drewN ?_ _ | refine blk_drew ?_ | refine blk_alloc ?_ _)); exact BK403.out) hb); replace BK404 := am (blk_below (g := gb404) (o := .cells #[u405000, u405001, .string x405002_1] 103 (0, 0)) (by (with_reducible repeat (first | refine blk_drewN ?_ _ | refine blk_drew ?_ | refine blk_alloc ?_ _)); refine blk_far ?_ NB404_409.out _; (with_reducible repeat (first | refine blk_drewN ?_ _ | refine blk_drew ?_ | refine blk_alloc ?_ _)); refine blk_far ?_ NB404_409.out _; (with_reducible repeat (first | refine blk_drewN ?_ _ | refine blk_drew ?_ | refine blk_alloc ?_ _)); exact BK404.out) hb); replace BK409 := am (blk_below (g := gb409) (o := .cells #[.string ((rd_T30 l1 x29_2).f0), .string ((rd_T30 l1 x29_2).f1)] 30 (0, 0)) (by (with_reducible repeat (first | refine blk_drewN ?_ _ | refine blk_drew ?_ | refine blk_alloc ?_ _)); refine blk_put (cs := #[.string ((rd_T30 l1 x29_2).f0), .string (⟨#[]⟩ : ByteArray)]) ?_ 1 _ rfl; (with_reducible repeat (first | refine blk_drewN ?_ _ | refine blk_drew ?_ | refine blk_alloc ?_ _)); refine blk_put (cs := #[.string (⟨#[]⟩ : ByteArray), .string (⟨#[]⟩ : ByteArray)]) ?_ 0 _ rfl; (with_reducible repeat (first | refine blk_drewN ?_ _ | refine blk_drew ?_ | refine blk_alloc ?_ _)); exact BK409.out) hb); replace HB := bs HB hb; (try clear hb); (try clear hk)))
        replace HO_405000 := am (Kd.R_drew HO_405000.out)
        replace HO_405001 := am (Kd.R_drew HO_405001.out)
        replace BK403 := am (blk_drew BK403.out)
        replace BK404 := am (blk_drew BK404.out)
        replace BK409 := am (blk_drew BK409.out)
        replace HB := am (below_drew1 HB.out)
        have p413 : 0 ≤ (x29_2 : Int) := of_decide_eq_true (by first | (with_reducible assumption) | assumption)
        have q413 : x29_2 < (l0.length : Int) := of_decide_eq_true (by first | (with_reducible assumption) | assumption)
        obtain ⟨ad413, e413, hx413_0⟩ := Kd.at_int HR0.out x29_2 p413 q413
        have hw413_0 := hx413_0
        cases e413
        replace hx413_0 := (HB.out.cell (World.block_lt_of_cell? w _ hx413_0)).trans hx413_0
        replace p413 := eq_true p413
        replace q413 := eq_true q413
        refine start_ (n := 20) (S := fun w' => w'.cell? ⟨gb404, 0, none⟩ = some (u405000) ∧ w'.cell? ⟨gb404, 1, none⟩ = some (u405001) ∧ w'.cell? ⟨gb404, 2, none⟩ = some (.string x405002_1) ∧ w'.cell? ⟨gb409, 0, none⟩ = some (.string ((rd_T30 l1 x29_2).f0)) ∧ w'.cell? ⟨gb409, 1, none⟩ = some (.string ((rd_T30 l1 x29_2).f1)) ∧ w'.cell? (ad413.add (x29_2).toNat) = some (.int .i64 (rd l0 x29_2))) (ds := [17, 19]) #[false, false, false, false, false, false, false, false, false, false, false, false, false, false, false, false, false, false, false, false] (by kernel_rfl) rfl rfl ⟨(blk_cell BK404.out 0).trans rfl, (blk_cell BK404.out 1).trans rfl, (blk_cell BK404.out 2).trans rfl, (blk_cell BK409.out 0).trans rfl, (blk_cell BK409.out 1).trans rfl, ((HB.out.cell (World.block_lt_of_cell? w _ hw413_0)).trans hw413_0)⟩ (fun hHeld => ?_); refine with_tabW size_termsOf.tab12 size_termsOf.bits12 (fun HT_ HW_ => ?_)
        generalize w38.drew = w39 at HO_405000 HO_405001 BK403 BK404 BK409 HB hx413_0 hHeld ⊢
        refine purM (i := 0) (N := some 46) #[true, false, false, false, false, false, false, false, false, false, false, false, false, false, false, false, false, false, false, false] ?_
        refine purM (i := 2) (N := some 48) #[true, false, true, false, false, false, false, false, false, false, false, false, false, false, false, false, false, false, false, false] ?_
        refine purM (i := 3) (N := some 49) #[true, false, true, true, false, false, false, false, false, false, false, false, false, false, false, false, false, false, false, false] ?_
        refine purM (i := 4) (N := some 50) #[true, false, true, true, true, false, false, false, false, false, false, false, false, false, false, false, false, false, false, false] ?_
        refine purM (i := 8) (N := some 54) #[true, false, true, true, true, false, false, false, true, false, false, false, false, false, false, false, false, false, false, false] ?_
        refine purM (i := 10) (N := some 56) #[true, false, true, true, true, false, false, false, true, false, true, false, false, false, false, false, false, false, false, false] ?_
        refine purM (i := 12) (N := some 58) #[true, false, true, true, true, false, false, false, true, false, true, false, true, false, false, false, false, false, false, false] ?_
        refine take_ (i := 1) (N := some 47) (v := ?_) (a' := ?_) #[true, true, true, true, true, false, false, false, true, false, true, false, true, false, false, false, false, false, false, false] rfl rfl (take_ofW HT_.out HW_.out (by kernel_rfl)) (fun _ _ _ h => h) (Or.inl ⟨by rfl, ?_⟩) hHeld ?_ ?_
        rotate_left
        ·rintro w' ⟨s0, s1, s2, s3, s4, s5⟩
         go_simp
         with_reducible rfl
        rotate_left
        ·simp only [Act.put, List.setIfInBounds_toArray, List.set_cons_zero, List.set_cons_succ, i64_w, i32_w]
         rfl
        refine take_ (i := 5) (N := some 51) (v := ?_) (a' := ?_) #[true, true, true, true, true, true, false, false, true, false, true, false, true, false, false, false, false, false, false, false] rfl rfl (take_ofW HT_.out HW_.out (by kernel_rfl)) (fun _ _ _ h => h) (Or.inl ⟨by rfl, ?_⟩) hHeld ?_ ?_
        rotate_left
        ·rintro w' ⟨s0, s1, s2, s3, s4, s5⟩
         go_simp
         with_reducible rfl
        rotate_left
        ·simp only [Act.put, List.setIfInBounds_toArray, List.set_cons_zero, List.set_cons_succ, i64_w, i32_w]
         rfl
        refine take_ (i := 9) (N := some 55) (v := ?_) (a' := ?_) #[true, true, true, true, true, true, false, false, true, true, true, false, true, false, false, false, false, false, false, false] rfl rfl (take_ofW HT_.out HW_.out (by kernel_rfl)) (fun _ _ _ h => h) (Or.inl ⟨by rfl, ?_⟩) hHeld ?_ ?_
        rotate_left
        ·rintro w' ⟨s0, s1, s2, s3, s4, s5⟩
         go_simp
         with_reducible rfl
        rotate_left
        ·simp only [Act.put, List.setIfInBounds_toArray, List.set_cons_zero, List.set_cons_succ, i64_w, i32_w]
         rfl
        refine take_ (i := 11) (N := some 57) (v := ?_) (a' := ?_) #[true, true, true, true, true, true, false, false, true, true, true, true, true, false, false, false, false, false, false, false] rfl rfl (take_ofW HT_.out HW_.out (by kernel_rfl)) (fun _ _ _ h => h) (Or.inl ⟨by rfl, ?_⟩) hHeld ?_ ?_
        rotate_left
        ·rintro w' ⟨s0, s1, s2, s3, s4, s5⟩
         go_simp
         with_reducible rfl
        rotate_left
        ·simp only [Act.put, List.setIfInBounds_toArray, List.set_cons_zero, List.set_cons_succ, i64_w, i32_w]
         rfl
        refine one_ (i := 6) (N := some 52) #[true, true, true, true, true, true, true, false, true, true, true, true, true, false, false, false, false, false, false, false] rfl rfl (one_of HT_.out (by kernel_rfl)) (by decide) (fun K hK => ?_)
        refine value_ (w1 := ?_) (v := ?_) (by rfl) rfl ?_ ?_
        rotate_left 2
        ·go_simp
         constructor
         ·rfl
         ·rfl
        refine hK.out _ _ ⟨(blk_cell (blk_alloc BK404.out _) 0).trans rfl, (blk_cell (blk_alloc BK404.out _) 1).trans rfl, (blk_cell (blk_alloc BK404.out _) 2).trans rfl, (blk_cell (blk_alloc BK409.out _) 0).trans rfl, (blk_cell (blk_alloc BK409.out _) 1).trans rfl, (World.cell?_alloc_lt _ _ _ (World.block_lt_of_cell? _ _ (((HB.out.cell (World.block_lt_of_cell? w _ hw413_0)).trans hw413_0)))).trans (((HB.out.cell (World.block_lt_of_cell? w _ hw413_0)).trans hw413_0))⟩ (fun hHeld => ?_)
        clear hK K
        refine norm_ (a' := ?_) ?_ ?_
        rotate_left
        ·show Act.put _ (some 52) _ = _
         simp only [Act.put, List.setIfInBounds_toArray, List.set_cons_zero, List.set_cons_succ, i64_w, i32_w]
         rfl
        refine one_ (i := 7) (N := some 53) #[true, true, true, true, true, true, true, true, true, true, true, true, true, false, false, false, false, false, false, false] rfl rfl (one_of HT_.out (by kernel_rfl)) (by decide) (fun K hK => ?_)
        refine Kd.R_append_step (Kd.int .i64) (w0 := w) w.heap.size (by rfl) (.tmp 47) (.tmp 52) 26 3 (.int .i64 0) 8 rfl Tryz.underlying26 info3 rfl (by decide) (by omega) u405000 x405000_2 (rd l0 x29_2) [.int .i64 (rd l0 x29_2)] (fun _ => True) (fun _ => False) rfl rfl ?aP (fun _ hk => hk.elim) ?aF ?aO ?aB ?aS ?aL ?_
        (case aP => exact rfl)
        (case aB => exact (bl HB))
        (case aF => exact (fun _ _ => trivial))
        (case aO => exact (kr HO_405000))
        (case aS => exact (below_size (bl HB)))
        (case aL => have := LMc29.out; omega)
        intro v415 w40 ho hb hg hat
        rw [← Ny414.out] at ho
        have n0_ := am (Kd.R_over' (kr HO_405001) (Kd.R_typed (kr HO_405000)) (by decide) hg)
        have n1_ := am (blk_grown (g := gb403) (o := .cells #[.slice none 0 0, .slice none 0 0, .string (⟨#[]⟩ : ByteArray)] 103 (0, 0)) (bk BK403) hg (Kd.R_ne HO_405000.out BK403.out (by decide)))
        have n2_ := am (blk_grown (g := gb404) (o := .cells #[u405000, u405001, .string x405002_1] 103 (0, 0)) (bk BK404) hg (Kd.R_ne HO_405000.out BK404.out (by decide)))
        have n3_ := am (blk_grown (g := gb409) (o := .cells #[.string ((rd_T30 l1 x29_2).f0), .string ((rd_T30 l1 x29_2).f1)] 30 (0, 0)) (bk BK409) hg (Kd.R_ne HO_405000.out BK409.out (by decide)))
        have n4_ := am (hb)
        have n5_ := am (ho)
        clear HO_405001
        clear BK403
        clear BK404
        clear BK409
        clear HB
        clear HO_405000
        have HO_405001 := n0_
        have BK403 := n1_
        have BK404 := n2_
        have BK409 := n3_
        have HB := n4_
        have HO416 := n5_
        clear n0_ n1_ n2_ n3_ n4_ n5_
        clear ho hb hg hat
        refine hK.out _ _ ⟨(blk_cell BK404.out 0).trans rfl, (blk_cell BK404.out 1).trans rfl, (blk_cell BK404.out 2).trans rfl, (blk_cell BK409.out 0).trans rfl, (blk_cell BK409.out 1).trans rfl, ((HB.out.cell (World.block_lt_of_cell? w _ hw413_0)).trans hw413_0)⟩ (fun hHeld => ?_)
        clear hK K
        refine norm_ (a' := ?_) ?_ ?_
        rotate_left
        ·show Act.put _ (some 53) _ = _
         simp only [Act.put, List.setIfInBounds_toArray, List.set_cons_zero, List.set_cons_succ, i64_w, i32_w]
         rfl
        refine purM (i := 16) (N := some 62) #[true, true, true, true, true, true, true, true, true, true, true, true, true, false, false, false, true, false, false, false] ?_
        refine one_ (i := 13) (N := some 59) #[true, true, true, true, true, true, true, true, true, true, true, true, true, true, false, false, true, false, false, false] rfl rfl (one_of HT_.out (by kernel_rfl)) (by decide) (fun K hK => ?_)
        refine goesR Tryz.func82 #[.string ((rd_T30 l1 x29_2).f0), .string t410] ?_
        with_reducible refine (whole_Mul.calls k2 ((rd_T30 l1 x29_2).f0) t410 t417 _ ?s1 A30.out).mono ?_
        (case s1 => exact gb HG0 HB)
        rintro e w41 ⟨rfl, hb⟩
        refine ⟨_, rfl, ?_⟩
        replace HO_405001 := rb HO_405001 hb
        replace HO416 := rb HO416 hb
        replace BK403 := kb BK403 hb
        replace BK404 := kb BK404 hb
        replace BK409 := kb BK409 hb
        replace HB := bs HB hb
        (try clear hb)
        (try clear hb2)
        (try clear hk)
        (try clear hi)
        refine hK.out _ _ ⟨(blk_cell BK404.out 0).trans rfl, (blk_cell BK404.out 1).trans rfl, (blk_cell BK404.out 2).trans rfl, (blk_cell BK409.out 0).trans rfl, (blk_cell BK409.out 1).trans rfl, ((HB.out.cell (World.block_lt_of_cell? w _ hw413_0)).trans hw413_0)⟩ (fun hHeld => ?_)
        clear hK K
        refine norm_ (a' := ?_) ?_ ?_
        rotate_left
        ·show Act.put _ (some 59) _ = _
         simp only [Act.put, List.setIfInBounds_toArray, List.set_cons_zero, List.set_cons_succ, i64_w, i32_w]
         rfl
        refine one_ (i := 14) (N := some 60) #[true, true, true, true, true, true, true, true, true, true, true, true, true, true, true, false, true, false, false, false] rfl rfl (one_of HT_.out (by kernel_rfl)) (by decide) (fun K hK => ?_)
        refine value_ (w1 := ?_) (v := ?_) (by rfl) rfl ?_ ?_
        rotate_left 2
        ·go_simp
         constructor
         ·rfl
         ·rfl
        refine hK.out _ _ ⟨(blk_cell (blk_alloc BK404.out _) 0).trans rfl, (blk_cell (blk_alloc BK404.out _) 1).trans rfl, (blk_cell (blk_alloc BK404.out _) 2).trans rfl, (blk_cell (blk_alloc BK409.out _) 0).trans rfl, (blk_cell (blk_alloc BK409.out _) 1).trans rfl, (World.cell?_alloc_lt _ _ _ (World.block_lt_of_cell? _ _ (((HB.out.cell (World.block_lt_of_cell? w _ hw413_0)).trans hw413_0)))).trans (((HB.out.cell (World.block_lt_of_cell? w _ hw413_0)).trans hw413_0))⟩ (fun hHeld => ?_)
        clear hK K
        refine norm_ (a' := ?_) ?_ ?_
        rotate_left
        ·show Act.put _ (some 60) _ = _
         simp only [Act.put, List.setIfInBounds_toArray, List.set_cons_zero, List.set_cons_succ, i64_w, i32_w]
         rfl
        refine one_ (i := 15) (N := some 61) #[true, true, true, true, true, true, true, true, true, true, true, true, true, true, true, true, true, false, false, false] rfl rfl (one_of HT_.out (by kernel_rfl)) (by decide) (fun K hK => ?_)
        refine Kd.R_append_step Kd.string (w0 := w) w.heap.size (by rfl) (.tmp 55) (.tmp 60) 101 28 (.string ⟨#[]⟩) 16 rfl Tryz.underlying101 info28 rfl (by decide) (by omega) u405001 x405001_2 t417 [.string t417] (fun _ => True) (fun _ => False) rfl rfl ?aP (fun _ hk => hk.elim) ?aF ?aO ?aB ?aS ?aL ?_
        (case aP => exact rfl)
        (case aB => exact (bl HB))
        (case aF => exact (fun _ _ => trivial))
        (case aO => exact (kr HO_405001))
        (case aS => exact (below_size (bl HB)))
        (case aL => have := LMc31.out; omega)
        intro v419 w42 ho hb hg hat
        rw [← Ny418.out] at ho
        have n0_ := am (blk_grown (g := gb403) (o := .cells #[.slice none 0 0, .slice none 0 0, .string (⟨#[]⟩ : ByteArray)] 103 (0, 0)) (bk BK403) hg (Kd.R_ne HO_405001.out BK403.out (by decide)))
        have n1_ := am (blk_grown (g := gb404) (o := .cells #[u405000, u405001, .string x405002_1] 103 (0, 0)) (bk BK404) hg (Kd.R_ne HO_405001.out BK404.out (by decide)))
        have n2_ := am (blk_grown (g := gb409) (o := .cells #[.string ((rd_T30 l1 x29_2).f0), .string ((rd_T30 l1 x29_2).f1)] 30 (0, 0)) (bk BK409) hg (Kd.R_ne HO_405001.out BK409.out (by decide)))
        have n3_ := am (Kd.R_over' (kr HO416) (Kd.R_typed (kr HO_405001)) (by decide) hg)
        have n4_ := am (hb)
        have n5_ := am (ho)
        clear BK403
        clear BK404
        clear BK409
        clear HO416
        clear HB
        clear HO_405001
        have BK403 := n0_
        have BK404 := n1_
        have BK409 := n2_
        have HO416 := n3_
        have HB := n4_
        have HO420 := n5_
        clear n0_ n1_ n2_ n3_ n4_ n5_
        clear ho hb hg hat
        obtain ⟨Ao43, co43, eo43⟩ := Kd.R_slice HO416.out
        (first | subst eo43 | (injection eo43 with f1_ f2_ f3_; have f4_ := f1_.symm; have f5_ := f3_.symm; clear f1_ f2_ f3_; subst f4_; subst f5_))
        obtain ⟨Ao45, co45, eo45⟩ := Kd.R_slice HO420.out
        (first | subst eo45 | (injection eo45 with f1_ f2_ f3_; have f4_ := f1_.symm; have f5_ := f3_.symm; clear f1_ f2_ f3_; subst f4_; subst f5_))
        refine hK.out _ _ ⟨(blk_cell BK404.out 0).trans rfl, (blk_cell BK404.out 1).trans rfl, (blk_cell BK404.out 2).trans rfl, (blk_cell BK409.out 0).trans rfl, (blk_cell BK409.out 1).trans rfl, ((HB.out.cell (World.block_lt_of_cell? w _ hw413_0)).trans hw413_0)⟩ (fun hHeld => ?_)
        clear hK K
        refine norm_ (a' := ?_) ?_ ?_
        rotate_left
        ·show Act.put _ (some 61) _ = _
         simp only [Act.put, List.setIfInBounds_toArray, List.set_cons_zero, List.set_cons_succ, i64_w, i32_w]
         rfl
        refine last_ (i := 17) (N := none) #[true, true, true, true, true, true, true, true, true, true, true, true, true, true, true, true, true, true, false, false] rfl rfl (one_of HT_.out (by kernel_rfl)) (by decide) (fun K hK => ?_)
        have hs44 := bc BK404 0 (u405000)
        have hfs44 := blk_frozen BK404.out 0
        have hns44_0 := NB403_404.out
        have hns44_2 := NB409_404.out
        have hms44_0 := NB404_403.out
        have hms44_2 := NB404_409.out
        refine skip_ (w1 := ?_) (by rfl) rfl ?_ ?_
        rotate_left
        ·go_simp
         rfl
        refine hK.out _ _ ?_
        clear hK K
        refine purM (i := 18) (N := some 63) #[true, true, true, true, true, true, true, true, true, true, true, true, true, true, true, true, true, true, true, false] ?_
        refine last_ (i := 19) (N := none) #[true, true, true, true, true, true, true, true, true, true, true, true, true, true, true, true, true, true, true, true] rfl rfl (one_of HT_.out (by kernel_rfl)) (by decide) (fun K hK => ?_)
        have hs46 := bc BK404 1 (u405001)
        have hfs46 := blk_frozen BK404.out 1
        have hns46_0 := NB403_404.out
        have hns46_2 := NB409_404.out
        have hms46_0 := NB404_403.out
        have hms46_2 := NB404_409.out
        refine skip_ (w1 := ?_) (by rfl) rfl ?_ ?_
        rotate_left
        ·go_simp
         rfl
        refine hK.out _ _ ?_
        clear hK K
        refine done_ (done_of HT_.out (by kernel_rfl)) ?_
        try go_wp2
        go_roundg k2
        case measure => have := HK1.out; have := HK2.out; omega
        case rel => exact ⟨(wrap64 (x29_2 + 1)), (y414), (y418), (.slice Ao43 y414.length co43), (.slice Ao45 y418.length co45), rs, H', ⟨by have := HK1.out; have := HK2.out; omega⟩, ⟨by (with_reducible repeat (first | apply Kd.R_alloc | apply Kd.R_drewN | apply Kd.R_drew)); exact Kd.R_mono (Kd.R_far (p := ⟨gb404, 1, none⟩) (Kd.R_far (p := ⟨gb404, 0, none⟩) (Kd.R_types HO416.out BK404.out (by decide)) (fun _ hk => hk.2) (.slice Ao43 y414.length co43)) (fun _ hk => hk.2) (.slice Ao45 y418.length co45)) (fun _ hk => trivial)⟩, ⟨by (with_reducible repeat (first | apply Kd.R_alloc | apply Kd.R_drewN | apply Kd.R_drew)); exact Kd.R_mono (Kd.R_far (p := ⟨gb404, 1, none⟩) (Kd.R_far (p := ⟨gb404, 0, none⟩) (Kd.R_types HO420.out BK404.out (by decide)) (fun _ hk => hk.2) (.slice Ao43 y414.length co43)) (fun _ hk => hk.2) (.slice Ao45 y418.length co45)) (fun _ hk => trivial)⟩, ⟨by (with_reducible repeat (first | refine blk_drewN ?_ _ | refine blk_drew ?_ | refine blk_alloc ?_ _)); refine blk_far ?_ NB403_404.out _; (with_reducible repeat (first | refine blk_drewN ?_ _ | refine blk_drew ?_ | refine blk_alloc ?_ _)); refine blk_far ?_ NB403_404.out _; (with_reducible repeat (first | refine blk_drewN ?_ _ | refine blk_drew ?_ | refine blk_alloc ?_ _)); exact BK403.out⟩, ⟨by (with_reducible repeat (first | refine blk_drewN ?_ _ | refine blk_drew ?_ | refine blk_alloc ?_ _)); refine blk_put (cs := #[.slice Ao43 y414.length co43, u405001, .string x405002_1]) ?_ 1 _ rfl; (with_reducible repeat (first | refine blk_drewN ?_ _ | refine blk_drew ?_ | refine blk_alloc ?_ _)); refine blk_put (cs := #[u405000, u405001, .string x405002_1]) ?_ 0 _ rfl; (with_reducible repeat (first | refine blk_drewN ?_ _ | refine blk_drew ?_ | refine blk_alloc ?_ _)); exact BK404.out⟩, ⟨bl HB⟩⟩
      ·rw [if_neg c19] at H
       have c19b0 := decide_eq_false c19
       clear c19
       simp only [Option.some.injEq, Prod.mk.injEq] at H
       obtain ⟨rfl, rfl, rfl⟩ := H
       have hnb47 := NB404_403.out
       have hnc47 := NB403_404.out
       have hcz48_0 := bc BK404 0 (u405000)
       have hcz48_1 := bc BK404 1 (u405001)
       have hcz48_2 := bc BK404 2 (.string x405002_1)
       have hfz48_0 := blk_frozen BK404.out 0
       have hfz48_1 := blk_frozen BK404.out 1
       have hfz48_2 := blk_frozen BK404.out 2
       obtain ⟨Ao49, co49, eo49⟩ := Kd.R_slice HO_405000.out
       subst eo49
       have hcz50_0 := bc BK403 0 (.slice none 0 0)
       have hcz50_1 := bc BK403 1 (.slice none 0 0)
       have hcz50_2 := bc BK403 2 (.string (⟨#[]⟩ : ByteArray))
       have hfz50_0 := blk_frozen BK403.out 0
       have hfz50_1 := blk_frozen BK403.out 1
       have hfz50_2 := blk_frozen BK403.out 2
       obtain ⟨Ao51, co51, eo51⟩ := Kd.R_slice HO_405001.out
       subst eo51
       go_wp2
       refine bodyPost_ret (results_cell_row rfl _ _ gb403 103 #[.slice Ao49 x405000_2.length co49, .slice Ao51 x405001_2.length co51, .string x405002_1] (0, 0) _ rfl (by (with_reducible repeat (first | refine blk_drewN ?_ _ | refine blk_drew ?_ | refine blk_alloc ?_ _)); refine blk_put (cs := #[.slice Ao49 x405000_2.length co49, .slice Ao51 x405001_2.length co51, .string (⟨#[]⟩ : ByteArray)]) ?_ 2 _ rfl; (with_reducible repeat (first | refine blk_drewN ?_ _ | refine blk_drew ?_ | refine blk_alloc ?_ _)); refine blk_put (cs := #[.slice Ao49 x405000_2.length co49, .slice none 0 0, .string (⟨#[]⟩ : ByteArray)]) ?_ 1 _ rfl; (with_reducible repeat (first | refine blk_drewN ?_ _ | refine blk_drew ?_ | refine blk_alloc ?_ _)); refine blk_put (cs := #[.slice none 0 0, .slice none 0 0, .string (⟨#[]⟩ : ByteArray)]) ?_ 0 _ rfl; (with_reducible repeat (first | refine blk_drewN ?_ _ | refine blk_drew ?_ | refine blk_alloc ?_ _)); exact BK403.out) Tryz.underlying103 rfl (by kernel_rfl)) rfl ?_
       exact ⟨_, _, rl, by (with_reducible repeat (first | apply Kd.R_alloc | apply Kd.R_drewN | apply Kd.R_drew)); exact Kd.R_mono (Kd.R_far (p := ⟨gb403, 2, none⟩) (Kd.R_far (p := ⟨gb403, 1, none⟩) (Kd.R_far (p := ⟨gb403, 0, none⟩) (Kd.R_types HO_405000.out BK403.out (by decide)) (fun _ hk => hk.2) (.slice Ao49 x405000_2.length co49)) (fun _ hk => hk.2) (.slice Ao51 x405001_2.length co51)) (fun _ hk => hk.2) (.string x405002_1)) (fun _ hk => trivial), by (with_reducible repeat (first | apply Kd.R_alloc | apply Kd.R_drewN | apply Kd.R_drew)); exact Kd.R_mono (Kd.R_far (p := ⟨gb403, 2, none⟩) (Kd.R_far (p := ⟨gb403, 1, none⟩) (Kd.R_far (p := ⟨gb403, 0, none⟩) (Kd.R_types HO_405001.out BK403.out (by decide)) (fun _ hk => hk.2) (.slice Ao49 x405000_2.length co49)) (fun _ hk => hk.2) (.slice Ao51 x405001_2.length co51)) (fun _ hk => hk.2) (.string x405002_1)) (fun _ hk => trivial), bl HB⟩
end Go.Proofs.YtailoobjgbldgaaGreatDoor.P
end
