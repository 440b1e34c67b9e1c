/- Part 9 of the proof: functions' contracts and what they lean on. -/
import Derived.Test.YtailoobjgbldgaaGreatDoorC8
section
namespace Go.Proofs.YtailoobjgbldgaaGreatDoor.P
open Go.RowKit Go.Proofs.YtailoobjgbldgaaGreatDoorW.PrintWords Go.Proofs.YtailoobjgbldgaaGreatDoorW.PrintLast Go.Proofs.YtailoobjgbldgaaGreatDoorW.PrintMore
attribute [local go_sem] max2_int min2_int max_two min_two max_three min_three max_four min_four   
set_option linter.unusedVariables false
set_option linter.unusedSimpArgs false
attribute [local go_sem high] eqA30
set_option maxHeartbeats 8000000
set_option maxRecDepth 100000
mutual
def size_Text.l0 : Nat → List Int → List ByteArray → List (S30) → Int → Int → Option (ByteArray × Int)
 | 0, _, _, _, _, _ => none
 | k + 1, x0, x7, x17, x18, x19 => if x19 < x18 then (if 0 ≤ x19 then (if x19 < (x17.length : Int) then (if x19 < (x0.length : Int) then ((goItoa.f (rd x0 x19)).bind fun t590 => (if ((rd_T30 x17 x19).f0).toList = ([48] : List UInt8) then (size_Text.l0 k x0 x7 x17 x18 (wrap64 (x19 + 1))) else ((size_number.f 1).bind fun bt591 => (if ((((rd_T30 x17 x19).f0).toList) == bt591.1.toList && ((((rd_T30 x17 x19).f1).toList) == bt591.2.toList)) = true then (if x7.length < 8796093022208 then (size_Text.l0 k x0 (x7 ++ [t590]) x17 x18 (wrap64 (x19 + 1))) else (none)) else (if ((rd_T30 x17 x19).f1).toList = ([49] : List UInt8) then ((whole_Sign.f ((rd_T30 x17 x19).f0)).bind fun t596 => (size_Text.j1 k x0 x7 t590 x17 x18 x19 (decide (t596 > 0)) ((rd_T30 x17 x19).f0) ((rd_T30 x17 x19).f1))) else (size_Text.j1 k x0 x7 t590 x17 x18 x19 false ((rd_T30 x17 x19).f0) ((rd_T30 x17 x19).f1))))))) else (none)) else (none)) else (none)) else (if (x7.length : Int) = 0 then (some ((⟨#[49]⟩ : ByteArray), 0)) else ((goJoin.f x7 (⟨#[32]⟩ : ByteArray)).bind fun t586 => (some (t586, 0))))
def size_Text.j1 : Nat → List Int → List ByteArray → ByteArray → List (S30) → Int → Int → Bool → ByteArray → ByteArray → Option (ByteArray × Int)
 | 0, _, _, _, _, _, _, _, _, _ => none
 | k + 1, x0, x7, x10, x17, x18, x19, x43, x589000, x589001 => if x43 = true then ((fraction_Text.f x589000 x589001).bind fun t597 => (if 1 + t597.size ≤ 9223372036854775807 then (if x10.size + ((⟨#[94]⟩ : ByteArray) ++ t597).size ≤ 9223372036854775807 then (if x7.length < 8796093022208 then (size_Text.l0 k x0 (x7 ++ [x10 ++ ((⟨#[94]⟩ : ByteArray) ++ t597)]) x17 x18 (wrap64 (x19 + 1))) else (none)) else (none)) else (none))) else ((fraction_Text.f x589000 x589001).bind fun t601 => (if 2 + t601.size ≤ 9223372036854775807 then (if ((⟨#[94, 40]⟩ : ByteArray) ++ t601).size + 1 ≤ 9223372036854775807 then (if x10.size + (((⟨#[94, 40]⟩ : ByteArray) ++ t601) ++ (⟨#[41]⟩ : ByteArray)).size ≤ 9223372036854775807 then (if x7.length < 8796093022208 then (size_Text.l0 k x0 (x7 ++ [x10 ++ (((⟨#[94, 40]⟩ : ByteArray) ++ t601) ++ (⟨#[41]⟩ : ByteArray))]) x17 x18 (wrap64 (x19 + 1))) else (none)) else (none)) else (none)) else (none)))
end
def size_Text.f (k : Nat) (l0 : List Int) (l1 : List (S30)) : Option (ByteArray × Int) := (size_Check.f k l0 l1).bind fun t585 => (if t585 = 0 then (size_Text.l0 k l0 ([] : List ByteArray) l1 (l1.length : Int) 0) else (some ((⟨#[]⟩ : ByteArray), t585)))
theorem size_Text.calls (k : Nat) (A0 : Option Addr) (c0 : Nat) (l0 : List Int) (A1 : Option Addr) (c1 : Nat) (l1 : List (S30)) (r1 : ByteArray) (r2 : Int) (w : World) (hG : Glob w) (hr0 : Kd.C (Kd.int .i64) w A0 l0.length l0) (hc0 : l0.length ≤ c0) (hr1 : Kd.C k30 w A1 l1.length l1) (hc1 : l1.length ≤ c1) (h : size_Text.f k l0 l1 = some (r1, r2)) :
  Calls Tryz.prog 45 #[.slice A0 l0.length c0, .slice A1 l1.length c1] w fun e w' => e = .returned (.tuple #[.string r1, .int .i64 r2]) ∧ Below w.heap.size w w' := by
 have hu30 := Tryz.underlying30
 have HR0 := am hr0
 have HC0 := am hc0
 clear hr0 hc0
 have HR1 := am hr1
 have HC1 := am hc1
 clear hr1 hc1
 have HG0 := am hG
 clear hG
 have HB := am (Below.refl w.heap.size w)
 have H := h
 unfold size_Text.f at H
 clear h
 obtain ⟨t585, A3, H⟩ := bo H
 try dsimp only at H
 by_cases c4 : t585 = 0
 ·rw [if_pos c4] at H
  have c4b0 := beq_iff_eq.mpr c4
  have c4b1 := bne_eq_false_iff_eq.mpr c4
  clear c4
  have H' := am H
  clear H
  go_enter Tryz.func45, Tryz.ntmps45
  go_wp2_with (first | ((with_reducible refine gc (f := 51) rfl ?_); refine goesM (some 13) Tryz.func51 #[.slice A0 l0.length c0, .slice A1 l1.length c1] ?_; (with_reducible refine (size_Check.calls k _ _ l0 _ _ l1 t585 _ ?s1 ?s2 ?s3 ?s4 ?s5 A3.out).mono ?_); (case s1 => exact gb HG0 HB); (case s2 => exact cr HR0); (case s3 => exact HC0.out); (case s4 => exact cr HR1); (case s5 => exact HC1.out); rintro e w5 ⟨rfl, hb⟩; refine ⟨_, rfl, ?_⟩; replace HB := bs HB hb; (try clear hb)))
  go_loopg [7, 19] k (fun kq v7 v19 w' => ∃ (x7_1 : List ByteArray) (x19_1 : Int), v19 = .int .i64 x19_1 ∧ Aside0 (size_Text.l0 kq l0 x7_1 l1 (l1.length : Int) x19_1 = some (r1, r2)) ∧ Aside0 (kq ≤ k) ∧ Aside0 (Kd.R Kd.string 9 w' w.heap.size (fun _ => True) v7 x7_1) ∧ Aside0 (Below w.heap.size w w'))
  case atStart => exact ⟨(([] : List ByteArray)), (0), rs, H', ⟨Nat.le_refl _⟩, ⟨by first | exact Kd.R_nil _ _ _ _ _ | exact Kd.N_nil _ _ _ _ _ | exact Kd.V_nil _ _ _ _ _ | exact Kd.Q_nil _ _ _ _ _ | exact Kd.S_nil _ _ _ _ _⟩, ⟨bl HB⟩⟩
  case round =>
   clear H'
   try clear c1
   try clear p2
   try clear c4
   try clear c4b0
   try clear c4b1
   try clear c5
   obtain ⟨x7_1, x19_1, rfl, HA, HK1, HO_7, HB⟩ := hrel
   cases gk with
   | zero => exact absurd HA.out (by simp [size_Text.l0])
   | succ k1 =>
    have H := HA.out
    clear HA
    simp only [size_Text.l0] at H
    by_cases c6 : x19_1 < (l1.length : Int)
    ·rw [if_pos c6] at H
     have c6b0 := decide_eq_true c6
     clear c6
     by_cases c7 : 0 ≤ x19_1
     case neg => rw [if_neg c7] at H; cases H
     rw [if_pos c7] at H
     have c7b0 := decide_eq_true c7
     clear c7
     by_cases c8 : x19_1 < (l1.length : Int)
     case neg => rw [if_neg c8] at H; cases H
     rw [if_pos c8] at H
     have c8b0 := decide_eq_true c8
     clear c8
     by_cases c9 : x19_1 < (l0.length : Int)
     case neg => rw [if_neg c9] at H; cases H
     rw [if_pos c9] at H
     have c9b0 := decide_eq_true c9
     clear c9
     obtain ⟨t590, A10, H⟩ := bo H
     try dsimp only at H
     by_cases c11 : ((rd_T30 l1 x19_1).f0).toList = ([48] : List UInt8)
     ·rw [if_pos c11] at H
      have c11b0 := beq_iff_eq.mpr c11
      have c11b1 := bne_eq_false_iff_eq.mpr c11
      clear c11
      have H' := am H
      clear H
      have p587 : 0 ≤ (x19_1 : Int) := of_decide_eq_true (by first | (with_reducible assumption) | assumption)
      have q587 : x19_1 < (l1.length : Int) := of_decide_eq_true (by first | (with_reducible assumption) | assumption)
      obtain ⟨ad587, e587, hx587_0, hx587_1⟩ := at_T30 HR1.out x19_1 p587 q587
      cases e587
      replace hx587_0 := (HB.out.cell (World.block_lt_of_cell? w _ hx587_0)).trans hx587_0
      replace hx587_1 := (HB.out.cell (World.block_lt_of_cell? w _ hx587_1)).trans hx587_1
      replace p587 := eq_true p587
      replace q587 := eq_true q587
      go_wp2_with (first | ((with_reducible refine gd (N := 9) rfl ?_); refine boxM (N := 9) #[.string (⟨#[]⟩ : ByteArray), .string (⟨#[]⟩ : ByteArray)] 30 ?_; intro gb588 hg w12 hbox hb; replace HO_7 := rb HO_7 hb; have BK588 := am (hbox); have GW588 := gw hg HB; have GE588 := GW588; replace HB := bs HB hb; clear hb hbox hg; have hcz13_0 := bc BK588 0 (.string (⟨#[]⟩ : ByteArray)); have hcz13_1 := bc BK588 1 (.string (⟨#[]⟩ : ByteArray)); have hfz13_0 := blk_frozen BK588.out 0; have hfz13_1 := blk_frozen BK588.out 1; have p589 : 0 ≤ (x19_1 : Int) := of_decide_eq_true (by first | (with_reducible assumption) | assumption); have q589 : x19_1 < (l0.length : Int) := of_decide_eq_true (by first | (with_reducible assumption) | assumption); obtain ⟨ad589, e589, hx589_0⟩ := Kd.at_int HR0.out x19_1 p589 q589; cases e589; have hn589_0 : ad589.block ≠ gb588 := Nat.ne_of_lt (Nat.lt_of_lt_of_le (by have := World.block_lt_of_cell? _ _ hx589_0; first | rwa [add_block] at this | exact this) GW588.out); have hn589_1 : ad589.block ≠ gb588 := Nat.ne_of_lt (Nat.lt_of_lt_of_le (by have := World.block_lt_of_cell? _ _ hx589_0; first | rwa [add_block] at this | exact this) GW588.out); replace hx589_0 := (HB.out.cell (World.block_lt_of_cell? w _ hx589_0)).trans hx589_0; replace hx589_0 := (cell_far (p := ⟨gb588, 0, none⟩) (by first | (rw [add_block]; exact hn589_0) | (show (Addr.add _ _).block ≠ _; rw [add_block]; exact hn589_0) | exact hn589_0) (.string ((rd_T30 l1 x19_1).f0))).trans hx589_0; replace hx589_0 := (cell_far (p := ⟨gb588, 1, none⟩) (by first | (rw [add_block]; exact hn589_1) | (show (Addr.add _ _).block ≠ _; rw [add_block]; exact hn589_1) | exact hn589_1) (.string ((rd_T30 l1 x19_1).f1))).trans hx589_0; clear hn589_0; clear hn589_1; replace p589 := eq_true p589; replace q589 := eq_true q589) | ((with_reducible refine gc (f := 89) rfl ?_); refine goesM (some 28) Tryz.func89 #[.int .i64 (rd l0 x19_1)] ?_; (with_reducible refine (goItoa.calls (rd l0 x19_1) t590 _ ?s1 A10.out).mono ?_); (case s1 => exact gb HG0 HB); rintro e w14 ⟨rfl, hb⟩; refine ⟨_, rfl, ?_⟩; replace HO_7 := am (Kd.R_below (by (with_reducible repeat (first | apply Kd.R_alloc | apply Kd.R_drewN | apply Kd.R_drew)); exact (Kd.R_mono (Kd.R_far (p := ⟨gb588, 1, none⟩) (Kd.R_far (p := ⟨gb588, 0, none⟩) (Kd.R_types HO_7.out BK588.out (by decide)) (fun _ hk => hk.2) (.string ((rd_T30 l1 x19_1).f0))) (fun _ hk => hk.2) (.string ((rd_T30 l1 x19_1).f1))) (fun _ h_ => h_.1))) hb); replace BK588 := am (blk_below (g := gb588) (o := .cells #[.string ((rd_T30 l1 x19_1).f0), .string ((rd_T30 l1 x19_1).f1)] 30 (0, 0)) (by (with_reducible repeat (first | refine blk_drewN ?_ _ | refine blk_drew ?_ | refine blk_alloc ?_ _)); refine blk_put (cs := #[.string ((rd_T30 l1 x19_1).f0), .string (⟨#[]⟩ : ByteArray)]) ?_ 1 _ rfl; (with_reducible repeat (first | refine blk_drewN ?_ _ | refine blk_drew ?_ | refine blk_alloc ?_ _)); refine blk_put (cs := #[.string (⟨#[]⟩ : ByteArray), .string (⟨#[]⟩ : ByteArray)]) ?_ 0 _ rfl; (with_reducible repeat (first | refine blk_drewN ?_ _ | refine blk_drew ?_ | refine blk_alloc ?_ _)); exact BK588.out) hb); replace HB := bs HB hb; (try clear hb); (try clear hk); have hcz15_0 := bc BK588 0 (.string ((rd_T30 l1 x19_1).f0)); have hcz15_1 := bc BK588 1 (.string ((rd_T30 l1 x19_1).f1)); have hfz15_0 := blk_frozen BK588.out 0; have hfz15_1 := blk_frozen BK588.out 1))
      go_roundg k1
      case measure => have := HK1.out; omega
      case rel => exact ⟨(x7_1), (wrap64 (x19_1 + 1)), rs, H', ⟨by have := HK1.out; omega⟩, ⟨kr HO_7⟩, ⟨bl HB⟩⟩
     ·rw [if_neg c11] at H
      have c11b0 := beq_eq_false_iff_ne.mpr c11
      have c11b1 := bne_iff_ne.mpr c11
      obtain ⟨⟨t591, t592⟩, A16, H⟩ := bo H
      try dsimp only at H
      by_cases c17 : ((((rd_T30 l1 x19_1).f0).toList) == t591.toList && ((((rd_T30 l1 x19_1).f1).toList) == t592.toList)) = true
      ·rw [if_pos c17] at H
       have c17b0 : ((((rd_T30 l1 x19_1).f0).toList) == t591.toList && ((((rd_T30 l1 x19_1).f1).toList) == t592.toList)) = true := c17
       (try (have c17b1 : decide ((((rd_T30 l1 x19_1).f0).toList) = t591.toList && ((((rd_T30 l1 x19_1).f1).toList) == t592.toList)) = true := by simpa using c17))
       (try (have c17b2 : ((((rd_T30 l1 x19_1).f0).toList) == t591.toList && ((((rd_T30 l1 x19_1).f1).toList) == t592.toList)) = true := by simpa using c17))
       clear c17
       by_cases c18 : x7_1.length < 8796093022208
       case neg => rw [if_neg c18] at H; cases H
       rw [if_pos c18] at H
       have LMc18 := am c18
       clear c18
       obtain ⟨y593, hy593⟩ : ∃ y_ : List ByteArray, y_ = (x7_1 ++ [t590]) := ⟨_, rfl⟩
       first | rw [Option.bind_some, ← hy593] at H | rw [← hy593] at H
       have Ny593 := am hy593
       clear hy593
       have H' := am H
       clear H
       have p587 : 0 ≤ (x19_1 : Int) := of_decide_eq_true (by first | (with_reducible assumption) | assumption)
       have q587 : x19_1 < (l1.length : Int) := of_decide_eq_true (by first | (with_reducible assumption) | assumption)
       obtain ⟨ad587, e587, hx587_0, hx587_1⟩ := at_T30 HR1.out x19_1 p587 q587
       cases e587
       replace hx587_0 := (HB.out.cell (World.block_lt_of_cell? w _ hx587_0)).trans hx587_0
       replace hx587_1 := (HB.out.cell (World.block_lt_of_cell? w _ hx587_1)).trans hx587_1
       replace p587 := eq_true p587
       replace q587 := eq_true q587
       try go_wp2_with (first | ((with_reducible refine gd (N := 9) rfl ?_); refine boxM (N := 9) #[.string (⟨#[]⟩ : ByteArray), .string (⟨#[]⟩ : ByteArray)] 30 ?_; intro gb588 hg w19 hbox hb; replace HO_7 := rb HO_7 hb; have BK588 := am (hbox); have GW588 := gw hg HB; have GE588 := GW588; replace HB := bs HB hb; clear hb hbox hg; have hcz20_0 := bc BK588 0 (.string (⟨#[]⟩ : ByteArray)); have hcz20_1 := bc BK588 1 (.string (⟨#[]⟩ : ByteArray)); have hfz20_0 := blk_frozen BK588.out 0; have hfz20_1 := blk_frozen BK588.out 1; have p589 : 0 ≤ (x19_1 : Int) := of_decide_eq_true (by first | (with_reducible assumption) | assumption); have q589 : x19_1 < (l0.length : Int) := of_decide_eq_true (by first | (with_reducible assumption) | assumption); obtain ⟨ad589, e589, hx589_0⟩ := Kd.at_int HR0.out x19_1 p589 q589; cases e589; have hn589_0 : ad589.block ≠ gb588 := Nat.ne_of_lt (Nat.lt_of_lt_of_le (by have := World.block_lt_of_cell? _ _ hx589_0; first | rwa [add_block] at this | exact this) GW588.out); have hn589_1 : ad589.block ≠ gb588 := Nat.ne_of_lt (Nat.lt_of_lt_of_le (by have := World.block_lt_of_cell? _ _ hx589_0; first | rwa [add_block] at this | exact this) GW588.out); replace hx589_0 := (HB.out.cell (World.block_lt_of_cell? w _ hx589_0)).trans hx589_0; replace hx589_0 := (cell_far (p := ⟨gb588, 0, none⟩) (by first | (rw [add_block]; exact hn589_0) | (show (Addr.add _ _).block ≠ _; rw [add_block]; exact hn589_0) | exact hn589_0) (.string ((rd_T30 l1 x19_1).f0))).trans hx589_0; replace hx589_0 := (cell_far (p := ⟨gb588, 1, none⟩) (by first | (rw [add_block]; exact hn589_1) | (show (Addr.add _ _).block ≠ _; rw [add_block]; exact hn589_1) | exact hn589_1) (.string ((rd_T30 l1 x19_1).f1))).trans hx589_0; clear hn589_0; clear hn589_1; replace p589 := eq_true p589; replace q589 := eq_true q589) | ((with_reducible refine gc (f := 89) rfl ?_); refine goesM (some 28) Tryz.func89 #[.int .i64 (rd l0 x19_1)] ?_; (with_reducible refine (goItoa.calls (rd l0 x19_1) t590 _ ?s1 A10.out).mono ?_); (case s1 => exact gb HG0 HB); rintro e w21 ⟨rfl, hb⟩; refine ⟨_, rfl, ?_⟩; replace HO_7 := am (Kd.R_below (by (with_reducible repeat (first | apply Kd.R_alloc | apply Kd.R_drewN | apply Kd.R_drew)); exact (Kd.R_mono (Kd.R_far (p := ⟨gb588, 1, none⟩) (Kd.R_far (p := ⟨gb588, 0, none⟩) (Kd.R_types HO_7.out BK588.out (by decide)) (fun _ hk => hk.2) (.string ((rd_T30 l1 x19_1).f0))) (fun _ hk => hk.2) (.string ((rd_T30 l1 x19_1).f1))) (fun _ h_ => h_.1))) hb); replace BK588 := am (blk_below (g := gb588) (o := .cells #[.string ((rd_T30 l1 x19_1).f0), .string ((rd_T30 l1 x19_1).f1)] 30 (0, 0)) (by (with_reducible repeat (first | refine blk_drewN ?_ _ | refine blk_drew ?_ | refine blk_alloc ?_ _)); refine blk_put (cs := #[.string ((rd_T30 l1 x19_1).f0), .string (⟨#[]⟩ : ByteArray)]) ?_ 1 _ rfl; (with_reducible repeat (first | refine blk_drewN ?_ _ | refine blk_drew ?_ | refine blk_alloc ?_ _)); refine blk_put (cs := #[.string (⟨#[]⟩ : ByteArray), .string (⟨#[]⟩ : ByteArray)]) ?_ 0 _ rfl; (with_reducible repeat (first | refine blk_drewN ?_ _ | refine blk_drew ?_ | refine blk_alloc ?_ _)); exact BK588.out) hb); replace HB := bs HB hb; (try clear hb); (try clear hk); have hcz22_0 := bc BK588 0 (.string ((rd_T30 l1 x19_1).f0)); have hcz22_1 := bc BK588 1 (.string ((rd_T30 l1 x19_1).f1)); have hfz22_0 := blk_frozen BK588.out 0; have hfz22_1 := blk_frozen BK588.out 1))
       replace HO_7 := am (Kd.R_drew HO_7.out)
       replace BK588 := am (blk_drew BK588.out)
       replace HB := am (below_drew1 HB.out)
       refine start_ (n := 4) (S := fun w' => w'.cell? ⟨gb588, 0, none⟩ = some (.string ((rd_T30 l1 x19_1).f0)) ∧ w'.cell? ⟨gb588, 1, none⟩ = some (.string ((rd_T30 l1 x19_1).f1))) (ds := []) #[false, false, false, false] (by kernel_rfl) rfl rfl ⟨(blk_cell BK588.out 0).trans rfl, (blk_cell BK588.out 1).trans rfl⟩ (fun hHeld => ?_)
       generalize w21.drew = w23 at HO_7 BK588 HB hHeld ⊢
       refine take_ (i := 0) (N := some 40) (v := ?_) (a' := ?_) #[true, false, false, false] rfl rfl (by kernel_rfl) (fun _ _ _ h => h) (Or.inl ⟨by rfl, ?_⟩) hHeld ?_ ?_
       rotate_left
       ·rintro w' ⟨s0, s1⟩
        go_simp
        with_reducible rfl
       rotate_left
       ·simp only [Act.put, List.setIfInBounds_toArray, List.set_cons_zero, List.set_cons_succ, i64_w, i32_w]
        rfl
       refine one_ (i := 1) (N := some 41) #[true, true, false, false] rfl rfl (by kernel_rfl) (by decide) (fun K hK => ?_)
       refine goesR Tryz.func65 #[.int .i64 1] ?_
       with_reducible refine (size_number.calls 1 t591 t592 _ ?s1 A16.out).mono ?_
       (case s1 => exact gb HG0 HB)
       rintro e w24 ⟨rfl, hb⟩
       refine ⟨_, rfl, ?_⟩
       replace HO_7 := rb HO_7 hb
       replace BK588 := kb BK588 hb
       replace HB := bs HB hb
       (try clear hb)
       (try clear hb2)
       (try clear hk)
       (try clear hi)
       refine hK.out _ _ ⟨(blk_cell BK588.out 0).trans rfl, (blk_cell BK588.out 1).trans rfl⟩ (fun hHeld => ?_)
       clear hK K
       refine norm_ (a' := ?_) ?_ ?_
       rotate_left
       ·show Act.put _ (some 41) _ = _
        simp only [Act.put, List.setIfInBounds_toArray, List.set_cons_zero, List.set_cons_succ, i64_w, i32_w]
        rfl
       refine pure_ (i := 2) (N := some 42) (v := ?_) (a' := ?_) #[true, true, true, false] rfl rfl (by kernel_rfl) (fun _ _ _ h => h) (Or.inl ⟨by rfl, ?_⟩) ?_ ?_
       rotate_left
       ·intro w'
        go_simp
        with_reducible rfl
       rotate_left
       ·simp only [Act.put, List.setIfInBounds_toArray, List.set_cons_zero, List.set_cons_succ, i64_w, i32_w]
        rfl
       refine pure_ (i := 3) (N := some 39) (v := ?_) (a' := ?_) #[true, true, true, true] rfl rfl (by kernel_rfl) (fun _ _ _ h => h) (Or.inl ⟨by rfl, ?_⟩) ?_ ?_
       rotate_left
       ·intro w'
        go_simp
        with_reducible rfl
       rotate_left
       ·simp only [Act.put, List.setIfInBounds_toArray, List.set_cons_zero, List.set_cons_succ, i64_w, i32_w]
        rfl
       refine done_ (by kernel_rfl) ?_
       try go_wp2_with (first | ((with_reducible refine gate_builtin (b := .append) (xs := #[.tmp 58, .tmp 60]) rfl ?_); at_builtin; refine Kd.R_append Kd.string (w0 := w) w.heap.size rfl (.tmp 58) (.tmp 60) 127 9 (.string ⟨#[]⟩) 16 rfl Tryz.underlying127 info9 rfl (by decide) (by omega) u7 x7_1 t590 [.string t590] (fun _ => True) (fun _ => False) rfl rfl ?aP (fun _ hk => hk.elim) ?aF ?aO ?aB ?aS ?aL ?_; (case aP => exact rfl); (case aB => exact (bl HB)); (case aF => exact (fun _ _ => trivial)); (case aO => exact (kr HO_7)); (case aS => exact (below_size (bl HB))); (case aL => have := LMc18.out; omega); intro v594 w25 ho hb hg hat; rw [← Ny593.out] at ho; have n0_ := am (blk_grown (g := gb588) (o := .cells #[.string ((rd_T30 l1 x19_1).f0), .string ((rd_T30 l1 x19_1).f1)] 30 (0, 0)) (bk BK588) hg (Kd.R_ne HO_7.out BK588.out (by decide))); have n1_ := am (hb); have n2_ := am (ho); clear BK588; clear HB; clear HO_7; have BK588 := n0_; have HB := n1_; have HO595 := n2_; clear n0_ n1_ n2_; clear ho hb hg hat))
       go_roundg k1
       case measure => have := HK1.out; omega
       case rel => exact ⟨(y593), (wrap64 (x19_1 + 1)), rs, H', ⟨by have := HK1.out; omega⟩, ⟨kr HO595⟩, ⟨bl HB⟩⟩
      ·rw [if_neg c17] at H
       have c17b0 : ((((rd_T30 l1 x19_1).f0).toList) == t591.toList && ((((rd_T30 l1 x19_1).f1).toList) == t592.toList)) = false := by simpa using c17
       (try (have c17b1 : decide ((((rd_T30 l1 x19_1).f0).toList) = t591.toList && ((((rd_T30 l1 x19_1).f1).toList) == t592.toList)) = false := by simpa using c17))
       (try (have c17b2 : ((((rd_T30 l1 x19_1).f0).toList) == t591.toList && ((((rd_T30 l1 x19_1).f1).toList) == t592.toList)) = false := by simpa using c17))
       (try (have c17b3 : ¬ ((((rd_T30 l1 x19_1).f0).toList) = t591.toList && ((((rd_T30 l1 x19_1).f1).toList) == t592.toList)) := by simpa using c17))
       clear c17
       have HC26 := am H
       clear H
       have p587 : 0 ≤ (x19_1 : Int) := of_decide_eq_true (by first | (with_reducible assumption) | assumption)
       have q587 : x19_1 < (l1.length : Int) := of_decide_eq_true (by first | (with_reducible assumption) | assumption)
       obtain ⟨ad587, e587, hx587_0, hx587_1⟩ := at_T30 HR1.out x19_1 p587 q587
       cases e587
       replace hx587_0 := (HB.out.cell (World.block_lt_of_cell? w _ hx587_0)).trans hx587_0
       replace hx587_1 := (HB.out.cell (World.block_lt_of_cell? w _ hx587_1)).trans hx587_1
       replace p587 := eq_true p587
       replace q587 := eq_true q587
       try go_wp2_with (first | ((with_reducible refine gd (N := 9) rfl ?_); refine boxM (N := 9) #[.string (⟨#[]⟩ : ByteArray), .string (⟨#[]⟩ : ByteArray)] 30 ?_; intro gb588 hg w27 hbox hb; replace HO_7 := rb HO_7 hb; have BK588 := am (hbox); have GW588 := gw hg HB; have GE588 := GW588; replace HB := bs HB hb; clear hb hbox hg; have hcz28_0 := bc BK588 0 (.string (⟨#[]⟩ : ByteArray)); have hcz28_1 := bc BK588 1 (.string (⟨#[]⟩ : ByteArray)); have hfz28_0 := blk_frozen BK588.out 0; have hfz28_1 := blk_frozen BK588.out 1; have p589 : 0 ≤ (x19_1 : Int) := of_decide_eq_true (by first | (with_reducible assumption) | assumption); have q589 : x19_1 < (l0.length : Int) := of_decide_eq_true (by first | (with_reducible assumption) | assumption); obtain ⟨ad589, e589, hx589_0⟩ := Kd.at_int HR0.out x19_1 p589 q589; cases e589; have hn589_0 : ad589.block ≠ gb588 := Nat.ne_of_lt (Nat.lt_of_lt_of_le (by have := World.block_lt_of_cell? _ _ hx589_0; first | rwa [add_block] at this | exact this) GW588.out); have hn589_1 : ad589.block ≠ gb588 := Nat.ne_of_lt (Nat.lt_of_lt_of_le (by have := World.block_lt_of_cell? _ _ hx589_0; first | rwa [add_block] at this | exact this) GW588.out); replace hx589_0 := (HB.out.cell (World.block_lt_of_cell? w _ hx589_0)).trans hx589_0; replace hx589_0 := (cell_far (p := ⟨gb588, 0, none⟩) (by first | (rw [add_block]; exact hn589_0) | (show (Addr.add _ _).block ≠ _; rw [add_block]; exact hn589_0) | exact hn589_0) (.string ((rd_T30 l1 x19_1).f0))).trans hx589_0; replace hx589_0 := (cell_far (p := ⟨gb588, 1, none⟩) (by first | (rw [add_block]; exact hn589_1) | (show (Addr.add _ _).block ≠ _; rw [add_block]; exact hn589_1) | exact hn589_1) (.string ((rd_T30 l1 x19_1).f1))).trans hx589_0; clear hn589_0; clear hn589_1; replace p589 := eq_true p589; replace q589 := eq_true q589) | ((with_reducible refine gc (f := 89) rfl ?_); refine goesM (some 28) Tryz.func89 #[.int .i64 (rd l0 x19_1)] ?_; (with_reducible refine (goItoa.calls (rd l0 x19_1) t590 _ ?s1 A10.out).mono ?_); (case s1 => exact gb HG0 HB); rintro e w29 ⟨rfl, hb⟩; refine ⟨_, rfl, ?_⟩; replace HO_7 := am (Kd.R_below (by (with_reducible repeat (first | apply Kd.R_alloc | apply Kd.R_drewN | apply Kd.R_drew)); exact (Kd.R_mono (Kd.R_far (p := ⟨gb588, 1, none⟩) (Kd.R_far (p := ⟨gb588, 0, none⟩) (Kd.R_types HO_7.out BK588.out (by decide)) (fun _ hk => hk.2) (.string ((rd_T30 l1 x19_1).f0))) (fun _ hk => hk.2) (.string ((rd_T30 l1 x19_1).f1))) (fun _ h_ => h_.1))) hb); replace BK588 := am (blk_below (g := gb588) (o := .cells #[.string ((rd_T30 l1 x19_1).f0), .string ((rd_T30 l1 x19_1).f1)] 30 (0, 0)) (by (with_reducible repeat (first | refine blk_drewN ?_ _ | refine blk_drew ?_ | refine blk_alloc ?_ _)); refine blk_put (cs := #[.string ((rd_T30 l1 x19_1).f0), .string (⟨#[]⟩ : ByteArray)]) ?_ 1 _ rfl; (with_reducible repeat (first | refine blk_drewN ?_ _ | refine blk_drew ?_ | refine blk_alloc ?_ _)); refine blk_put (cs := #[.string (⟨#[]⟩ : ByteArray), .string (⟨#[]⟩ : ByteArray)]) ?_ 0 _ rfl; (with_reducible repeat (first | refine blk_drewN ?_ _ | refine blk_drew ?_ | refine blk_alloc ?_ _)); exact BK588.out) hb); replace HB := bs HB hb; (try clear hb); (try clear hk); have hcz30_0 := bc BK588 0 (.string ((rd_T30 l1 x19_1).f0)); have hcz30_1 := bc BK588 1 (.string ((rd_T30 l1 x19_1).f1)); have hfz30_0 := blk_frozen BK588.out 0; have hfz30_1 := blk_frozen BK588.out 1))
       replace HO_7 := am (Kd.R_drew HO_7.out)
       replace BK588 := am (blk_drew BK588.out)
       replace HB := am (below_drew1 HB.out)
       refine start_ (n := 4) (S := fun w' => w'.cell? ⟨gb588, 0, none⟩ = some (.string ((rd_T30 l1 x19_1).f0)) ∧ w'.cell? ⟨gb588, 1, none⟩ = some (.string ((rd_T30 l1 x19_1).f1))) (ds := []) #[false, false, false, false] (by kernel_rfl) rfl rfl ⟨(blk_cell BK588.out 0).trans rfl, (blk_cell BK588.out 1).trans rfl⟩ (fun hHeld => ?_)
       generalize w29.drew = w31 at HO_7 BK588 HB hHeld ⊢
       refine take_ (i := 0) (N := some 40) (v := ?_) (a' := ?_) #[true, false, false, false] rfl rfl (by kernel_rfl) (fun _ _ _ h => h) (Or.inl ⟨by rfl, ?_⟩) hHeld ?_ ?_
       rotate_left
       ·rintro w' ⟨s0, s1⟩
        go_simp
        with_reducible rfl
       rotate_left
       ·simp only [Act.put, List.setIfInBounds_toArray, List.set_cons_zero, List.set_cons_succ, i64_w, i32_w]
        rfl
       refine one_ (i := 1) (N := some 41) #[true, true, false, false] rfl rfl (by kernel_rfl) (by decide) (fun K hK => ?_)
       refine goesR Tryz.func65 #[.int .i64 1] ?_
       with_reducible refine (size_number.calls 1 t591 t592 _ ?s1 A16.out).mono ?_
       (case s1 => exact gb HG0 HB)
       rintro e w32 ⟨rfl, hb⟩
       refine ⟨_, rfl, ?_⟩
       replace HO_7 := rb HO_7 hb
       replace BK588 := kb BK588 hb
       replace HB := bs HB hb
       (try clear hb)
       (try clear hb2)
       (try clear hk)
       (try clear hi)
       refine hK.out _ _ ⟨(blk_cell BK588.out 0).trans rfl, (blk_cell BK588.out 1).trans rfl⟩ (fun hHeld => ?_)
       clear hK K
       refine norm_ (a' := ?_) ?_ ?_
       rotate_left
       ·show Act.put _ (some 41) _ = _
        simp only [Act.put, List.setIfInBounds_toArray, List.set_cons_zero, List.set_cons_succ, i64_w, i32_w]
        rfl
       refine pure_ (i := 2) (N := some 42) (v := ?_) (a' := ?_) #[true, true, true, false] rfl rfl (by kernel_rfl) (fun _ _ _ h => h) (Or.inl ⟨by rfl, ?_⟩) ?_ ?_
       rotate_left
       ·intro w'
        go_simp
        with_reducible rfl
       rotate_left
       ·simp only [Act.put, List.setIfInBounds_toArray, List.set_cons_zero, List.set_cons_succ, i64_w, i32_w]
        rfl
       refine pure_ (i := 3) (N := some 39) (v := ?_) (a' := ?_) #[true, true, true, true] rfl rfl (by kernel_rfl) (fun _ _ _ h => h) (Or.inl ⟨by rfl, ?_⟩) ?_ ?_
       rotate_left
       ·intro w'
        go_simp
        with_reducible rfl
       rotate_left
       ·simp only [Act.put, List.setIfInBounds_toArray, List.set_cons_zero, List.set_cons_succ, i64_w, i32_w]
        rfl
       refine done_ (by kernel_rfl) ?_
       go_upto_region 12 with (fail)
       go_cut [43] (fun v43 wc => ∃ (kq : Nat) (x43_25 : Bool), v43 = .bool x43_25 ∧ Aside0 (size_Text.j1 kq l0 x7_1 t590 l1 (l1.length : Int) x19_1 x43_25 ((rd_T30 l1 x19_1).f0) ((rd_T30 l1 x19_1).f1) = some (r1, r2)) ∧ Aside0 (kq ≤ k1) ∧ Aside0 (Kd.R Kd.string 9 wc w.heap.size (fun _ => True) u7 x7_1) ∧ Aside0 (wc.heap[gb588]? = some (.cells #[.string ((rd_T30 l1 x19_1).f0), .string ((rd_T30 l1 x19_1).f1)] 30 (0, 0))) ∧ Aside0 (Below w.heap.size w wc))
       case first =>
        have H := HC26.out
        clear HC26
        by_cases c33 : ((rd_T30 l1 x19_1).f1).toList = ([49] : List UInt8)
        ·rw [if_pos c33] at H
         have c33b0 := beq_iff_eq.mpr c33
         have c33b1 := bne_eq_false_iff_eq.mpr c33
         clear c33
         (first | rw [c33b0] | (simp only [i64_w, i32_w]; rw [c33b0]) | skip)
         obtain ⟨t596, A34, H⟩ := bo H
         try dsimp only at H
         have H' := am H
         clear H
         have hcz35_0 := bc BK588 0 (.string ((rd_T30 l1 x19_1).f0))
         have hcz35_1 := bc BK588 1 (.string ((rd_T30 l1 x19_1).f1))
         have hfz35_0 := blk_frozen BK588.out 0
         have hfz35_1 := blk_frozen BK588.out 1
         go_wp2_with (first | (go_at_call 54; (with_reducible refine (whole_Sign.calls ((rd_T30 l1 x19_1).f0) t596 _ A34.out).mono ?_); rintro e w' ⟨rfl, ⟨nd, rfl⟩⟩))
         go_meet
         case rel => exact ⟨_, (decide (t596 > 0)), rs, H', ⟨by have := HK1.out; first | omega | exact Nat.le_refl _⟩, ⟨kr HO_7⟩, ⟨bk BK588⟩, ⟨bl HB⟩⟩
        ·rw [if_neg c33] at H
         have c33b0 := beq_eq_false_iff_ne.mpr c33
         have c33b1 := bne_iff_ne.mpr c33
         (first | rw [c33b0] | (simp only [i64_w, i32_w]; rw [c33b0]) | skip)
         have H' := am H
         clear H
         have hcz36_0 := bc BK588 0 (.string ((rd_T30 l1 x19_1).f0))
         have hcz36_1 := bc BK588 1 (.string ((rd_T30 l1 x19_1).f1))
         have hfz36_0 := blk_frozen BK588.out 0
         have hfz36_1 := blk_frozen BK588.out 1
         go_wp2
         go_meet
         case rel => exact ⟨_, (false), rs, H', ⟨by have := HK1.out; first | omega | exact Nat.le_refl _⟩, ⟨kr HO_7⟩, ⟨bk BK588⟩, ⟨bl HB⟩⟩
       case rest =>
        clear HC26
        try clear c1
        try clear p2
        try clear c3
        try clear c4
        try clear c4b0
        try clear c4b1
        try clear c5
        try clear p5
        try clear q5
        try clear hx5
        try clear c6
        try clear c6b0
        try clear p6
        try clear c7
        try clear c7b0
        try clear c8
        try clear c8b0
        try clear c9
        try clear c9b0
        try clear c11
        try clear c11b0
        try clear c11b1
        try clear c17
        try clear c17b0
        try clear c17b1
        try clear c17b2
        try clear c18
        try clear c33
        try clear c33b0
        try clear c33b1
        try clear hcz13_0
        try clear hcz13_1
        try clear hcz15_0
        try clear hcz15_1
        try clear hcz20_0
        try clear hcz20_1
        try clear hcz22_0
        try clear hcz22_1
        try clear hcz28_0
        try clear hcz28_1
        try clear hcz30_0
        try clear hcz30_1
        try clear hcz35_0
        try clear hcz35_1
        try clear hcz36_0
        try clear hcz36_1
        try clear hfz13_0
        try clear hfz13_1
        try clear hfz15_0
        try clear hfz15_1
        try clear hfz20_0
        try clear hfz20_1
        try clear hfz22_0
        try clear hfz22_1
        try clear hfz28_0
        try clear hfz28_1
        try clear hfz30_0
        try clear hfz30_1
        try clear hfz35_0
        try clear hfz35_1
        try clear hfz36_0
        try clear hfz36_1
        try clear hx587_0
        try clear hx587_1
        try clear hx589_0
        try clear p2
        try clear p587
        try clear p589
        try clear q587
        try clear q589
        obtain ⟨kq, x43_25, rfl, HA, HJ25, HO_7, BK588, HB⟩ := hcut
        cases kq with
        | zero => exact absurd HA.out (by simp [size_Text.j1])
        | succ kj25 =>
         have H := HA.out
         clear HA
         simp only [size_Text.j1] at H
         by_cases c37 : x43_25 = true
         ·subst c37
          rw [if_pos rfl] at H
          obtain ⟨t597, A38, H⟩ := bo H
          try dsimp only at H
          by_cases c39 : 1 + t597.size ≤ 9223372036854775807
          case neg => rw [if_neg c39] at H; cases H
          rw [if_pos c39] at H
          have c39b0 := eq_true c39
          have c39b1 := decide_eq_true c39
          try have c39b2 : (9223372036854775807 < 1 + t597.size) = False := eq_false (Nat.not_lt.2 c39)
          by_cases c40 : t590.size + ((⟨#[94]⟩ : ByteArray) ++ t597).size ≤ 9223372036854775807
          case neg => rw [if_neg c40] at H; cases H
          rw [if_pos c40] at H
          have c40b0 := eq_true c40
          have c40b1 := decide_eq_true c40
          try have c40b2 : (9223372036854775807 < t590.size + ((⟨#[94]⟩ : ByteArray) ++ t597).size) = False := eq_false (Nat.not_lt.2 c40)
          (try have c40b3 : (9223372036854775807 < t590.size + (1 + t597.size)) = False := by have h_ := of_eq_true c40b0; simp only [ByteArray.size_append] at h_; exact eq_false (Nat.not_lt.2 h_))
          by_cases c41 : x7_1.length < 8796093022208
          case neg => rw [if_neg c41] at H; cases H
          rw [if_pos c41] at H
          have LMc41 := am c41
          clear c41
          obtain ⟨y598, hy598⟩ : ∃ y_ : List ByteArray, y_ = (x7_1 ++ [t590 ++ ((⟨#[94]⟩ : ByteArray) ++ t597)]) := ⟨_, rfl⟩
          first | rw [Option.bind_some, ← hy598] at H | rw [← hy598] at H
          have Ny598 := am hy598
          clear hy598
          have H' := am H
          clear H
          have hcz42_0 := bc BK588 0 (.string ((rd_T30 l1 x19_1).f0))
          have hcz42_1 := bc BK588 1 (.string ((rd_T30 l1 x19_1).f1))
          have hfz42_0 := blk_frozen BK588.out 0
          have hfz42_1 := blk_frozen BK588.out 1
          go_wp2_with (first | ((with_reducible refine gc (f := 90) rfl ?_); refine goesM (some 55) Tryz.func90 #[.agg #[.string ((rd_T30 l1 x19_1).f0), .string ((rd_T30 l1 x19_1).f1)]] ?_; (with_reducible refine (fraction_Text.calls ((rd_T30 l1 x19_1).f0) ((rd_T30 l1 x19_1).f1) t597 _ A38.out).mono ?_); rintro e w43 ⟨rfl, hb⟩; refine ⟨_, rfl, ?_⟩; replace HO_7 := rb HO_7 hb; replace BK588 := kb BK588 hb; replace HB := bs HB hb; (try clear hb)) | ((with_reducible refine gate_builtin (b := .append) (xs := #[.tmp 58, .tmp 60]) rfl ?_); at_builtin; refine Kd.R_append Kd.string (w0 := w) w.heap.size rfl (.tmp 58) (.tmp 60) 127 9 (.string ⟨#[]⟩) 16 rfl Tryz.underlying127 info9 rfl (by decide) (by omega) u7 x7_1 (t590 ++ ((⟨#[94]⟩ : ByteArray) ++ t597)) [.string (t590 ++ ((⟨#[94]⟩ : ByteArray) ++ t597))] (fun _ => True) (fun _ => False) rfl rfl ?aP (fun _ hk => hk.elim) ?aF ?aO ?aB ?aS ?aL ?_; (case aP => exact rfl); (case aB => exact (bl HB)); (case aF => exact (fun _ _ => trivial)); (case aO => exact (kr HO_7)); (case aS => exact (below_size (bl HB))); (case aL => have := LMc41.out; omega); intro v599 w44 ho hb hg hat; rw [← Ny598.out] at ho; have n0_ := am (blk_grown (g := gb588) (o := .cells #[.string ((rd_T30 l1 x19_1).f0), .string ((rd_T30 l1 x19_1).f1)] 30 (0, 0)) (bk BK588) hg (Kd.R_ne HO_7.out BK588.out (by decide))); have n1_ := am (hb); have n2_ := am (ho); clear BK588; clear HB; clear HO_7; have BK588 := n0_; have HB := n1_; have HO600 := n2_; clear n0_ n1_ n2_; clear ho hb hg hat))
          go_roundg kj25
          case measure => have := HK1.out; have := HJ25.out; omega
          case rel => exact ⟨(y598), (wrap64 (x19_1 + 1)), rs, H', ⟨by have := HK1.out; have := HJ25.out; omega⟩, ⟨kr HO600⟩, ⟨bl HB⟩⟩
         ·replace c37 := Bool.eq_false_iff.mpr c37
          subst c37
          rw [if_neg (show ¬ (false = true) by decide)] at H
          obtain ⟨t601, A45, H⟩ := bo H
          try dsimp only at H
          by_cases c46 : 2 + t601.size ≤ 9223372036854775807
          case neg => rw [if_neg c46] at H; cases H
          rw [if_pos c46] at H
          have c46b0 := eq_true c46
          have c46b1 := decide_eq_true c46
          try have c46b2 : (9223372036854775807 < 2 + t601.size) = False := eq_false (Nat.not_lt.2 c46)
          by_cases c47 : ((⟨#[94, 40]⟩ : ByteArray) ++ t601).size + 1 ≤ 9223372036854775807
          case neg => rw [if_neg c47] at H; cases H
          rw [if_pos c47] at H
          have c47b0 := eq_true c47
          have c47b1 := decide_eq_true c47
          try have c47b2 : (9223372036854775807 < ((⟨#[94, 40]⟩ : ByteArray) ++ t601).size + 1) = False := eq_false (Nat.not_lt.2 c47)
          (try have c47b3 : (9223372036854775807 < 2 + t601.size + 1) = False := by have h_ := of_eq_true c47b0; simp only [ByteArray.size_append] at h_; exact eq_false (Nat.not_lt.2 h_))
          by_cases c48 : t590.size + (((⟨#[94, 40]⟩ : ByteArray) ++ t601) ++ (⟨#[41]⟩ : ByteArray)).size ≤ 9223372036854775807
          case neg => rw [if_neg c48] at H; cases H
          rw [if_pos c48] at H
          have c48b0 := eq_true c48
          have c48b1 := decide_eq_true c48
          try have c48b2 : (9223372036854775807 < t590.size + (((⟨#[94, 40]⟩ : ByteArray) ++ t601) ++ (⟨#[41]⟩ : ByteArray)).size) = False := eq_false (Nat.not_lt.2 c48)
          (try have c48b3 : (9223372036854775807 < t590.size + (2 + t601.size + 1)) = False := by have h_ := of_eq_true c48b0; simp only [ByteArray.size_append] at h_; exact eq_false (Nat.not_lt.2 h_))
          by_cases c49 : x7_1.length < 8796093022208
          case neg => rw [if_neg c49] at H; cases H
          rw [if_pos c49] at H
          have LMc49 := am c49
          clear c49
          obtain ⟨y602, hy602⟩ : ∃ y_ : List ByteArray, y_ = (x7_1 ++ [t590 ++ (((⟨#[94, 40]⟩ : ByteArray) ++ t601) ++ (⟨#[41]⟩ : ByteArray))]) := ⟨_, rfl⟩
          first | rw [Option.bind_some, ← hy602] at H | rw [← hy602] at H
          have Ny602 := am hy602
          clear hy602
          have H' := am H
          clear H
          have hcz50_0 := bc BK588 0 (.string ((rd_T30 l1 x19_1).f0))
          have hcz50_1 := bc BK588 1 (.string ((rd_T30 l1 x19_1).f1))
          have hfz50_0 := blk_frozen BK588.out 0
          have hfz50_1 := blk_frozen BK588.out 1
          go_wp2_with (first | ((with_reducible refine gc (f := 90) rfl ?_); refine goesM (some 31) Tryz.func90 #[.agg #[.string ((rd_T30 l1 x19_1).f0), .string ((rd_T30 l1 x19_1).f1)]] ?_; (with_reducible refine (fraction_Text.calls ((rd_T30 l1 x19_1).f0) ((rd_T30 l1 x19_1).f1) t601 _ A45.out).mono ?_); rintro e w51 ⟨rfl, hb⟩; refine ⟨_, rfl, ?_⟩; replace HO_7 := rb HO_7 hb; replace BK588 := kb BK588 hb; replace HB := bs HB hb; (try clear hb)) | ((with_reducible refine gate_builtin (b := .append) (xs := #[.tmp 58, .tmp 60]) rfl ?_); at_builtin; refine Kd.R_append Kd.string (w0 := w) w.heap.size rfl (.tmp 58) (.tmp 60) 127 9 (.string ⟨#[]⟩) 16 rfl Tryz.underlying127 info9 rfl (by decide) (by omega) u7 x7_1 (t590 ++ (((⟨#[94, 40]⟩ : ByteArray) ++ t601) ++ (⟨#[41]⟩ : ByteArray))) [.string (t590 ++ (((⟨#[94, 40]⟩ : ByteArray) ++ t601) ++ (⟨#[41]⟩ : ByteArray)))] (fun _ => True) (fun _ => False) rfl rfl ?aP (fun _ hk => hk.elim) ?aF ?aO ?aB ?aS ?aL ?_; (case aP => exact rfl); (case aB => exact (bl HB)); (case aF => exact (fun _ _ => trivial)); (case aO => exact (kr HO_7)); (case aS => exact (below_size (bl HB))); (case aL => have := LMc49.out; omega); intro v603 w52 ho hb hg hat; rw [← Ny602.out] at ho; have n0_ := am (blk_grown (g := gb588) (o := .cells #[.string ((rd_T30 l1 x19_1).f0), .string ((rd_T30 l1 x19_1).f1)] 30 (0, 0)) (bk BK588) hg (Kd.R_ne HO_7.out BK588.out (by decide))); have n1_ := am (hb); have n2_ := am (ho); clear BK588; clear HB; clear HO_7; have BK588 := n0_; have HB := n1_; have HO604 := n2_; clear n0_ n1_ n2_; clear ho hb hg hat))
          go_roundg kj25
          case measure => have := HK1.out; have := HJ25.out; omega
          case rel => exact ⟨(y602), (wrap64 (x19_1 + 1)), rs, H', ⟨by have := HK1.out; have := HJ25.out; omega⟩, ⟨kr HO604⟩, ⟨bl HB⟩⟩
    ·rw [if_neg c6] at H
     have c6b0 := decide_eq_false c6
     clear c6
     by_cases c53 : (x7_1.length : Int) = 0
     ·rw [if_pos c53] at H
      have c53b0 := beq_iff_eq.mpr c53
      have c53b1 := bne_eq_false_iff_eq.mpr c53
      clear c53
      simp only [Option.some.injEq, Prod.mk.injEq] at H
      obtain ⟨rfl, rfl⟩ := H
      obtain ⟨Ao54, co54, eo54⟩ := Kd.R_slice HO_7.out
      subst eo54
      go_wp2
      go_ret2
      exact ⟨rl, bl HB⟩
     ·rw [if_neg c53] at H
      have c53b0 := beq_eq_false_iff_ne.mpr c53
      have c53b1 := bne_iff_ne.mpr c53
      have c53b2 : ¬ (x7_1 = []) := fun h_ => c53 (by rw [h_]; rfl)
      obtain ⟨t586, A55, H⟩ := bo H
      try dsimp only at H
      simp only [Option.some.injEq, Prod.mk.injEq] at H
      obtain ⟨rfl, rfl⟩ := H
      obtain ⟨Ao56, co56, eo56⟩ := Kd.R_slice HO_7.out
      subst eo56
      go_wp2_with (first | ((with_reducible refine gc (f := 91) rfl ?_); refine goesM (some 67) Tryz.func91 #[.slice Ao56 x7_1.length co56, .string (⟨#[32]⟩ : ByteArray)] ?_; (with_reducible refine (goJoin.calls _ _ x7_1 (⟨#[32]⟩ : ByteArray) t586 _ ?s1 ?s2 ?s3 A55.out).mono ?_); (case s1 => exact cR HO_7); (case s2 => exact (Kd.R_reads' HO_7.out).2.1); (case s3 => exact spot_of_R HO_7.out); rintro e w57 ⟨rfl, hb⟩; refine ⟨_, rfl, ?_⟩; replace HO_7 := rb HO_7 hb; replace HB := bs HB hb; (try clear hb)))
      go_ret2
      exact ⟨rl, bl HB⟩
 ·rw [if_neg c4] at H
  have c4b0 := beq_eq_false_iff_ne.mpr c4
  have c4b1 := bne_iff_ne.mpr c4
  simp only [Option.some.injEq, Prod.mk.injEq] at H
  obtain ⟨rfl, rfl⟩ := H
  go_enter Tryz.func45, Tryz.ntmps45
  go_wp2_with (first | ((with_reducible refine gc (f := 51) rfl ?_); refine goesM (some 13) Tryz.func51 #[.slice A0 l0.length c0, .slice A1 l1.length c1] ?_; (with_reducible refine (size_Check.calls k _ _ l0 _ _ l1 t585 _ ?s1 ?s2 ?s3 ?s4 ?s5 A3.out).mono ?_); (case s1 => exact gb HG0 HB); (case s2 => exact cr HR0); (case s3 => exact HC0.out); (case s4 => exact cr HR1); (case s5 => exact HC1.out); rintro e w58 ⟨rfl, hb⟩; refine ⟨_, rfl, ?_⟩; replace HB := bs HB hb; (try clear hb)))
  go_ret2
  exact ⟨rl, bl HB⟩
def schismalaw13_equal.l0 : Nat → List (S30) → List (S30) → Int → Option (Bool)
 | 0, _, _, _ => none
 | k + 1, x0, x1, x5 => if x5 < (x0.length : Int) then (if 0 ≤ x5 then (if x5 < (x1.length : Int) then (if (!((((rd_T30 x0 x5).f0).toList) == (((rd_T30 x1 x5).f0).toList)) || (!((((rd_T30 x0 x5).f1).toList) == (((rd_T30 x1 x5).f1).toList)))) = true then (some false) else (schismalaw13_equal.l0 k x0 x1 (wrap64 (x5 + 1)))) else (none)) else (none)) else (some true)
def schismalaw13_equal.f (k : Nat) (l0 : List (S30)) (l1 : List (S30)) : Option (Bool) := if (l0.length : Int) = (l1.length : Int) then (schismalaw13_equal.l0 k l0 l1 0) else (some false)
theorem schismalaw13_equal.calls (k : Nat) (A0 : Option Addr) (c0 : Nat) (l0 : List (S30)) (A1 : Option Addr) (c1 : Nat) (l1 : List (S30)) (r : Bool) (w : World) (hr0 : Kd.C k30 w A0 l0.length l0) (hc0 : l0.length ≤ c0) (hr1 : Kd.C k30 w A1 l1.length l1) (hc1 : l1.length ≤ c1) (h : schismalaw13_equal.f k l0 l1 = some r) :
  Calls Tryz.prog 20 #[.slice A0 l0.length c0, .slice A1 l1.length c1] w fun e w' => e = .returned (.bool r) ∧ Drawn0 w w' := by
 have hu30 := Tryz.underlying30
 have HR0 := am hr0
 have HC0 := am hc0
 clear hr0 hc0
 have HR1 := am hr1
 have HC1 := am hc1
 clear hr1 hc1
 have H := h
 unfold schismalaw13_equal.f at H
 clear h
 by_cases c3 : (l0.length : Int) = (l1.length : Int)
 ·rw [if_pos c3] at H
  have c3b0 := beq_iff_eq.mpr c3
  have c3b1 := bne_eq_false_iff_eq.mpr c3
  have c3b2 : (l0.length == l1.length) = true := by first | simpa using c3 | (simp at c3 ⊢; omega)
  clear c3
  have H' := am H
  clear H
  go_enter Tryz.func20, Tryz.ntmps20
  go_wp2
  repeat (go_quiet (fail); try go_wp2)
  go_loopg [5] k (fun kq v5 w' => ∃ (x5_1 : Int), v5 = .int .i64 x5_1 ∧ Aside0 (schismalaw13_equal.l0 kq l0 l1 x5_1 = some r) ∧ Aside0 (kq ≤ k) ∧ Drawn0 w w')
  case atStart => exact ⟨(0), rs, H', ⟨Nat.le_refl _⟩, by repeat (first | exact Drawn0.refl _ | apply Drawn0.step)⟩
  case round =>
   clear H'
   try clear c1
   try clear c2
   try clear p2
   try clear c3
   try clear c3b0
   try clear c3b1
   try clear c3b2
   obtain ⟨x5_1, rfl, HA, HK1, ⟨m1, rfl⟩⟩ := hrel
   cases gk with
   | zero => exact absurd HA.out (by simp [schismalaw13_equal.l0])
   | succ k1 =>
    have H := HA.out
    clear HA
    simp only [schismalaw13_equal.l0] at H
    by_cases c4 : x5_1 < (l0.length : Int)
    ·rw [if_pos c4] at H
     have c4b0 := decide_eq_true c4
     clear c4
     by_cases c5 : 0 ≤ x5_1
     case neg => rw [if_neg c5] at H; cases H
     rw [if_pos c5] at H
     have c5b0 := decide_eq_true c5
     clear c5
     by_cases c6 : x5_1 < (l1.length : Int)
     case neg => rw [if_neg c6] at H; cases H
     rw [if_pos c6] at H
     have c6b0 := decide_eq_true c6
     clear c6
     by_cases c7 : (!((((rd_T30 l0 x5_1).f0).toList) == (((rd_T30 l1 x5_1).f0).toList)) || (!((((rd_T30 l0 x5_1).f1).toList) == (((rd_T30 l1 x5_1).f1).toList)))) = true
     ·rw [if_pos c7] at H
      have c7b0 : (!((((rd_T30 l0 x5_1).f0).toList) == (((rd_T30 l1 x5_1).f0).toList)) || (!((((rd_T30 l0 x5_1).f1).toList) == (((rd_T30 l1 x5_1).f1).toList)))) = true := c7
      clear c7
      obtain rfl := Option.some.inj H
      have p667 : 0 ≤ (x5_1 : Int) := of_decide_eq_true (by first | (with_reducible assumption) | assumption)
      have q667 : x5_1 < (l0.length : Int) := of_decide_eq_true (by first | (with_reducible assumption) | assumption)
      obtain ⟨ad667, e667, hx667_0, hx667_1⟩ := at_T30 HR0.out x5_1 p667 q667
      cases e667
      replace p667 := eq_true p667
      replace q667 := eq_true q667
      have p668 : 0 ≤ (x5_1 : Int) := of_decide_eq_true (by first | (with_reducible assumption) | assumption)
      have q668 : x5_1 < (l1.length : Int) := of_decide_eq_true (by first | (with_reducible assumption) | assumption)
      obtain ⟨ad668, e668, hx668_0, hx668_1⟩ := at_T30 HR1.out x5_1 p668 q668
      cases e668
      replace p668 := eq_true p668
      replace q668 := eq_true q668
      go_wp2
      repeat (go_quiet (fail); try go_wp2)
      go_ret
      exact ⟨by first | rfl | (simp; done) | (simp [*]; done), by repeat (first | exact Drawn0.refl _ | apply Drawn0.step)⟩
     ·rw [if_neg c7] at H
      have c7b0 : (!((((rd_T30 l0 x5_1).f0).toList) == (((rd_T30 l1 x5_1).f0).toList)) || (!((((rd_T30 l0 x5_1).f1).toList) == (((rd_T30 l1 x5_1).f1).toList)))) = false := by simpa using c7
      clear c7
      have H' := am H
      clear H
      have p667 : 0 ≤ (x5_1 : Int) := of_decide_eq_true (by first | (with_reducible assumption) | assumption)
      have q667 : x5_1 < (l0.length : Int) := of_decide_eq_true (by first | (with_reducible assumption) | assumption)
      obtain ⟨ad667, e667, hx667_0, hx667_1⟩ := at_T30 HR0.out x5_1 p667 q667
      cases e667
      replace p667 := eq_true p667
      replace q667 := eq_true q667
      have p668 : 0 ≤ (x5_1 : Int) := of_decide_eq_true (by first | (with_reducible assumption) | assumption)
      have q668 : x5_1 < (l1.length : Int) := of_decide_eq_true (by first | (with_reducible assumption) | assumption)
      obtain ⟨ad668, e668, hx668_0, hx668_1⟩ := at_T30 HR1.out x5_1 p668 q668
      cases e668
      replace p668 := eq_true p668
      replace q668 := eq_true q668
      go_wp2
      repeat (go_quiet (fail); try go_wp2)
      go_roundg k1
      case measure => have := HK1.out; omega
      case rel => exact ⟨(wrap64 (x5_1 + 1)), rs, H', ⟨by have := HK1.out; omega⟩, by repeat (first | exact Drawn0.refl _ | apply Drawn0.step)⟩
    ·rw [if_neg c4] at H
     have c4b0 := decide_eq_false c4
     clear c4
     obtain rfl := Option.some.inj H
     go_wp2
     repeat (go_quiet (fail); try go_wp2)
     go_ret
     exact ⟨by first | rfl | (simp; done) | (simp [*]; done), by repeat (first | exact Drawn0.refl _ | apply Drawn0.step)⟩
 ·rw [if_neg c3] at H
  have c3b0 := beq_eq_false_iff_ne.mpr c3
  have c3b1 := bne_iff_ne.mpr c3
  have c3b2 : (l0.length == l1.length) = false := by first | simpa using c3 | (simp at c3 ⊢; omega)
  obtain rfl := Option.some.inj H
  go_enter Tryz.func20, Tryz.ntmps20
  go_wp2
  repeat (go_quiet (fail); try go_wp2)
  go_ret
  exact ⟨by first | rfl | (simp; done) | (simp [*]; done), by repeat (first | exact Drawn0.refl _ | apply Drawn0.step)⟩
def size_Add.f (k : Nat) (l0 : List Int) (l1 : List (S30)) (l2 : List (S30)) : Option ((List (S30)) × Int) := (size_number.f 1).bind fun bt672 => ((size_number.f 1).bind fun bt674 => ((size_Combine.f k l0 (([l1, l2] : List (List (S30)))) (([(⟨bt672.1, bt672.2⟩ : S30), (⟨bt674.1, bt674.2⟩ : S30)] : List (S30)))).bind fun bt679 => (some (bt679.1, bt679.2))))
theorem size_Add.calls (k : Nat) (A0 : Option Addr) (c0 : Nat) (l0 : List Int) (P1_ : Nat → Prop) (A1 : Option Addr) (c1 : Nat) (l1 : List (S30)) (P2_ : Nat → Prop) (A2 : Option Addr) (c2 : Nat) (l2 : List (S30)) (r1 : List (S30)) (r2 : Int) (w : World) (hG : Glob w) (hr0 : Kd.C (Kd.int .i64) w A0 l0.length l0) (hc0 : l0.length ≤ c0) (hs1 : Kd.V k30 30 w w.heap.size (fun k_ => P1_ k_) (.slice A1 l1.length c1) l1) (hs2 : Kd.V k30 30 w w.heap.size (fun k_ => P2_ k_) (.slice A2 l2.length c2) l2) (h : size_Add.f k l0 l1 l2 = some (r1, r2)) :
  Calls Tryz.prog 22 #[.slice A0 l0.length c0, .slice A1 l1.length c1, .slice A2 l2.length c2] w fun e w' => ∃ v0_ : Value, e = .returned (.tuple #[v0_, .int .i64 r2]) ∧ Kd.R k30 30 w' w.heap.size (fun k_ => (w.heap.size ≤ k_)) v0_ r1 ∧ Below w.heap.size w w' := by
 have HR0 := am hr0
 have HC0 := am hc0
 clear hr0 hc0
 have HO1 := am (show Kd.V k30 30 w w.heap.size (fun k_ => ((P1_ k_ ∨ P2_ k_) ∨ w.heap.size ≤ k_)) (.slice A1 l1.length c1) l1 from Kd.V_mono hs1 (fun k_ hk => .inl (.inl hk)))
 have HO2 := am (show Kd.V k30 30 w w.heap.size (fun k_ => ((P1_ k_ ∨ P2_ k_) ∨ w.heap.size ≤ k_)) (.slice A2 l2.length c2) l2 from Kd.V_mono hs2 (fun k_ hk => .inl (.inr hk)))
 have HG0 := am hG
 clear hG
 have HB := am (Below.refl w.heap.size w)
 have H := h
 unfold size_Add.f at H
 clear h
 obtain ⟨y669, hy669⟩ : ∃ y_ : List (List (S30)), y_ = (([l1, l2] : List (List (S30)))) := ⟨_, rfl⟩
 first | rw [Option.bind_some, ← hy669] at H | rw [← hy669] at H
 have Ny669 := am hy669
 clear hy669
 obtain ⟨⟨t672, t673⟩, A4, H⟩ := bo H
 try dsimp only at H
 obtain ⟨⟨t674, t675⟩, A5, H⟩ := bo H
 try dsimp only at H
 obtain ⟨y676, hy676⟩ : ∃ y_ : List (S30), y_ = (([(⟨t672, t673⟩ : S30), (⟨t674, t675⟩ : S30)] : List (S30))) := ⟨_, rfl⟩
 first | rw [Option.bind_some, ← hy676] at H | rw [← hy676] at H
 have Ny676 := am hy676
 clear hy676
 obtain ⟨⟨t679, t680⟩, A6, H⟩ := bo H
 try dsimp only at H
 simp only [Option.some.injEq, Prod.mk.injEq] at H
 obtain ⟨rfl, rfl⟩ := H
 go_enter Tryz.func22, Tryz.ntmps22
 go_wp2_with (first | ((with_reducible refine gd (N := 11) rfl ?_); refine Kd.N_lit (Kd.slice 30 k30) _ 34 ?hg (N' := 11) ?hd (xs := ([l1, l2] : List (List (S30)))) (inner := [.slice A1 l1.length c1, .slice A2 l2.length c2]) (ok := (fun k_ => ((P1_ k_ ∨ P2_ k_) ∨ w.heap.size ≤ k_))) (okp := (fun k_ => ((P1_ k_ ∨ P2_ k_) ∨ w.heap.size ≤ k_))) ?hr ?hp (fun _ hk => hk) ((show ∀ k_, w.heap.size ≤ k_ → (fun k_ => ((P1_ k_ ∨ P2_ k_) ∨ w.heap.size ≤ k_)) k_ from fun k_ hk => (.inr (Nat.le_trans (below_size (bl HB)) hk))) _ (Nat.le_refl _)) (Below.refl _ _) (Nat.le_refl _) (by simp) ?_; (case hd => rfl); (case hg => rfl); (case hr => first | (go_simp; done) | (go_simp; rfl)); (case hp => exact (Reps.one (show Kd.FK (Kd.slice 30 k30) _ _ l1 [.slice A1 l1.length c1] from (Kd.FK_slice_mk (Kd.V_reads' (Kd.V_mono (ok' := (fun k_ => ((P1_ k_ ∨ P2_ k_) ∨ w.heap.size ≤ k_))) (HO1.out) (fun k_ hk => hk))).2.1 (Kd.V_F (Kd.V_mono (ok' := (fun k_ => ((P1_ k_ ∨ P2_ k_) ∨ w.heap.size ≤ k_))) (HO1.out) (fun k_ hk => hk))))) (Reps.one (show Kd.FK (Kd.slice 30 k30) _ _ l2 [.slice A2 l2.length c2] from (Kd.FK_slice_mk (Kd.V_reads' (Kd.V_mono (ok' := (fun k_ => ((P1_ k_ ∨ P2_ k_) ∨ w.heap.size ≤ k_))) (HO2.out) (fun k_ hk => hk))).2.1 (Kd.V_F (Kd.V_mono (ok' := (fun k_ => ((P1_ k_ ∨ P2_ k_) ∨ w.heap.size ≤ k_))) (HO2.out) (fun k_ hk => hk))))) (Reps.none _ _)))); intro v670 w7 ho8 hb hg_ hnew_; clear hg_ hnew_; (first | rw [← Ny669.out] at ho8 | (simp only [Int.reduceToNat] at ho8; rw [← Ny669.out] at ho8)); replace HO1 := am (Kd.V_elder' (kv HO1) (Kd.N_base ho8) hb); replace HO2 := am (Kd.V_elder' (kv HO2) (Kd.N_base ho8) hb); have HO671 := am (Kd.N_lower ho8 (below_size (bl HB))); replace HB := bs HB hb; clear hb ho8) | ((with_reducible refine gc (f := 65) rfl ?_); refine goesM (some 12) Tryz.func65 #[.int .i64 1] ?_; (with_reducible refine (size_number.calls 1 t672 t673 _ ?s1 A4.out).mono ?_); (case s1 => exact gb HG0 HB); rintro e w9 ⟨rfl, hb⟩; refine ⟨_, rfl, ?_⟩; replace HO1 := am (Kd.V_below (kv HO1) hb); replace HO2 := am (Kd.V_below (kv HO2) hb); replace HO671 := am (Kd.N_below (by (with_reducible repeat (first | apply Kd.N_alloc | apply Kd.N_drewN | apply Kd.N_drew)); exact HO671.out) hb); replace HB := bs HB hb; (try clear hb)) | ((with_reducible refine gc (f := 65) rfl ?_); refine goesM (some 13) Tryz.func65 #[.int .i64 1] ?_; (with_reducible refine (size_number.calls 1 t674 t675 _ ?s1 A5.out).mono ?_); (case s1 => exact gb HG0 HB); rintro e w10 ⟨rfl, hb⟩; refine ⟨_, rfl, ?_⟩; replace HO1 := am (Kd.V_below (kv HO1) hb); replace HO2 := am (Kd.V_below (kv HO2) hb); replace HO671 := am (Kd.N_below (by (with_reducible repeat (first | apply Kd.N_alloc | apply Kd.N_drewN | apply Kd.N_drew)); exact HO671.out) hb); replace HB := bs HB hb; (try clear hb)) | ((with_reducible refine gd (N := 14) rfl ?_); refine Kd.R_lit k30 _ 30 ?hg (N := 14) ?hd (xs := ([(⟨t672, t673⟩ : S30), (⟨t674, t675⟩ : S30)] : List (S30))) (inner := [.string t672, .string t673, .string t674, .string t675]) (ok := fun _ => True) (okp := fun _ => True) ?hr ?hp (fun _ hk => hk) trivial (Below.refl _ _) (Nat.le_refl _) (by simp) ?_; (case hd => rfl); (case hg => rfl); (case hr => first | (go_simp; done) | (go_simp; rfl)); (case hp => exact (Reps.c2 (show Kd.M k30 _ _ _ (⟨t672, t673⟩ : S30) [.string t672, .string t673] from (k30_mkM _ _ _ (⟨t672, t673⟩ : S30) )) (Reps.c2 (show Kd.M k30 _ _ _ (⟨t674, t675⟩ : S30) [.string t674, .string t675] from (k30_mkM _ _ _ (⟨t674, t675⟩ : S30) )) (Reps.none _ _)))); intro v677 w11 ho12 hb hg_ hnew_; clear hg_ hnew_; (first | rw [← Ny676.out] at ho12 | (simp only [Int.reduceToNat] at ho12; rw [← Ny676.out] at ho12)); replace HO1 := am (Kd.V_elder' (kv HO1) (Kd.R_base ho12) hb); replace HO2 := am (Kd.V_elder' (kv HO2) (Kd.R_base ho12) hb); replace HO671 := am (Kd.N_elder' (by (with_reducible repeat (first | apply Kd.N_alloc | apply Kd.N_drewN | apply Kd.N_drew)); exact HO671.out) (Kd.R_base ho12) hb); have HO678 := am (Kd.R_lower (Kd.R_newM (M := fun k_ => (w.heap.size ≤ k_)) ho12 (below_size (bl HB)) (fun k_ h_ => h_)) (below_size (bl HB))); replace HB := bs HB hb; clear hb ho12; obtain ⟨Ao13, co13, eo13⟩ := Kd.N_slice HO671.out; subst eo13; obtain ⟨Ao14, co14, eo14⟩ := Kd.R_slice HO678.out; subst eo14) | ((with_reducible refine gc (f := 16) rfl ?_); refine goesM (some 15) Tryz.func16 #[.slice A0 l0.length c0, .slice Ao13 y669.length co13, .slice Ao14 y676.length co14] ?_; (with_reducible refine (size_Combine.calls k _ _ l0 _ _ y669 _ _ y676 t679 t680 _ ?s1 ?s2 ?s3 ?s4 ?s5 ?s6 ?s7 A6.out).mono ?_); (case s1 => exact gb HG0 HB); (case s2 => exact cb HR0 HB); (case s3 => exact HC0.out); (case s4 => repeat (first | exact (Kd.N_reads' HO671.out).2.2 | (with_reducible refine Kd.C_alloc ?_ _) | (with_reducible refine Kd.C_drewN ?_ _) | (with_reducible refine Kd.C_drew ?_))); (case s5 => exact (Kd.N_reads' HO671.out).2.1); (case s6 => exact cR HO678); (case s7 => exact (Kd.R_reads' HO678.out).2.1); rintro e w15 ⟨v681, rfl, ho0, hb⟩; refine ⟨_, rfl, ?_⟩; replace HO1 := am (Kd.V_elder' (kv HO1) (Kd.R_base ho0) hb); replace HO2 := am (Kd.V_elder' (kv HO2) (Kd.R_base ho0) hb); replace HO671 := am (Kd.N_elder' (by (with_reducible repeat (first | apply Kd.N_alloc | apply Kd.N_drewN | apply Kd.N_drew)); exact HO671.out) (Kd.R_base ho0) hb); have HO682 := am (Kd.R_lower (Kd.R_new' (Kd.R_newM (M := fun k_ => (w.heap.size ≤ k_)) ho0 (below_size (bl HB)) (fun k_ h_ => h_)) (Kd.R_lt (kr HO678))) (below_size (bl HB))); replace HO678 := am (Kd.R_elder' (kr HO678) (Kd.R_base ho0) hb); replace HB := bs HB hb; (try clear hb); (try clear ho0)))
 go_ret2
 exact ⟨_, rl, by (with_reducible repeat (first | apply Kd.R_alloc | apply Kd.R_drewN | apply Kd.R_drew)); exact Kd.R_mono HO682.out (fun _ hk => hk.1.1), bl HB⟩
def size_Sub.f (k : Nat) (l0 : List Int) (l1 : List (S30)) (l2 : List (S30)) : Option ((List (S30)) × Int) := (size_number.f 1).bind fun bt686 => ((size_number.f (-1)).bind fun bt688 => ((size_Combine.f k l0 (([l1, l2] : List (List (S30)))) (([(⟨bt686.1, bt686.2⟩ : S30), (⟨bt688.1, bt688.2⟩ : S30)] : List (S30)))).bind fun bt693 => (some (bt693.1, bt693.2))))
theorem size_Sub.calls (k : Nat) (A0 : Option Addr) (c0 : Nat) (l0 : List Int) (P1_ : Nat → Prop) (A1 : Option Addr) (c1 : Nat) (l1 : List (S30)) (P2_ : Nat → Prop) (A2 : Option Addr) (c2 : Nat) (l2 : List (S30)) (r1 : List (S30)) (r2 : Int) (w : World) (hG : Glob w) (hr0 : Kd.C (Kd.int .i64) w A0 l0.length l0) (hc0 : l0.length ≤ c0) (hs1 : Kd.V k30 30 w w.heap.size (fun k_ => P1_ k_) (.slice A1 l1.length c1) l1) (hs2 : Kd.V k30 30 w w.heap.size (fun k_ => P2_ k_) (.slice A2 l2.length c2) l2) (h : size_Sub.f k l0 l1 l2 = some (r1, r2)) :
  Calls Tryz.prog 26 #[.slice A0 l0.length c0, .slice A1 l1.length c1, .slice A2 l2.length c2] w fun e w' => ∃ v0_ : Value, e = .returned (.tuple #[v0_, .int .i64 r2]) ∧ Kd.R k30 30 w' w.heap.size (fun k_ => (w.heap.size ≤ k_)) v0_ r1 ∧ Below w.heap.size w w' := by
 have HR0 := am hr0
 have HC0 := am hc0
 clear hr0 hc0
 have HO1 := am (show Kd.V k30 30 w w.heap.size (fun k_ => ((P1_ k_ ∨ P2_ k_) ∨ w.heap.size ≤ k_)) (.slice A1 l1.length c1) l1 from Kd.V_mono hs1 (fun k_ hk => .inl (.inl hk)))
 have HO2 := am (show Kd.V k30 30 w w.heap.size (fun k_ => ((P1_ k_ ∨ P2_ k_) ∨ w.heap.size ≤ k_)) (.slice A2 l2.length c2) l2 from Kd.V_mono hs2 (fun k_ hk => .inl (.inr hk)))
 have HG0 := am hG
 clear hG
 have HB := am (Below.refl w.heap.size w)
 have H := h
 unfold size_Sub.f at H
 clear h
 obtain ⟨y683, hy683⟩ : ∃ y_ : List (List (S30)), y_ = (([l1, l2] : List (List (S30)))) := ⟨_, rfl⟩
 first | rw [Option.bind_some, ← hy683] at H | rw [← hy683] at H
 have Ny683 := am hy683
 clear hy683
 obtain ⟨⟨t686, t687⟩, A4, H⟩ := bo H
 try dsimp only at H
 obtain ⟨⟨t688, t689⟩, A5, H⟩ := bo H
 try dsimp only at H
 obtain ⟨y690, hy690⟩ : ∃ y_ : List (S30), y_ = (([(⟨t686, t687⟩ : S30), (⟨t688, t689⟩ : S30)] : List (S30))) := ⟨_, rfl⟩
 first | rw [Option.bind_some, ← hy690] at H | rw [← hy690] at H
 have Ny690 := am hy690
 clear hy690
 obtain ⟨⟨t693, t694⟩, A6, H⟩ := bo H
 try dsimp only at H
 simp only [Option.some.injEq, Prod.mk.injEq] at H
 obtain ⟨rfl, rfl⟩ := H
 go_enter Tryz.func26, Tryz.ntmps26
 go_wp2_with (first | ((with_reducible refine gd (N := 11) rfl ?_); refine Kd.N_lit (Kd.slice 30 k30) _ 34 ?hg (N' := 11) ?hd (xs := ([l1, l2] : List (List (S30)))) (inner := [.slice A1 l1.length c1, .slice A2 l2.length c2]) (ok := (fun k_ => ((P1_ k_ ∨ P2_ k_) ∨ w.heap.size ≤ k_))) (okp := (fun k_ => ((P1_ k_ ∨ P2_ k_) ∨ w.heap.size ≤ k_))) ?hr ?hp (fun _ hk => hk) ((show ∀ k_, w.heap.size ≤ k_ → (fun k_ => ((P1_ k_ ∨ P2_ k_) ∨ w.heap.size ≤ k_)) k_ from fun k_ hk => (.inr (Nat.le_trans (below_size (bl HB)) hk))) _ (Nat.le_refl _)) (Below.refl _ _) (Nat.le_refl _) (by simp) ?_; (case hd => rfl); (case hg => rfl); (case hr => first | (go_simp; done) | (go_simp; rfl)); (case hp => exact (Reps.one (show Kd.FK (Kd.slice 30 k30) _ _ l1 [.slice A1 l1.length c1] from (Kd.FK_slice_mk (Kd.V_reads' (Kd.V_mono (ok' := (fun k_ => ((P1_ k_ ∨ P2_ k_) ∨ w.heap.size ≤ k_))) (HO1.out) (fun k_ hk => hk))).2.1 (Kd.V_F (Kd.V_mono (ok' := (fun k_ => ((P1_ k_ ∨ P2_ k_) ∨ w.heap.size ≤ k_))) (HO1.out) (fun k_ hk => hk))))) (Reps.one (show Kd.FK (Kd.slice 30 k30) _ _ l2 [.slice A2 l2.length c2] from (Kd.FK_slice_mk (Kd.V_reads' (Kd.V_mono (ok' := (fun k_ => ((P1_ k_ ∨ P2_ k_) ∨ w.heap.size ≤ k_))) (HO2.out) (fun k_ hk => hk))).2.1 (Kd.V_F (Kd.V_mono (ok' := (fun k_ => ((P1_ k_ ∨ P2_ k_) ∨ w.heap.size ≤ k_))) (HO2.out) (fun k_ hk => hk))))) (Reps.none _ _)))); intro v684 w7 ho8 hb hg_ hnew_; clear hg_ hnew_; (first | rw [← Ny683.out] at ho8 | (simp only [Int.reduceToNat] at ho8; rw [← Ny683.out] at ho8)); replace HO1 := am (Kd.V_elder' (kv HO1) (Kd.N_base ho8) hb); replace HO2 := am (Kd.V_elder' (kv HO2) (Kd.N_base ho8) hb); have HO685 := am (Kd.N_lower ho8 (below_size (bl HB))); replace HB := bs HB hb; clear hb ho8) | ((with_reducible refine gc (f := 65) rfl ?_); refine goesM (some 12) Tryz.func65 #[.int .i64 1] ?_; (with_reducible refine (size_number.calls 1 t686 t687 _ ?s1 A4.out).mono ?_); (case s1 => exact gb HG0 HB); rintro e w9 ⟨rfl, hb⟩; refine ⟨_, rfl, ?_⟩; replace HO1 := am (Kd.V_below (kv HO1) hb); replace HO2 := am (Kd.V_below (kv HO2) hb); replace HO685 := am (Kd.N_below (by (with_reducible repeat (first | apply Kd.N_alloc | apply Kd.N_drewN | apply Kd.N_drew)); exact HO685.out) hb); replace HB := bs HB hb; (try clear hb)) | ((with_reducible refine gc (f := 65) rfl ?_); refine goesM (some 13) Tryz.func65 #[.int .i64 (-1)] ?_; (with_reducible refine (size_number.calls (-1) t688 t689 _ ?s1 A5.out).mono ?_); (case s1 => exact gb HG0 HB); rintro e w10 ⟨rfl, hb⟩; refine ⟨_, rfl, ?_⟩; replace HO1 := am (Kd.V_below (kv HO1) hb); replace HO2 := am (Kd.V_below (kv HO2) hb); replace HO685 := am (Kd.N_below (by (with_reducible repeat (first | apply Kd.N_alloc | apply Kd.N_drewN | apply Kd.N_drew)); exact HO685.out) hb); replace HB := bs HB hb; (try clear hb)) | ((with_reducible refine gd (N := 14) rfl ?_); refine Kd.R_lit k30 _ 30 ?hg (N := 14) ?hd (xs := ([(⟨t686, t687⟩ : S30), (⟨t688, t689⟩ : S30)] : List (S30))) (inner := [.string t686, .string t687, .string t688, .string t689]) (ok := fun _ => True) (okp := fun _ => True) ?hr ?hp (fun _ hk => hk) trivial (Below.refl _ _) (Nat.le_refl _) (by simp) ?_; (case hd => rfl); (case hg => rfl); (case hr => first | (go_simp; done) | (go_simp; rfl)); (case hp => exact (Reps.c2 (show Kd.M k30 _ _ _ (⟨t686, t687⟩ : S30) [.string t686, .string t687] from (k30_mkM _ _ _ (⟨t686, t687⟩ : S30) )) (Reps.c2 (show Kd.M k30 _ _ _ (⟨t688, t689⟩ : S30) [.string t688, .string t689] from (k30_mkM _ _ _ (⟨t688, t689⟩ : S30) )) (Reps.none _ _)))); intro v691 w11 ho12 hb hg_ hnew_; clear hg_ hnew_; (first | rw [← Ny690.out] at ho12 | (simp only [Int.reduceToNat] at ho12; rw [← Ny690.out] at ho12)); replace HO1 := am (Kd.V_elder' (kv HO1) (Kd.R_base ho12) hb); replace HO2 := am (Kd.V_elder' (kv HO2) (Kd.R_base ho12) hb); replace HO685 := am (Kd.N_elder' (by (with_reducible repeat (first | apply Kd.N_alloc | apply Kd.N_drewN | apply Kd.N_drew)); exact HO685.out) (Kd.R_base ho12) hb); have HO692 := am (Kd.R_lower (Kd.R_newM (M := fun k_ => (w.heap.size ≤ k_)) ho12 (below_size (bl HB)) (fun k_ h_ => h_)) (below_size (bl HB))); replace HB := bs HB hb; clear hb ho12; obtain ⟨Ao13, co13, eo13⟩ := Kd.N_slice HO685.out; subst eo13; obtain ⟨Ao14, co14, eo14⟩ := Kd.R_slice HO692.out; subst eo14) | ((with_reducible refine gc (f := 16) rfl ?_); refine goesM (some 15) Tryz.func16 #[.slice A0 l0.length c0, .slice Ao13 y683.length co13, .slice Ao14 y690.length co14] ?_; (with_reducible refine (size_Combine.calls k _ _ l0 _ _ y683 _ _ y690 t693 t694 _ ?s1 ?s2 ?s3 ?s4 ?s5 ?s6 ?s7 A6.out).mono ?_); (case s1 => exact gb HG0 HB); (case s2 => exact cb HR0 HB); (case s3 => exact HC0.out); (case s4 => repeat (first | exact (Kd.N_reads' HO685.out).2.2 | (with_reducible refine Kd.C_alloc ?_ _) | (with_reducible refine Kd.C_drewN ?_ _) | (with_reducible refine Kd.C_drew ?_))); (case s5 => exact (Kd.N_reads' HO685.out).2.1); (case s6 => exact cR HO692); (case s7 => exact (Kd.R_reads' HO692.out).2.1); rintro e w15 ⟨v695, rfl, ho0, hb⟩; refine ⟨_, rfl, ?_⟩; replace HO1 := am (Kd.V_elder' (kv HO1) (Kd.R_base ho0) hb); replace HO2 := am (Kd.V_elder' (kv HO2) (Kd.R_base ho0) hb); replace HO685 := am (Kd.N_elder' (by (with_reducible repeat (first | apply Kd.N_alloc | apply Kd.N_drewN | apply Kd.N_drew)); exact HO685.out) (Kd.R_base ho0) hb); have HO696 := am (Kd.R_lower (Kd.R_new' (Kd.R_newM (M := fun k_ => (w.heap.size ≤ k_)) ho0 (below_size (bl HB)) (fun k_ h_ => h_)) (Kd.R_lt (kr HO692))) (below_size (bl HB))); replace HO692 := am (Kd.R_elder' (kr HO692) (Kd.R_base ho0) hb); replace HB := bs HB hb; (try clear hb); (try clear ho0)))
 go_ret2
 exact ⟨_, rl, by (with_reducible repeat (first | apply Kd.R_alloc | apply Kd.R_drewN | apply Kd.R_drew)); exact Kd.R_mono HO696.out (fun _ hk => hk.1.1), bl HB⟩
def size_Sign.f (k : Nat) (l0 : List Int) (l1 : List (S30)) : Option (Int × Int) := (size_Check.f k l0 l1).bind fun t697 => (if t697 = 0 then (none) else (some (0, t697)))
theorem size_Sign.calls (k : Nat) (A0 : Option Addr) (c0 : Nat) (l0 : List Int) (A1 : Option Addr) (c1 : Nat) (l1 : List (S30)) (r1 : Int) (r2 : Int) (w : World) (hG : Glob w) (hr0 : Kd.C (Kd.int .i64) w A0 l0.length l0) (hc0 : l0.length ≤ c0) (hr1 : Kd.C k30 w A1 l1.length l1) (hc1 : l1.length ≤ c1) (h : size_Sign.f k l0 l1 = some (r1, r2)) :
  Calls Tryz.prog 27 #[.slice A0 l0.length c0, .slice A1 l1.length c1] w fun e w' => e = .returned (.tuple #[.int .i64 r1, .int .i64 r2]) ∧ Below w.heap.size w w' := by
 have HR0 := am hr0
 have HC0 := am hc0
 clear hr0 hc0
 have HR1 := am hr1
 have HC1 := am hc1
 clear hr1 hc1
 have HG0 := am hG
 clear hG
 have HB := am (Below.refl w.heap.size w)
 have H := h
 unfold size_Sign.f at H
 clear h
 obtain ⟨t697, A3, H⟩ := bo H
 try dsimp only at H
 by_cases c4 : t697 = 0
 case pos => rw [if_pos c4] at H; cases H
 rw [if_neg c4] at H
 have c4b0 := beq_eq_false_iff_ne.mpr c4
 have c4b1 := bne_iff_ne.mpr c4
 simp only [Option.some.injEq, Prod.mk.injEq] at H
 obtain ⟨rfl, rfl⟩ := H
 go_enter Tryz.func27, Tryz.ntmps27
 go_wp2_with (first | ((with_reducible refine gc (f := 51) rfl ?_); refine goesM (some 9) Tryz.func51 #[.slice A0 l0.length c0, .slice A1 l1.length c1] ?_; (with_reducible refine (size_Check.calls k _ _ l0 _ _ l1 t697 _ ?s1 ?s2 ?s3 ?s4 ?s5 A3.out).mono ?_); (case s1 => exact gb HG0 HB); (case s2 => exact cr HR0); (case s3 => exact HC0.out); (case s4 => exact cr HR1); (case s5 => exact HC1.out); rintro e w5 ⟨rfl, hb⟩; refine ⟨_, rfl, ?_⟩; replace HB := bs HB hb; (try clear hb)))
 go_ret2
 exact ⟨rl, bl HB⟩
def size_Abs.f (k : Nat) (l0 : List Int) (l1 : List (S30)) : Option ((List (S30)) × Int) := (size_Sign.f k l0 l1).bind fun bt698 => (if bt698.2 = 0 then (none) else (some (([] : List (S30)), bt698.2)))
theorem size_Abs.calls (k : Nat) (A0 : Option Addr) (c0 : Nat) (l0 : List Int) (P1_ : Nat → Prop) (A1 : Option Addr) (c1 : Nat) (l1 : List (S30)) (r1 : List (S30)) (r2 : Int) (w : World) (hG : Glob w) (hr0 : Kd.C (Kd.int .i64) w A0 l0.length l0) (hc0 : l0.length ≤ c0) (hs1 : Kd.V k30 30 w w.heap.size (fun k_ => P1_ k_) (.slice A1 l1.length c1) l1) (h : size_Abs.f k l0 l1 = some (r1, r2)) :
  Calls Tryz.prog 28 #[.slice A0 l0.length c0, .slice A1 l1.length c1] w fun e w' => ∃ v0_ : Value, e = .returned (.tuple #[v0_, .int .i64 r2]) ∧ Kd.R k30 30 w' w.heap.size (fun k_ => (w.heap.size ≤ k_)) v0_ r1 ∧ Below w.heap.size w w' := by
 have HR0 := am hr0
 have HC0 := am hc0
 clear hr0 hc0
 have HO1 := am (show Kd.V k30 30 w w.heap.size (fun k_ => (P1_ k_ ∨ w.heap.size ≤ k_)) (.slice A1 l1.length c1) l1 from Kd.V_mono hs1 (fun k_ hk => .inl hk))
 have HG0 := am hG
 clear hG
 have HB := am (Below.refl w.heap.size w)
 have H := h
 unfold size_Abs.f at H
 clear h
 obtain ⟨⟨t698, t699⟩, A3, H⟩ := bo H
 try dsimp only at H
 by_cases c4 : t699 = 0
 ·rw [if_pos c4] at H
  have c4b0 := beq_iff_eq.mpr c4
  have c4b1 := bne_eq_false_iff_eq.mpr c4
  clear c4
  obtain ⟨y700, hy700⟩ : ∃ y_ : List (List (S30)), y_ = (([l1] : List (List (S30)))) := ⟨_, rfl⟩
  skip
  have Ny700 := am hy700
  clear hy700
  obtain ⟨ji5, hji5⟩ : ∃ j_ : Int, (mx t698 (wrap64 (-t698))) = j_ := ⟨_, rfl⟩
  first | rw [hji5] at H | simp only [hji5] at H | skip
  (try rw [hji5] at A3)
  have hji5_ : (if t698 < (wrap64 (-t698)) then (wrap64 (-t698)) else t698) = ji5 := hji5
  obtain ⟨ji6, hji6⟩ : ∃ j_ : Int, (mx t698 0) = j_ := ⟨_, rfl⟩
  first | rw [hji6] at H | simp only [hji6] at H | skip
  (try rw [hji6] at A3)
  (try (have hji6l : 0 ≤ ji6 := by (rw [← hji6]; unfold mx; (repeat' split) <;> omega)))
  (try (have hji6m : 0 ≤ ji6 := by omega))
  have hji6_ : (if t698 < 0 then 0 else t698) = ji6 := hji6
  cases H
 ·rw [if_neg c4] at H
  have c4b0 := beq_eq_false_iff_ne.mpr c4
  have c4b1 := bne_iff_ne.mpr c4
  simp only [Option.some.injEq, Prod.mk.injEq] at H
  obtain ⟨rfl, rfl⟩ := H
  go_enter Tryz.func28, Tryz.ntmps28
  go_wp2_with (first | ((with_reducible refine gc (f := 27) rfl ?_); refine goesM (some 11) Tryz.func27 #[.slice A0 l0.length c0, .slice A1 l1.length c1] ?_; (with_reducible refine (size_Sign.calls k _ _ l0 _ _ l1 t698 t699 _ ?s1 ?s2 ?s3 ?s4 ?s5 A3.out).mono ?_); (case s1 => exact gb HG0 HB); (case s2 => exact cr HR0); (case s3 => exact HC0.out); (case s4 => exact cv HO1); (case s5 => exact (Kd.V_reads' HO1.out).2.1); rintro e w7 ⟨rfl, hb⟩; refine ⟨_, rfl, ?_⟩; replace HO1 := am (Kd.V_below (kv HO1) hb); replace HB := bs HB hb; (try clear hb)))
  go_ret2
  exact ⟨_, rl, by first | exact Kd.R_nil _ _ _ _ _ | exact Kd.N_nil _ _ _ _ _ | exact Kd.V_nil _ _ _ _ _ | exact Kd.Q_nil _ _ _ _ _ | exact Kd.S_nil _ _ _ _ _, bl HB⟩
def size_Remainder.f (k : Nat) (l0 : List Int) (l1 : List (S30)) (l2 : List (S30)) : Option ((List (S30)) × Int) := (size_checkQuotient.f k l0 l1 l2).bind fun t703 => (if t703 = 0 then (none) else (some (([] : List (S30)), t703)))
theorem size_Remainder.calls (k : Nat) (A0 : Option Addr) (c0 : Nat) (l0 : List Int) (A1 : Option Addr) (c1 : Nat) (l1 : List (S30)) (A2 : Option Addr) (c2 : Nat) (l2 : List (S30)) (r1 : List (S30)) (r2 : Int) (w : World) (hG : Glob w) (hr0 : Kd.C (Kd.int .i64) w A0 l0.length l0) (hc0 : l0.length ≤ c0) (hr1 : Kd.C k30 w A1 l1.length l1) (hc1 : l1.length ≤ c1) (hr2 : Kd.C k30 w A2 l2.length l2) (hc2 : l2.length ≤ c2) (h : size_Remainder.f k l0 l1 l2 = some (r1, r2)) :
  Calls Tryz.prog 32 #[.slice A0 l0.length c0, .slice A1 l1.length c1, .slice A2 l2.length c2] w fun e w' => ∃ v0_ : Value, e = .returned (.tuple #[v0_, .int .i64 r2]) ∧ Kd.R k30 30 w' w.heap.size (fun _ => True) v0_ r1 ∧ Below w.heap.size w w' := by
 have hu30 := Tryz.underlying30
 have HR0 := am hr0
 have HC0 := am hc0
 clear hr0 hc0
 have HR1 := am hr1
 have HC1 := am hc1
 clear hr1 hc1
 have HR2 := am hr2
 have HC2 := am hc2
 clear hr2 hc2
 have HG0 := am hG
 clear hG
 have HB := am (Below.refl w.heap.size w)
 have H := h
 unfold size_Remainder.f at H
 clear h
 obtain ⟨t703, A4, H⟩ := bo H
 try dsimp only at H
 by_cases c5 : t703 = 0
 case pos => rw [if_pos c5] at H; cases H
 rw [if_neg c5] at H
 have c5b0 := beq_eq_false_iff_ne.mpr c5
 have c5b1 := bne_iff_ne.mpr c5
 simp only [Option.some.injEq, Prod.mk.injEq] at H
 obtain ⟨rfl, rfl⟩ := H
 go_enter Tryz.func32, Tryz.ntmps32
 go_wp2_with (first | ((with_reducible refine gc (f := 74) rfl ?_); refine goesM (some 13) Tryz.func74 #[.slice A0 l0.length c0, .slice A1 l1.length c1, .slice A2 l2.length c2] ?_; (with_reducible refine (size_checkQuotient.calls k _ _ l0 (fun k_ => k_ < w.heap.size) _ _ l1 (fun k_ => k_ < w.heap.size) _ _ l2 t703 _ ?s1 ?s2 ?s3 ?s4 ?s5 A4.out).mono ?_); (case s1 => exact gb HG0 HB); (case s2 => exact cr HR0); (case s3 => exact HC0.out); (case s4 => exact Kd.V_mk HC1.out (Kd.F_below (Kd.C_F k30_heap HR1.out) (bl HB))); (case s5 => exact Kd.V_mk HC2.out (Kd.F_below (Kd.C_F k30_heap HR2.out) (bl HB))); rintro e w6 ⟨rfl, hb⟩; refine ⟨_, rfl, ?_⟩; replace HB := bs HB hb; (try clear hb)))
 go_ret2
 exact ⟨_, rl, by first | exact Kd.R_nil _ _ _ _ _ | exact Kd.N_nil _ _ _ _ _ | exact Kd.V_nil _ _ _ _ _ | exact Kd.Q_nil _ _ _ _ _ | exact Kd.S_nil _ _ _ _ _, bl HB⟩
end Go.Proofs.YtailoobjgbldgaaGreatDoor.P
end
section
namespace Go.Proofs.YtailoobjgbldgaaGreatDoor.P
open Go.RowKit Go.Proofs.YtailoobjgbldgaaGreatDoorW.PrintWords Go.Proofs.YtailoobjgbldgaaGreatDoorW.PrintLast Go.Proofs.YtailoobjgbldgaaGreatDoorW.PrintMore
attribute [local go_sem] max2_int min2_int max_two min_two max_three min_three max_four min_four   
set_option linter.unusedVariables false
set_option linter.unusedSimpArgs false
set_option maxHeartbeats 8000000
set_option maxRecDepth 100000
mutual
def schismalaw13_known.j0 : Nat → List Int → List (S30) → List (S30) → Option (Bool)
 | 0, _, _, _ => none
 | k + 1, x1, x2, x3 => (schismalaw13_part.f k 1 1).bind fun bt626 => ((schismalaw13_part.f k 0 1).bind fun bt628 => ((schismalaw13_part.f k 0 1).bind fun bt630 => ((schismalaw13_part.f k 0 1).bind fun bt635 => ((schismalaw13_part.f k 0 1).bind fun bt637 => ((schismalaw13_part.f k 1 4).bind fun bt639 => ((size_Compare.f k x1 (([(⟨bt635.1, bt635.2⟩ : S30), (⟨bt637.1, bt637.2⟩ : S30), (⟨bt639.1, bt639.2⟩ : S30)] : List (S30))) x3).bind fun bt644 => (schismalaw13_known.j1 k x1 x2 x3 (([(⟨bt626.1, bt626.2⟩ : S30), (⟨bt628.1, bt628.2⟩ : S30), (⟨bt630.1, bt630.2⟩ : S30)] : List (S30))) bt644.1 bt644.2)))))))
def schismalaw13_known.j1 : Nat → List Int → List (S30) → List (S30) → List (S30) → Int → Int → Option (Bool)
 | 0, _, _, _, _, _, _ => none
 | k + 1, x1, x2, x3, x4, x5, x6 => (size_Floor.f k x1 x4 x2).bind fun bt646 => ((schismalaw13_part.f k 12 1).bind fun bt648 => ((size_Scale.f k x1 x3 bt648.1 bt648.2).bind fun bt650 => ((size_Round.f k x1 bt650.1 x4).bind fun bt654 => (schismalaw13_known.j2 k x1 x5 x6 bt646.1 bt646.2 bt650.2 bt654.1 bt654.2))))
def schismalaw13_known.j2 : Nat → List Int → Int → Int → ByteArray → Int → Int → ByteArray → Int → Option (Bool)
 | 0, _, _, _, _, _, _, _, _ => none
 | k + 1, x1, x5, x6, x7, x8, x10, x11, x12 => (schismalaw13_part.f k 1 2).bind fun bt656 => ((schismalaw13_part.f k (-1) 4).bind fun bt658 => ((schismalaw13_part.f k 1 1).bind fun bt660 => ((size_Text.f k x1 (([(⟨bt656.1, bt656.2⟩ : S30), (⟨bt658.1, bt658.2⟩ : S30), (⟨bt660.1, bt660.2⟩ : S30)] : List (S30)))).bind fun bt665 => (if x6 = 0 then (if x5 = (-1) then (if x8 = 0 then (if x7.toList = ([53, 53] : List UInt8) then (if x10 = 0 then (if x12 = 0 then (if x11.toList = ([55] : List UInt8) then (if bt665.2 = 0 then (some (bt665.1.toList == ([50, 94, 40, 49, 47, 50, 41, 32, 51, 94, 40, 45, 49, 47, 52, 41, 32, 53] : List UInt8))) else (some false)) else (some false)) else (some false)) else (some false)) else (some false)) else (some false)) else (some false)) else (some false)))))
end
def schismalaw13_known.f (k : Nat)  : Option (Bool) := (schismalaw13_part.f k (-4) 1).bind fun bt608 => ((schismalaw13_part.f k 4 1).bind fun bt610 => ((schismalaw13_part.f k (-1) 1).bind fun bt612 => ((schismalaw13_part.f k (-1) 1).bind fun bt617 => ((schismalaw13_part.f k 1 1).bind fun bt619 => ((schismalaw13_part.f k 0 1).bind fun bt621 => (schismalaw13_known.j0 k (([2, 3, 5] : List Int)) (([(⟨bt608.1, bt608.2⟩ : S30), (⟨bt610.1, bt610.2⟩ : S30), (⟨bt612.1, bt612.2⟩ : S30)] : List (S30))) (([(⟨bt617.1, bt617.2⟩ : S30), (⟨bt619.1, bt619.2⟩ : S30), (⟨bt621.1, bt621.2⟩ : S30)] : List (S30)))))))))
theorem schismalaw13_known.calls (k : Nat)  (r : Bool) (w : World) (hG : Glob w) (h : schismalaw13_known.f k  = some r) :
  Calls Tryz.prog 12 #[] w fun e w' => e = .returned (.bool r) ∧ Below w.heap.size w w' := by
 have HG0 := am hG
 clear hG
 have HB := am (Below.refl w.heap.size w)
 have H := h
 unfold schismalaw13_known.f at H
 clear h
 obtain ⟨y605, hy605⟩ : ∃ y_ : List Int, y_ = (([2, 3, 5] : List Int)) := ⟨_, rfl⟩
 first | rw [Option.bind_some, ← hy605] at H | rw [← hy605] at H
 have Ny605 := am hy605
 clear hy605
 obtain ⟨⟨t608, t609⟩, A1, H⟩ := bo H
 try dsimp only at H
 obtain ⟨⟨t610, t611⟩, A2, H⟩ := bo H
 try dsimp only at H
 obtain ⟨⟨t612, t613⟩, A3, H⟩ := bo H
 try dsimp only at H
 obtain ⟨y614, hy614⟩ : ∃ y_ : List (S30), y_ = (([(⟨t608, t609⟩ : S30), (⟨t610, t611⟩ : S30), (⟨t612, t613⟩ : S30)] : List (S30))) := ⟨_, rfl⟩
 first | rw [Option.bind_some, ← hy614] at H | rw [← hy614] at H
 have Ny614 := am hy614
 clear hy614
 have HC4 := am H
 clear H
 go_enter Tryz.func12, Tryz.ntmps12
 go_upto_region 3 with (first | ((with_reducible refine gd (N := 15) rfl ?_); refine Kd.R_lit (Kd.int .i64) _ 3 ?hg (N := 15) ?hd (xs := ([2, 3, 5] : List Int)) (inner := [.int .i64 2, .int .i64 3, .int .i64 5]) (ok := fun _ => True) (okp := fun _ => True) ?hr ?hp (fun _ hk => hk) trivial (Below.refl _ _) (Nat.le_refl _) (by simp) ?_; (case hd => rfl); (case hg => rfl); (case hr => first | (go_simp; done) | (go_simp; rfl)); (case hp => exact (Reps.one (show Kd.M (Kd.int .i64) _ _ _ 2 [.int .i64 2] from rfl) (Reps.one (show Kd.M (Kd.int .i64) _ _ _ 3 [.int .i64 3] from rfl) (Reps.one (show Kd.M (Kd.int .i64) _ _ _ 5 [.int .i64 5] from rfl) (Reps.none _ _))))); intro v606 w5 ho6 hb hg_ hnew_; clear hg_ hnew_; (first | rw [← Ny605.out] at ho6 | (simp only [Int.reduceToNat] at ho6; rw [← Ny605.out] at ho6)); have HO607 := am (Kd.R_lower ho6 (below_size (bl HB))); replace HB := bs HB hb; clear hb ho6) | ((with_reducible refine gc (f := 18) rfl ?_); refine goesM (some 16) Tryz.func18 #[.int .i64 (-4), .int .i64 1] ?_; (with_reducible refine (schismalaw13_part.calls k (-4) 1 t608 t609 _ ?s1 A1.out).mono ?_); (case s1 => exact gb HG0 HB); rintro e w7 ⟨rfl, hb⟩; refine ⟨_, rfl, ?_⟩; replace HO607 := rb HO607 hb; replace HB := bs HB hb; (try clear hb)) | ((with_reducible refine gc (f := 18) rfl ?_); refine goesM (some 17) Tryz.func18 #[.int .i64 4, .int .i64 1] ?_; (with_reducible refine (schismalaw13_part.calls k 4 1 t610 t611 _ ?s1 A2.out).mono ?_); (case s1 => exact gb HG0 HB); rintro e w8 ⟨rfl, hb⟩; refine ⟨_, rfl, ?_⟩; replace HO607 := rb HO607 hb; replace HB := bs HB hb; (try clear hb)) | ((with_reducible refine gc (f := 18) rfl ?_); refine goesM (some 18) Tryz.func18 #[.int .i64 (-1), .int .i64 1] ?_; (with_reducible refine (schismalaw13_part.calls k (-1) 1 t612 t613 _ ?s1 A3.out).mono ?_); (case s1 => exact gb HG0 HB); rintro e w9 ⟨rfl, hb⟩; refine ⟨_, rfl, ?_⟩; replace HO607 := rb HO607 hb; replace HB := bs HB hb; (try clear hb)) | ((with_reducible refine gd (N := 19) rfl ?_); refine Kd.R_lit k30 _ 30 ?hg (N := 19) ?hd (xs := ([(⟨t608, t609⟩ : S30), (⟨t610, t611⟩ : S30), (⟨t612, t613⟩ : S30)] : List (S30))) (inner := [.string t608, .string t609, .string t610, .string t611, .string t612, .string t613]) (ok := fun _ => True) (okp := fun _ => True) ?hr ?hp (fun _ hk => hk) trivial (Below.refl _ _) (Nat.le_refl _) (by simp) ?_; (case hd => rfl); (case hg => rfl); (case hr => first | (go_simp; done) | (go_simp; rfl)); (case hp => exact (Reps.c2 (show Kd.M k30 _ _ _ (⟨t608, t609⟩ : S30) [.string t608, .string t609] from (k30_mkM _ _ _ (⟨t608, t609⟩ : S30) )) (Reps.c2 (show Kd.M k30 _ _ _ (⟨t610, t611⟩ : S30) [.string t610, .string t611] from (k30_mkM _ _ _ (⟨t610, t611⟩ : S30) )) (Reps.c2 (show Kd.M k30 _ _ _ (⟨t612, t613⟩ : S30) [.string t612, .string t613] from (k30_mkM _ _ _ (⟨t612, t613⟩ : S30) )) (Reps.none _ _))))); intro v615 w10 ho11 hb hg_ hnew_; clear hg_ hnew_; (first | rw [← Ny614.out] at ho11 | (simp only [Int.reduceToNat] at ho11; rw [← Ny614.out] at ho11)); replace HO607 := rb HO607 hb; have HO616 := am (Kd.R_lower ho11 (below_size (bl HB))); replace HB := bs HB hb; clear hb ho11))
 (try simp only [Act.put, List.setIfInBounds_toArray, List.set_cons_zero, List.set_cons_succ])
 go_cut [3] (fun v3 wc => ∃ (kq : Nat) (x3_3 : List (S30)), Aside0 (schismalaw13_known.j0 kq y605 y614 x3_3 = some r) ∧ Aside0 (kq ≤ k) ∧ Aside0 (Kd.R (Kd.int .i64) 3 wc w.heap.size (fun _ => True) v606 y605) ∧ Aside0 (Kd.R k30 30 wc w.heap.size (fun k_ => some k_ ≠ (v3 : Value).ownBlock) v615 y614) ∧ Aside0 (Kd.R k30 30 wc w.heap.size (fun k_ => some k_ ≠ (v615 : Value).ownBlock) v3 x3_3) ∧ Aside0 (Below w.heap.size w wc))
 case first =>
  have H := HC4.out
  clear HC4
  obtain ⟨⟨t617, t618⟩, A12, H⟩ := bo H
  try dsimp only at H
  obtain ⟨⟨t619, t620⟩, A13, H⟩ := bo H
  try dsimp only at H
  obtain ⟨⟨t621, t622⟩, A14, H⟩ := bo H
  try dsimp only at H
  obtain ⟨y623, hy623⟩ : ∃ y_ : List (S30), y_ = (([(⟨t617, t618⟩ : S30), (⟨t619, t620⟩ : S30), (⟨t621, t622⟩ : S30)] : List (S30))) := ⟨_, rfl⟩
  first | rw [Option.bind_some, ← hy623] at H | rw [← hy623] at H
  have Ny623 := am hy623
  clear hy623
  have H' := am H
  clear H
  go_wp2_with (first | ((with_reducible refine gc (f := 18) rfl ?_); refine goesM (some 20) Tryz.func18 #[.int .i64 (-1), .int .i64 1] ?_; (with_reducible refine (schismalaw13_part.calls k (-1) 1 t617 t618 _ ?s1 A12.out).mono ?_); (case s1 => exact gb HG0 HB); rintro e w15 ⟨rfl, hb⟩; refine ⟨_, rfl, ?_⟩; replace HO607 := rb HO607 hb; replace HO616 := rb HO616 hb; replace HB := bs HB hb; (try clear hb)) | ((with_reducible refine gc (f := 18) rfl ?_); refine goesM (some 21) Tryz.func18 #[.int .i64 1, .int .i64 1] ?_; (with_reducible refine (schismalaw13_part.calls k 1 1 t619 t620 _ ?s1 A13.out).mono ?_); (case s1 => exact gb HG0 HB); rintro e w16 ⟨rfl, hb⟩; refine ⟨_, rfl, ?_⟩; replace HO607 := rb HO607 hb; replace HO616 := rb HO616 hb; replace HB := bs HB hb; (try clear hb)) | ((with_reducible refine gc (f := 18) rfl ?_); refine goesM (some 22) Tryz.func18 #[.int .i64 0, .int .i64 1] ?_; (with_reducible refine (schismalaw13_part.calls k 0 1 t621 t622 _ ?s1 A14.out).mono ?_); (case s1 => exact gb HG0 HB); rintro e w17 ⟨rfl, hb⟩; refine ⟨_, rfl, ?_⟩; replace HO607 := rb HO607 hb; replace HO616 := rb HO616 hb; replace HB := bs HB hb; (try clear hb)) | ((with_reducible refine gd (N := 23) rfl ?_); refine Kd.R_lit k30 _ 30 ?hg (N := 23) ?hd (xs := ([(⟨t617, t618⟩ : S30), (⟨t619, t620⟩ : S30), (⟨t621, t622⟩ : S30)] : List (S30))) (inner := [.string t617, .string t618, .string t619, .string t620, .string t621, .string t622]) (ok := fun _ => True) (okp := fun _ => True) ?hr ?hp (fun _ hk => hk) trivial (Below.refl _ _) (Nat.le_refl _) (by simp) ?_; (case hd => rfl); (case hg => rfl); (case hr => first | (go_simp; done) | (go_simp; rfl)); (case hp => exact (Reps.c2 (show Kd.M k30 _ _ _ (⟨t617, t618⟩ : S30) [.string t617, .string t618] from (k30_mkM _ _ _ (⟨t617, t618⟩ : S30) )) (Reps.c2 (show Kd.M k30 _ _ _ (⟨t619, t620⟩ : S30) [.string t619, .string t620] from (k30_mkM _ _ _ (⟨t619, t620⟩ : S30) )) (Reps.c2 (show Kd.M k30 _ _ _ (⟨t621, t622⟩ : S30) [.string t621, .string t622] from (k30_mkM _ _ _ (⟨t621, t622⟩ : S30) )) (Reps.none _ _))))); intro v624 w18 ho19 hb hg_ hnew_; clear hg_ hnew_; (first | rw [← Ny623.out] at ho19 | (simp only [Int.reduceToNat] at ho19; rw [← Ny623.out] at ho19)); replace HO607 := rb HO607 hb; have HO625 := am (Kd.R_lower (Kd.R_new' ho19 (Kd.R_lt (kr HO616))) (below_size (bl HB))); replace HO616 := am (Kd.R_elder' (kr HO616) (Kd.R_base ho19) hb); replace HB := bs HB hb; clear hb ho19))
  go_meet
  case rel => exact ⟨_, (y623), H', ⟨by first | omega | exact Nat.le_refl _⟩, ⟨kr HO607⟩, ⟨by (with_reducible repeat (first | apply Kd.R_alloc | apply Kd.R_drewN | apply Kd.R_drew)); exact Kd.R_mono HO616.out (fun _ hk => hk.2)⟩, ⟨by (with_reducible repeat (first | apply Kd.R_alloc | apply Kd.R_drewN | apply Kd.R_drew)); exact Kd.R_mono HO625.out (fun _ hk => hk.2)⟩, ⟨bl HB⟩⟩
 case rest =>
  clear HC4
  try clear c1
  try clear c2
  try clear p2
  try clear c12
  try clear c18
  obtain ⟨kq, x3_3, HA, HJ3, HO_1, HO_2, HO_3, HB⟩ := hcut
  cases kq with
  | zero => exact absurd HA.out (by simp [schismalaw13_known.j0])
  | succ kj3 =>
   have H := HA.out
   clear HA
   simp only [schismalaw13_known.j0] at H
   obtain ⟨⟨t626, t627⟩, A20, H⟩ := bo H
   try dsimp only at H
   obtain ⟨⟨t628, t629⟩, A21, H⟩ := bo H
   try dsimp only at H
   obtain ⟨⟨t630, t631⟩, A22, H⟩ := bo H
   try dsimp only at H
   obtain ⟨y632, hy632⟩ : ∃ y_ : List (S30), y_ = (([(⟨t626, t627⟩ : S30), (⟨t628, t629⟩ : S30), (⟨t630, t631⟩ : S30)] : List (S30))) := ⟨_, rfl⟩
   first | rw [Option.bind_some, ← hy632] at H | rw [← hy632] at H
   have Ny632 := am hy632
   clear hy632
   have HC23 := am H
   clear H
   go_upto_region 5 with (first | ((with_reducible refine gc (f := 18) rfl ?_); refine goesM (some 24) Tryz.func18 #[.int .i64 1, .int .i64 1] ?_; (with_reducible refine (schismalaw13_part.calls kj3 1 1 t626 t627 _ ?s1 A20.out).mono ?_); (case s1 => exact gb HG0 HB); rintro e w24 ⟨rfl, hb⟩; refine ⟨_, rfl, ?_⟩; replace HO_1 := rb HO_1 hb; replace HO_2 := rb HO_2 hb; replace HO_3 := rb HO_3 hb; replace HB := bs HB hb; (try clear hb)) | ((with_reducible refine gc (f := 18) rfl ?_); refine goesM (some 25) Tryz.func18 #[.int .i64 0, .int .i64 1] ?_; (with_reducible refine (schismalaw13_part.calls kj3 0 1 t628 t629 _ ?s1 A21.out).mono ?_); (case s1 => exact gb HG0 HB); rintro e w25 ⟨rfl, hb⟩; refine ⟨_, rfl, ?_⟩; replace HO_1 := rb HO_1 hb; replace HO_2 := rb HO_2 hb; replace HO_3 := rb HO_3 hb; replace HB := bs HB hb; (try clear hb)) | ((with_reducible refine gc (f := 18) rfl ?_); refine goesM (some 26) Tryz.func18 #[.int .i64 0, .int .i64 1] ?_; (with_reducible refine (schismalaw13_part.calls kj3 0 1 t630 t631 _ ?s1 A22.out).mono ?_); (case s1 => exact gb HG0 HB); rintro e w26 ⟨rfl, hb⟩; refine ⟨_, rfl, ?_⟩; replace HO_1 := rb HO_1 hb; replace HO_2 := rb HO_2 hb; replace HO_3 := rb HO_3 hb; replace HB := bs HB hb; (try clear hb)) | ((with_reducible refine gd (N := 27) rfl ?_); refine Kd.R_lit k30 _ 30 ?hg (N := 27) ?hd (xs := ([(⟨t626, t627⟩ : S30), (⟨t628, t629⟩ : S30), (⟨t630, t631⟩ : S30)] : List (S30))) (inner := [.string t626, .string t627, .string t628, .string t629, .string t630, .string t631]) (ok := fun _ => True) (okp := fun _ => True) ?hr ?hp (fun _ hk => hk) trivial (Below.refl _ _) (Nat.le_refl _) (by simp) ?_; (case hd => rfl); (case hg => rfl); (case hr => first | (go_simp; done) | (go_simp; rfl)); (case hp => exact (Reps.c2 (show Kd.M k30 _ _ _ (⟨t626, t627⟩ : S30) [.string t626, .string t627] from (k30_mkM _ _ _ (⟨t626, t627⟩ : S30) )) (Reps.c2 (show Kd.M k30 _ _ _ (⟨t628, t629⟩ : S30) [.string t628, .string t629] from (k30_mkM _ _ _ (⟨t628, t629⟩ : S30) )) (Reps.c2 (show Kd.M k30 _ _ _ (⟨t630, t631⟩ : S30) [.string t630, .string t631] from (k30_mkM _ _ _ (⟨t630, t631⟩ : S30) )) (Reps.none _ _))))); intro v633 w27 ho28 hb hg_ hnew_; clear hg_ hnew_; (first | rw [← Ny632.out] at ho28 | (simp only [Int.reduceToNat] at ho28; rw [← Ny632.out] at ho28)); replace HO_1 := rb HO_1 hb; have HO634 := am (Kd.R_lower (Kd.R_new' (Kd.R_new' ho28 (Kd.R_lt (kr HO_2))) (Kd.R_lt (kr HO_3))) (below_size (bl HB))); replace HO_2 := am (Kd.R_elder' (kr HO_2) (Kd.R_base ho28) hb); replace HO_3 := am (Kd.R_elder' (kr HO_3) (Kd.R_base ho28) hb); replace HB := bs HB hb; clear hb ho28))
   (try simp only [Act.put, List.setIfInBounds_toArray, List.set_cons_zero, List.set_cons_succ])
   go_cut [5, 6] (fun v5 v6 wc => ∃ (kq : Nat) (x5_22 : Int) (x6_22 : Int), v5 = .int .i64 x5_22 ∧ v6 = .int .i64 x6_22 ∧ Aside0 (schismalaw13_known.j1 kq y605 y614 x3_3 y632 x5_22 x6_22 = some r) ∧ Aside0 (kq ≤ kj3) ∧ Aside0 (Kd.R (Kd.int .i64) 3 wc w.heap.size (fun _ => True) v606 y605) ∧ Aside0 (Kd.R k30 30 wc w.heap.size (fun k_ => some k_ ≠ (u3 : Value).ownBlock ∧ some k_ ≠ (v633 : Value).ownBlock) v615 y614) ∧ Aside0 (Kd.R k30 30 wc w.heap.size (fun k_ => some k_ ≠ (v615 : Value).ownBlock ∧ some k_ ≠ (v633 : Value).ownBlock) u3 x3_3) ∧ Aside0 (Kd.R k30 30 wc w.heap.size (fun k_ => some k_ ≠ (v615 : Value).ownBlock ∧ some k_ ≠ (u3 : Value).ownBlock) v633 y632) ∧ Aside0 (Below w.heap.size w wc))
   case first =>
    have H := HC23.out
    clear HC23
    obtain ⟨⟨t635, t636⟩, A29, H⟩ := bo H
    try dsimp only at H
    obtain ⟨⟨t637, t638⟩, A30, H⟩ := bo H
    try dsimp only at H
    obtain ⟨⟨t639, t640⟩, A31, H⟩ := bo H
    try dsimp only at H
    obtain ⟨y641, hy641⟩ : ∃ y_ : List (S30), y_ = (([(⟨t635, t636⟩ : S30), (⟨t637, t638⟩ : S30), (⟨t639, t640⟩ : S30)] : List (S30))) := ⟨_, rfl⟩
    first | rw [Option.bind_some, ← hy641] at H | rw [← hy641] at H
    have Ny641 := am hy641
    clear hy641
    obtain ⟨⟨t644, t645⟩, A32, H⟩ := bo H
    try dsimp only at H
    have H' := am H
    clear H
    go_wp2_with (first | ((with_reducible refine gc (f := 18) rfl ?_); refine goesM (some 30) Tryz.func18 #[.int .i64 0, .int .i64 1] ?_; (with_reducible refine (schismalaw13_part.calls kj3 0 1 t635 t636 _ ?s1 A29.out).mono ?_); (case s1 => exact gb HG0 HB); rintro e w33 ⟨rfl, hb⟩; refine ⟨_, rfl, ?_⟩; replace HO_1 := rb HO_1 hb; replace HO_2 := rb HO_2 hb; replace HO_3 := rb HO_3 hb; replace HO634 := rb HO634 hb; replace HB := bs HB hb; (try clear hb)) | ((with_reducible refine gc (f := 18) rfl ?_); refine goesM (some 31) Tryz.func18 #[.int .i64 0, .int .i64 1] ?_; (with_reducible refine (schismalaw13_part.calls kj3 0 1 t637 t638 _ ?s1 A30.out).mono ?_); (case s1 => exact gb HG0 HB); rintro e w34 ⟨rfl, hb⟩; refine ⟨_, rfl, ?_⟩; replace HO_1 := rb HO_1 hb; replace HO_2 := rb HO_2 hb; replace HO_3 := rb HO_3 hb; replace HO634 := rb HO634 hb; replace HB := bs HB hb; (try clear hb)) | ((with_reducible refine gc (f := 18) rfl ?_); refine goesM (some 32) Tryz.func18 #[.int .i64 1, .int .i64 4] ?_; (with_reducible refine (schismalaw13_part.calls kj3 1 4 t639 t640 _ ?s1 A31.out).mono ?_); (case s1 => exact gb HG0 HB); rintro e w35 ⟨rfl, hb⟩; refine ⟨_, rfl, ?_⟩; replace HO_1 := rb HO_1 hb; replace HO_2 := rb HO_2 hb; replace HO_3 := rb HO_3 hb; replace HO634 := rb HO634 hb; replace HB := bs HB hb; (try clear hb)) | ((with_reducible refine gd (N := 33) rfl ?_); refine Kd.R_lit k30 _ 30 ?hg (N := 33) ?hd (xs := ([(⟨t635, t636⟩ : S30), (⟨t637, t638⟩ : S30), (⟨t639, t640⟩ : S30)] : List (S30))) (inner := [.string t635, .string t636, .string t637, .string t638, .string t639, .string t640]) (ok := fun _ => True) (okp := fun _ => True) ?hr ?hp (fun _ hk => hk) trivial (Below.refl _ _) (Nat.le_refl _) (by simp) ?_; (case hd => rfl); (case hg => rfl); (case hr => first | (go_simp; done) | (go_simp; rfl)); (case hp => exact (Reps.c2 (show Kd.M k30 _ _ _ (⟨t635, t636⟩ : S30) [.string t635, .string t636] from (k30_mkM _ _ _ (⟨t635, t636⟩ : S30) )) (Reps.c2 (show Kd.M k30 _ _ _ (⟨t637, t638⟩ : S30) [.string t637, .string t638] from (k30_mkM _ _ _ (⟨t637, t638⟩ : S30) )) (Reps.c2 (show Kd.M k30 _ _ _ (⟨t639, t640⟩ : S30) [.string t639, .string t640] from (k30_mkM _ _ _ (⟨t639, t640⟩ : S30) )) (Reps.none _ _))))); intro v642 w36 ho37 hb hg_ hnew_; clear hg_ hnew_; (first | rw [← Ny641.out] at ho37 | (simp only [Int.reduceToNat] at ho37; rw [← Ny641.out] at ho37)); replace HO_1 := rb HO_1 hb; have HO643 := am (Kd.R_lower (Kd.R_new' (Kd.R_new' (Kd.R_new' ho37 (Kd.R_lt (kr HO_2))) (Kd.R_lt (kr HO_3))) (Kd.R_lt (kr HO634))) (below_size (bl HB))); replace HO_2 := am (Kd.R_elder' (kr HO_2) (Kd.R_base ho37) hb); replace HO_3 := am (Kd.R_elder' (kr HO_3) (Kd.R_base ho37) hb); replace HO634 := am (Kd.R_elder' (kr HO634) (Kd.R_base ho37) hb); replace HB := bs HB hb; clear hb ho37; obtain ⟨Ao38, co38, eo38⟩ := Kd.R_slice HO_1.out; subst eo38; obtain ⟨Ao39, co39, eo39⟩ := Kd.R_slice HO643.out; subst eo39; obtain ⟨Ao40, co40, eo40⟩ := Kd.R_slice HO_3.out; subst eo40) | ((with_reducible refine gc (f := 21) rfl ?_); refine goesM (some 35) Tryz.func21 #[.slice Ao38 y605.length co38, .slice Ao39 y641.length co39, .slice Ao40 x3_3.length co40] ?_; (with_reducible refine (size_Compare.calls kj3 _ _ y605 (fun k_ => some k_ = (.slice Ao39 y641.length co39 : Value).ownBlock) _ _ y641 (fun k_ => some k_ = (.slice Ao40 x3_3.length co40 : Value).ownBlock) _ _ x3_3 t644 t645 _ ?s1 ?s2 ?s3 ?s4 ?s5 A32.out).mono ?_); (case s1 => exact gb HG0 HB); (case s2 => exact cR HO_1); (case s3 => exact (Kd.R_reads' HO_1.out).2.1); (case s4 => exact Kd.R_V (Kd.R_tight rfl (Kd.R_apart' (HO643.out) (Kd.R_typed HO_1.out) (by decide)))); (case s5 => exact Kd.R_V (Kd.R_tight rfl (Kd.R_apart' (HO_3.out) (Kd.R_typed HO_1.out) (by decide)))); rintro e w41 ⟨rfl, hb⟩; refine ⟨_, rfl, ?_⟩; replace HO_1 := rb HO_1 hb; replace HO_2 := rb HO_2 hb; replace HO_3 := rb HO_3 hb; replace HO634 := rb HO634 hb; replace HO643 := rb HO643 hb; replace HB := bs HB hb; (try clear hb)))
    go_meet
    case rel => exact ⟨_, (t644), (t645), rs, rs, H', ⟨by have := HJ3.out; first | omega | exact Nat.le_refl _⟩, ⟨kr HO_1⟩, ⟨by (with_reducible repeat (first | apply Kd.R_alloc | apply Kd.R_drewN | apply Kd.R_drew)); exact Kd.R_mono HO_2.out (fun _ hk => ⟨hk.1.1, hk.1.2⟩)⟩, ⟨by (with_reducible repeat (first | apply Kd.R_alloc | apply Kd.R_drewN | apply Kd.R_drew)); exact Kd.R_mono HO_3.out (fun _ hk => ⟨hk.1.1, hk.1.2⟩)⟩, ⟨by (with_reducible repeat (first | apply Kd.R_alloc | apply Kd.R_drewN | apply Kd.R_drew)); exact Kd.R_mono HO634.out (fun _ hk => ⟨hk.1.1.2, hk.1.2⟩)⟩, ⟨bl HB⟩⟩
   case rest =>
    clear HC23
    try clear c1
    try clear c2
    try clear p2
    try clear c12
    try clear c18
    try clear c21
    try clear p2
    obtain ⟨kq, x5_22, x6_22, rfl, rfl, HA, HJ22, HO_1, HO_2, HO_3, HO_4, HB⟩ := hcut
    cases kq with
    | zero => exact absurd HA.out (by simp [schismalaw13_known.j1])
    | succ kj22 =>
     have H := HA.out
     clear HA
     simp only [schismalaw13_known.j1] at H
     obtain ⟨⟨t646, t647⟩, A42, H⟩ := bo H
     try dsimp only at H
     obtain ⟨⟨t648, t649⟩, A43, H⟩ := bo H
     try dsimp only at H
     obtain ⟨⟨t650, t653⟩, A44, H⟩ := bo H
     try dsimp only at H
     have HC45 := am H
     clear H
     obtain ⟨Ao46, co46, eo46⟩ := Kd.R_slice HO_1.out
     subst eo46
     obtain ⟨Ao47, co47, eo47⟩ := Kd.R_slice HO_4.out
     subst eo47
     obtain ⟨Ao48, co48, eo48⟩ := Kd.R_slice HO_2.out
     subst eo48
     go_upto_region 8 with (first | ((with_reducible refine gc (f := 30) rfl ?_); refine goesM (some 42) Tryz.func30 #[.slice Ao46 y605.length co46, .slice Ao47 y632.length co47, .slice Ao48 y614.length co48] ?_; (with_reducible refine (size_Floor.calls kj22 _ _ y605 _ _ y632 _ _ y614 t646 t647 _ ?s1 ?s2 ?s3 ?s4 ?s5 ?s6 ?s7 A42.out).mono ?_); (case s1 => exact gb HG0 HB); (case s2 => exact cR HO_1); (case s3 => exact (Kd.R_reads' HO_1.out).2.1); (case s4 => exact cR HO_4); (case s5 => exact (Kd.R_reads' HO_4.out).2.1); (case s6 => exact cR HO_2); (case s7 => exact (Kd.R_reads' HO_2.out).2.1); rintro e w49 ⟨rfl, hb⟩; refine ⟨_, rfl, ?_⟩; replace HO_1 := rb HO_1 hb; replace HO_2 := rb HO_2 hb; replace HO_3 := rb HO_3 hb; replace HO_4 := rb HO_4 hb; replace HB := bs HB hb; (try clear hb)) | ((with_reducible refine gc (f := 18) rfl ?_); refine goesM (some 48) Tryz.func18 #[.int .i64 12, .int .i64 1] ?_; (with_reducible refine (schismalaw13_part.calls kj22 12 1 t648 t649 _ ?s1 A43.out).mono ?_); (case s1 => exact gb HG0 HB); rintro e w50 ⟨rfl, hb⟩; refine ⟨_, rfl, ?_⟩; replace HO_1 := rb HO_1 hb; replace HO_2 := rb HO_2 hb; replace HO_3 := rb HO_3 hb; replace HO_4 := rb HO_4 hb; replace HB := bs HB hb; (try clear hb); obtain ⟨Ao51, co51, eo51⟩ := Kd.R_slice HO_3.out; subst eo51) | ((with_reducible refine gc (f := 23) rfl ?_); refine goesM (some 49) Tryz.func23 #[.slice Ao46 y605.length co46, .slice Ao51 x3_3.length co51, .agg #[.string t648, .string t649]] ?_; (with_reducible refine (size_Scale.calls kj22 _ _ y605 (fun k_ => some k_ = (.slice Ao51 x3_3.length co51 : Value).ownBlock) _ _ x3_3 t648 t649 t650 t653 _ ?s1 ?s2 ?s3 ?s4 A44.out).mono ?_); (case s1 => exact gb HG0 HB); (case s2 => exact cR HO_1); (case s3 => exact (Kd.R_reads' HO_1.out).2.1); (case s4 => exact Kd.R_V (Kd.R_tight rfl (Kd.R_apart' (HO_3.out) (Kd.R_typed HO_1.out) (by decide)))); rintro e w52 ⟨v651, rfl, ho0, hb⟩; refine ⟨_, rfl, ?_⟩; replace HO_1 := rb HO_1 hb; have HO652 := am (Kd.R_lower (Kd.R_new' (Kd.R_new' (Kd.R_new' (Kd.R_mono (ok' := fun k_ => True) ho0 (fun _ hk_ => trivial)) (Kd.R_lt (kr HO_2))) (Kd.R_lt (kr HO_3))) (Kd.R_lt (kr HO_4))) (below_size (bl HB))); replace HO_2 := am (Kd.R_elder' (kr HO_2) (Kd.R_base ho0) hb); replace HO_3 := am (Kd.R_elder' (kr HO_3) (Kd.R_base ho0) hb); replace HO_4 := am (Kd.R_elder' (kr HO_4) (Kd.R_base ho0) hb); replace HB := bs HB hb; (try clear hb); (try clear ho0)))
     (try simp only [Act.put, List.setIfInBounds_toArray, List.set_cons_zero, List.set_cons_succ])
     go_cut [11, 12] (fun v11 v12 wc => ∃ (kq : Nat) (x11_44 : ByteArray) (x12_44 : Int), v11 = .string x11_44 ∧ v12 = .int .i64 x12_44 ∧ Aside0 (schismalaw13_known.j2 kq y605 x5_22 x6_22 t646 t647 t653 x11_44 x12_44 = some r) ∧ Aside0 (kq ≤ kj22) ∧ Aside0 (Kd.R (Kd.int .i64) 3 wc w.heap.size (fun _ => True) (.slice Ao46 y605.length co46) y605) ∧ Aside0 (Below w.heap.size w wc))
     case first =>
      have H := HC45.out
      clear HC45
      obtain ⟨⟨t654, t655⟩, A53, H⟩ := bo H
      try dsimp only at H
      have H' := am H
      clear H
      obtain ⟨Ao54, co54, eo54⟩ := Kd.R_slice HO652.out
      subst eo54
      go_wp2_with (first | ((with_reducible refine gc (f := 31) rfl ?_); refine goesM (some 56) Tryz.func31 #[.slice Ao46 y605.length co46, .slice Ao54 t650.length co54, .slice Ao47 y632.length co47] ?_; (with_reducible refine (size_Round.calls kj22 _ _ y605 (fun k_ => some k_ = (.slice Ao54 t650.length co54 : Value).ownBlock) _ _ t650 (fun k_ => some k_ = (.slice Ao47 y632.length co47 : Value).ownBlock) _ _ y632 t654 t655 _ ?s1 ?s2 ?s3 ?s4 ?s5 A53.out).mono ?_); (case s1 => exact gb HG0 HB); (case s2 => exact cR HO_1); (case s3 => exact (Kd.R_reads' HO_1.out).2.1); (case s4 => exact Kd.R_V (Kd.R_tight rfl (Kd.R_apart' (HO652.out) (Kd.R_typed HO_1.out) (by decide)))); (case s5 => exact Kd.R_V (Kd.R_tight rfl (Kd.R_apart' (HO_4.out) (Kd.R_typed HO_1.out) (by decide)))); rintro e w55 ⟨rfl, hb⟩; refine ⟨_, rfl, ?_⟩; replace HO_1 := rb HO_1 hb; replace HO_2 := rb HO_2 hb; replace HO_3 := rb HO_3 hb; replace HO_4 := rb HO_4 hb; replace HO652 := rb HO652 hb; replace HB := bs HB hb; (try clear hb)))
      go_meet
      case rel => exact ⟨_, (t654), (t655), rs, rs, H', ⟨by have := HJ3.out; have := HJ22.out; first | omega | exact Nat.le_refl _⟩, ⟨kr HO_1⟩, ⟨bl HB⟩⟩
     case rest =>
      clear HC45
      try clear c1
      try clear c2
      try clear p2
      try clear c3
      try clear c12
      try clear c18
      try clear c21
      try clear c23
      try clear c30
      try clear c31
      try clear p2
      obtain ⟨kq, x11_44, x12_44, rfl, rfl, HA, HJ44, HO_1, HB⟩ := hcut
      cases kq with
      | zero => exact absurd HA.out (by simp [schismalaw13_known.j2])
      | succ kj44 =>
       have H := HA.out
       clear HA
       simp only [schismalaw13_known.j2] at H
       obtain ⟨⟨t656, t657⟩, A56, H⟩ := bo H
       try dsimp only at H
       obtain ⟨⟨t658, t659⟩, A57, H⟩ := bo H
       try dsimp only at H
       obtain ⟨⟨t660, t661⟩, A58, H⟩ := bo H
       try dsimp only at H
       obtain ⟨y662, hy662⟩ : ∃ y_ : List (S30), y_ = (([(⟨t656, t657⟩ : S30), (⟨t658, t659⟩ : S30), (⟨t660, t661⟩ : S30)] : List (S30))) := ⟨_, rfl⟩
       first | rw [Option.bind_some, ← hy662] at H | rw [← hy662] at H
       have Ny662 := am hy662
       clear hy662
       obtain ⟨⟨t665, t666⟩, A59, H⟩ := bo H
       try dsimp only at H
       by_cases c60 : x6_22 = 0
       ·rw [if_pos c60] at H
        have c60b0 := beq_iff_eq.mpr c60
        have c60b1 := bne_eq_false_iff_eq.mpr c60
        clear c60
        by_cases c61 : x5_22 = (-1)
        ·rw [if_pos c61] at H
         have c61b0 := beq_iff_eq.mpr c61
         have c61b1 := bne_eq_false_iff_eq.mpr c61
         clear c61
         by_cases c62 : t647 = 0
         ·rw [if_pos c62] at H
          have c62b0 := beq_iff_eq.mpr c62
          have c62b1 := bne_eq_false_iff_eq.mpr c62
          clear c62
          by_cases c63 : t646.toList = ([53, 53] : List UInt8)
          ·rw [if_pos c63] at H
           have c63b0 := beq_iff_eq.mpr c63
           have c63b1 := bne_eq_false_iff_eq.mpr c63
           clear c63
           by_cases c64 : t653 = 0
           ·rw [if_pos c64] at H
            have c64b0 := beq_iff_eq.mpr c64
            have c64b1 := bne_eq_false_iff_eq.mpr c64
            clear c64
            by_cases c65 : x12_44 = 0
            ·rw [if_pos c65] at H
             have c65b0 := beq_iff_eq.mpr c65
             have c65b1 := bne_eq_false_iff_eq.mpr c65
             clear c65
             by_cases c66 : x11_44.toList = ([55] : List UInt8)
             ·rw [if_pos c66] at H
              have c66b0 := beq_iff_eq.mpr c66
              have c66b1 := bne_eq_false_iff_eq.mpr c66
              clear c66
              by_cases c67 : t666 = 0
              ·rw [if_pos c67] at H
               have c67b0 := beq_iff_eq.mpr c67
               have c67b1 := bne_eq_false_iff_eq.mpr c67
               clear c67
               obtain rfl := Option.some.inj H
               go_wp2_with (first | ((with_reducible refine gc (f := 18) rfl ?_); refine goesM (some 61) Tryz.func18 #[.int .i64 1, .int .i64 2] ?_; (with_reducible refine (schismalaw13_part.calls kj44 1 2 t656 t657 _ ?s1 A56.out).mono ?_); (case s1 => exact gb HG0 HB); rintro e w68 ⟨rfl, hb⟩; refine ⟨_, rfl, ?_⟩; replace HO_1 := rb HO_1 hb; replace HB := bs HB hb; (try clear hb)) | ((with_reducible refine gc (f := 18) rfl ?_); refine goesM (some 62) Tryz.func18 #[.int .i64 (-1), .int .i64 4] ?_; (with_reducible refine (schismalaw13_part.calls kj44 (-1) 4 t658 t659 _ ?s1 A57.out).mono ?_); (case s1 => exact gb HG0 HB); rintro e w69 ⟨rfl, hb⟩; refine ⟨_, rfl, ?_⟩; replace HO_1 := rb HO_1 hb; replace HB := bs HB hb; (try clear hb)) | ((with_reducible refine gc (f := 18) rfl ?_); refine goesM (some 63) Tryz.func18 #[.int .i64 1, .int .i64 1] ?_; (with_reducible refine (schismalaw13_part.calls kj44 1 1 t660 t661 _ ?s1 A58.out).mono ?_); (case s1 => exact gb HG0 HB); rintro e w70 ⟨rfl, hb⟩; refine ⟨_, rfl, ?_⟩; replace HO_1 := rb HO_1 hb; replace HB := bs HB hb; (try clear hb)) | ((with_reducible refine gd (N := 64) rfl ?_); refine Kd.R_lit k30 _ 30 ?hg (N := 64) ?hd (xs := ([(⟨t656, t657⟩ : S30), (⟨t658, t659⟩ : S30), (⟨t660, t661⟩ : S30)] : List (S30))) (inner := [.string t656, .string t657, .string t658, .string t659, .string t660, .string t661]) (ok := fun _ => True) (okp := fun _ => True) ?hr ?hp (fun _ hk => hk) trivial (Below.refl _ _) (Nat.le_refl _) (by simp) ?_; (case hd => rfl); (case hg => rfl); (case hr => first | (go_simp; done) | (go_simp; rfl)); (case hp => exact (Reps.c2 (show Kd.M k30 _ _ _ (⟨t656, t657⟩ : S30) [.string t656, .string t657] from (k30_mkM _ _ _ (⟨t656, t657⟩ : S30) )) (Reps.c2 (show Kd.M k30 _ _ _ (⟨t658, t659⟩ : S30) [.string t658, .string t659] from (k30_mkM _ _ _ (⟨t658, t659⟩ : S30) )) (Reps.c2 (show Kd.M k30 _ _ _ (⟨t660, t661⟩ : S30) [.string t660, .string t661] from (k30_mkM _ _ _ (⟨t660, t661⟩ : S30) )) (Reps.none _ _))))); intro v663 w71 ho72 hb hg_ hnew_; clear hg_ hnew_; (first | rw [← Ny662.out] at ho72 | (simp only [Int.reduceToNat] at ho72; rw [← Ny662.out] at ho72)); replace HO_1 := rb HO_1 hb; have HO664 := am (Kd.R_lower ho72 (below_size (bl HB))); replace HB := bs HB hb; clear hb ho72; obtain ⟨Ao73, co73, eo73⟩ := Kd.R_slice HO664.out; subst eo73) | ((with_reducible refine gc (f := 45) rfl ?_); refine goesM (some 65) Tryz.func45 #[.slice Ao46 y605.length co46, .slice Ao73 y662.length co73] ?_; (with_reducible refine (size_Text.calls kj44 _ _ y605 _ _ y662 t665 t666 _ ?s1 ?s2 ?s3 ?s4 ?s5 A59.out).mono ?_); (case s1 => exact gb HG0 HB); (case s2 => exact cR HO_1); (case s3 => exact (Kd.R_reads' HO_1.out).2.1); (case s4 => exact cR HO664); (case s5 => exact (Kd.R_reads' HO664.out).2.1); rintro e w74 ⟨rfl, hb⟩; refine ⟨_, rfl, ?_⟩; replace HO_1 := rb HO_1 hb; replace HO664 := rb HO664 hb; replace HB := bs HB hb; (try clear hb)))
               go_ret
               exact ⟨rl, bl HB⟩
              ·rw [if_neg c67] at H
               have c67b0 := beq_eq_false_iff_ne.mpr c67
               have c67b1 := bne_iff_ne.mpr c67
               obtain rfl := Option.some.inj H
               go_wp2_with (first | ((with_reducible refine gc (f := 18) rfl ?_); refine goesM (some 61) Tryz.func18 #[.int .i64 1, .int .i64 2] ?_; (with_reducible refine (schismalaw13_part.calls kj44 1 2 t656 t657 _ ?s1 A56.out).mono ?_); (case s1 => exact gb HG0 HB); rintro e w75 ⟨rfl, hb⟩; refine ⟨_, rfl, ?_⟩; replace HO_1 := rb HO_1 hb; replace HB := bs HB hb; (try clear hb)) | ((with_reducible refine gc (f := 18) rfl ?_); refine goesM (some 62) Tryz.func18 #[.int .i64 (-1), .int .i64 4] ?_; (with_reducible refine (schismalaw13_part.calls kj44 (-1) 4 t658 t659 _ ?s1 A57.out).mono ?_); (case s1 => exact gb HG0 HB); rintro e w76 ⟨rfl, hb⟩; refine ⟨_, rfl, ?_⟩; replace HO_1 := rb HO_1 hb; replace HB := bs HB hb; (try clear hb)) | ((with_reducible refine gc (f := 18) rfl ?_); refine goesM (some 63) Tryz.func18 #[.int .i64 1, .int .i64 1] ?_; (with_reducible refine (schismalaw13_part.calls kj44 1 1 t660 t661 _ ?s1 A58.out).mono ?_); (case s1 => exact gb HG0 HB); rintro e w77 ⟨rfl, hb⟩; refine ⟨_, rfl, ?_⟩; replace HO_1 := rb HO_1 hb; replace HB := bs HB hb; (try clear hb)) | ((with_reducible refine gd (N := 64) rfl ?_); refine Kd.R_lit k30 _ 30 ?hg (N := 64) ?hd (xs := ([(⟨t656, t657⟩ : S30), (⟨t658, t659⟩ : S30), (⟨t660, t661⟩ : S30)] : List (S30))) (inner := [.string t656, .string t657, .string t658, .string t659, .string t660, .string t661]) (ok := fun _ => True) (okp := fun _ => True) ?hr ?hp (fun _ hk => hk) trivial (Below.refl _ _) (Nat.le_refl _) (by simp) ?_; (case hd => rfl); (case hg => rfl); (case hr => first | (go_simp; done) | (go_simp; rfl)); (case hp => exact (Reps.c2 (show Kd.M k30 _ _ _ (⟨t656, t657⟩ : S30) [.string t656, .string t657] from (k30_mkM _ _ _ (⟨t656, t657⟩ : S30) )) (Reps.c2 (show Kd.M k30 _ _ _ (⟨t658, t659⟩ : S30) [.string t658, .string t659] from (k30_mkM _ _ _ (⟨t658, t659⟩ : S30) )) (Reps.c2 (show Kd.M k30 _ _ _ (⟨t660, t661⟩ : S30) [.string t660, .string t661] from (k30_mkM _ _ _ (⟨t660, t661⟩ : S30) )) (Reps.none _ _))))); intro v663 w78 ho79 hb hg_ hnew_; clear hg_ hnew_; (first | rw [← Ny662.out] at ho79 | (simp only [Int.reduceToNat] at ho79; rw [← Ny662.out] at ho79)); replace HO_1 := rb HO_1 hb; have HO664 := am (Kd.R_lower ho79 (below_size (bl HB))); replace HB := bs HB hb; clear hb ho79; obtain ⟨Ao80, co80, eo80⟩ := Kd.R_slice HO664.out; subst eo80) | ((with_reducible refine gc (f := 45) rfl ?_); refine goesM (some 65) Tryz.func45 #[.slice Ao46 y605.length co46, .slice Ao80 y662.length co80] ?_; (with_reducible refine (size_Text.calls kj44 _ _ y605 _ _ y662 t665 t666 _ ?s1 ?s2 ?s3 ?s4 ?s5 A59.out).mono ?_); (case s1 => exact gb HG0 HB); (case s2 => exact cR HO_1); (case s3 => exact (Kd.R_reads' HO_1.out).2.1); (case s4 => exact cR HO664); (case s5 => exact (Kd.R_reads' HO664.out).2.1); rintro e w81 ⟨rfl, hb⟩; refine ⟨_, rfl, ?_⟩; replace HO_1 := rb HO_1 hb; replace HO664 := rb HO664 hb; replace HB := bs HB hb; (try clear hb)))
               go_ret
               exact ⟨rl, bl HB⟩
             ·rw [if_neg c66] at H
              have c66b0 := beq_eq_false_iff_ne.mpr c66
              have c66b1 := bne_iff_ne.mpr c66
              obtain rfl := Option.some.inj H
              go_wp2_with (first | ((with_reducible refine gc (f := 18) rfl ?_); refine goesM (some 61) Tryz.func18 #[.int .i64 1, .int .i64 2] ?_; (with_reducible refine (schismalaw13_part.calls kj44 1 2 t656 t657 _ ?s1 A56.out).mono ?_); (case s1 => exact gb HG0 HB); rintro e w82 ⟨rfl, hb⟩; refine ⟨_, rfl, ?_⟩; replace HO_1 := rb HO_1 hb; replace HB := bs HB hb; (try clear hb)) | ((with_reducible refine gc (f := 18) rfl ?_); refine goesM (some 62) Tryz.func18 #[.int .i64 (-1), .int .i64 4] ?_; (with_reducible refine (schismalaw13_part.calls kj44 (-1) 4 t658 t659 _ ?s1 A57.out).mono ?_); (case s1 => exact gb HG0 HB); rintro e w83 ⟨rfl, hb⟩; refine ⟨_, rfl, ?_⟩; replace HO_1 := rb HO_1 hb; replace HB := bs HB hb; (try clear hb)) | ((with_reducible refine gc (f := 18) rfl ?_); refine goesM (some 63) Tryz.func18 #[.int .i64 1, .int .i64 1] ?_; (with_reducible refine (schismalaw13_part.calls kj44 1 1 t660 t661 _ ?s1 A58.out).mono ?_); (case s1 => exact gb HG0 HB); rintro e w84 ⟨rfl, hb⟩; refine ⟨_, rfl, ?_⟩; replace HO_1 := rb HO_1 hb; replace HB := bs HB hb; (try clear hb)) | ((with_reducible refine gd (N := 64) rfl ?_); refine Kd.R_lit k30 _ 30 ?hg (N := 64) ?hd (xs := ([(⟨t656, t657⟩ : S30), (⟨t658, t659⟩ : S30), (⟨t660, t661⟩ : S30)] : List (S30))) (inner := [.string t656, .string t657, .string t658, .string t659, .string t660, .string t661]) (ok := fun _ => True) (okp := fun _ => True) ?hr ?hp (fun _ hk => hk) trivial (Below.refl _ _) (Nat.le_refl _) (by simp) ?_; (case hd => rfl); (case hg => rfl); (case hr => first | (go_simp; done) | (go_simp; rfl)); (case hp => exact (Reps.c2 (show Kd.M k30 _ _ _ (⟨t656, t657⟩ : S30) [.string t656, .string t657] from (k30_mkM _ _ _ (⟨t656, t657⟩ : S30) )) (Reps.c2 (show Kd.M k30 _ _ _ (⟨t658, t659⟩ : S30) [.string t658, .string t659] from (k30_mkM _ _ _ (⟨t658, t659⟩ : S30) )) (Reps.c2 (show Kd.M k30 _ _ _ (⟨t660, t661⟩ : S30) [.string t660, .string t661] from (k30_mkM _ _ _ (⟨t660, t661⟩ : S30) )) (Reps.none _ _))))); intro v663 w85 ho86 hb hg_ hnew_; clear hg_ hnew_; (first | rw [← Ny662.out] at ho86 | (simp only [Int.reduceToNat] at ho86; rw [← Ny662.out] at ho86)); replace HO_1 := rb HO_1 hb; have HO664 := am (Kd.R_lower ho86 (below_size (bl HB))); replace HB := bs HB hb; clear hb ho86; obtain ⟨Ao87, co87, eo87⟩ := Kd.R_slice HO664.out; subst eo87) | ((with_reducible refine gc (f := 45) rfl ?_); refine goesM (some 65) Tryz.func45 #[.slice Ao46 y605.length co46, .slice Ao87 y662.length co87] ?_; (with_reducible refine (size_Text.calls kj44 _ _ y605 _ _ y662 t665 t666 _ ?s1 ?s2 ?s3 ?s4 ?s5 A59.out).mono ?_); (case s1 => exact gb HG0 HB); (case s2 => exact cR HO_1); (case s3 => exact (Kd.R_reads' HO_1.out).2.1); (case s4 => exact cR HO664); (case s5 => exact (Kd.R_reads' HO664.out).2.1); rintro e w88 ⟨rfl, hb⟩; refine ⟨_, rfl, ?_⟩; replace HO_1 := rb HO_1 hb; replace HO664 := rb HO664 hb; replace HB := bs HB hb; (try clear hb)))
              go_ret
              exact ⟨rl, bl HB⟩
            ·rw [if_neg c65] at H
             have c65b0 := beq_eq_false_iff_ne.mpr c65
             have c65b1 := bne_iff_ne.mpr c65
             obtain rfl := Option.some.inj H
             go_wp2_with (first | ((with_reducible refine gc (f := 18) rfl ?_); refine goesM (some 61) Tryz.func18 #[.int .i64 1, .int .i64 2] ?_; (with_reducible refine (schismalaw13_part.calls kj44 1 2 t656 t657 _ ?s1 A56.out).mono ?_); (case s1 => exact gb HG0 HB); rintro e w89 ⟨rfl, hb⟩; refine ⟨_, rfl, ?_⟩; replace HO_1 := rb HO_1 hb; replace HB := bs HB hb; (try clear hb)) | ((with_reducible refine gc (f := 18) rfl ?_); refine goesM (some 62) Tryz.func18 #[.int .i64 (-1), .int .i64 4] ?_; (with_reducible refine (schismalaw13_part.calls kj44 (-1) 4 t658 t659 _ ?s1 A57.out).mono ?_); (case s1 => exact gb HG0 HB); rintro e w90 ⟨rfl, hb⟩; refine ⟨_, rfl, ?_⟩; replace HO_1 := rb HO_1 hb; replace HB := bs HB hb; (try clear hb)) | ((with_reducible refine gc (f := 18) rfl ?_); refine goesM (some 63) Tryz.func18 #[.int .i64 1, .int .i64 1] ?_; (with_reducible refine (schismalaw13_part.calls kj44 1 1 t660 t661 _ ?s1 A58.out).mono ?_); (case s1 => exact gb HG0 HB); rintro e w91 ⟨rfl, hb⟩; refine ⟨_, rfl, ?_⟩; replace HO_1 := rb HO_1 hb; replace HB := bs HB hb; (try clear hb)) | ((with_reducible refine gd (N := 64) rfl ?_); refine Kd.R_lit k30 _ 30 ?hg (N := 64) ?hd (xs := ([(⟨t656, t657⟩ : S30), (⟨t658, t659⟩ : S30), (⟨t660, t661⟩ : S30)] : List (S30))) (inner := [.string t656, .string t657, .string t658, .string t659, .string t660, .string t661]) (ok := fun _ => True) (okp := fun _ => True) ?hr ?hp (fun _ hk => hk) trivial (Below.refl _ _) (Nat.le_refl _) (by simp) ?_; (case hd => rfl); (case hg => rfl); (case hr => first | (go_simp; done) | (go_simp; rfl)); (case hp => exact (Reps.c2 (show Kd.M k30 _ _ _ (⟨t656, t657⟩ : S30) [.string t656, .string t657] from (k30_mkM _ _ _ (⟨t656, t657⟩ : S30) )) (Reps.c2 (show Kd.M k30 _ _ _ (⟨t658, t659⟩ : S30) [.string t658, .string t659] from (k30_mkM _ _ _ (⟨t658, t659⟩ : S30) )) (Reps.c2 (show Kd.M k30 _ _ _ (⟨t660, t661⟩ : S30) [.string t660, .string t661] from (k30_mkM _ _ _ (⟨t660, t661⟩ : S30) )) (Reps.none _ _))))); intro v663 w92 ho93 hb hg_ hnew_; clear hg_ hnew_; (first | rw [← Ny662.out] at ho93 | (simp only [Int.reduceToNat] at ho93; rw [← Ny662.out] at ho93)); replace HO_1 := rb HO_1 hb; have HO664 := am (Kd.R_lower ho93 (below_size (bl HB))); replace HB := bs HB hb; clear hb ho93; obtain ⟨Ao94, co94, eo94⟩ := Kd.R_slice HO664.out; subst eo94) | ((with_reducible refine gc (f := 45) rfl ?_); refine goesM (some 65) Tryz.func45 #[.slice Ao46 y605.length co46, .slice Ao94 y662.length co94] ?_; (with_reducible refine (size_Text.calls kj44 _ _ y605 _ _ y662 t665 t666 _ ?s1 ?s2 ?s3 ?s4 ?s5 A59.out).mono ?_); (case s1 => exact gb HG0 HB); (case s2 => exact cR HO_1); (case s3 => exact (Kd.R_reads' HO_1.out).2.1); (case s4 => exact cR HO664); (case s5 => exact (Kd.R_reads' HO664.out).2.1); rintro e w95 ⟨rfl, hb⟩; refine ⟨_, rfl, ?_⟩; replace HO_1 := rb HO_1 hb; replace HO664 := rb HO664 hb; replace HB := bs HB hb; (try clear hb)))
             go_ret
             exact ⟨rl, bl HB⟩
           ·rw [if_neg c64] at H
            have c64b0 := beq_eq_false_iff_ne.mpr c64
            have c64b1 := bne_iff_ne.mpr c64
            obtain rfl := Option.some.inj H
            go_wp2_with (first | ((with_reducible refine gc (f := 18) rfl ?_); refine goesM (some 61) Tryz.func18 #[.int .i64 1, .int .i64 2] ?_; (with_reducible refine (schismalaw13_part.calls kj44 1 2 t656 t657 _ ?s1 A56.out).mono ?_); (case s1 => exact gb HG0 HB); rintro e w96 ⟨rfl, hb⟩; refine ⟨_, rfl, ?_⟩; replace HO_1 := rb HO_1 hb; replace HB := bs HB hb; (try clear hb)) | ((with_reducible refine gc (f := 18) rfl ?_); refine goesM (some 62) Tryz.func18 #[.int .i64 (-1), .int .i64 4] ?_; (with_reducible refine (schismalaw13_part.calls kj44 (-1) 4 t658 t659 _ ?s1 A57.out).mono ?_); (case s1 => exact gb HG0 HB); rintro e w97 ⟨rfl, hb⟩; refine ⟨_, rfl, ?_⟩; replace HO_1 := rb HO_1 hb; replace HB := bs HB hb; (try clear hb)) | ((with_reducible refine gc (f := 18) rfl ?_); refine goesM (some 63) Tryz.func18 #[.int .i64 1, .int .i64 1] ?_; (with_reducible refine (schismalaw13_part.calls kj44 1 1 t660 t661 _ ?s1 A58.out).mono ?_); (case s1 => exact gb HG0 HB); rintro e w98 ⟨rfl, hb⟩; refine ⟨_, rfl, ?_⟩; replace HO_1 := rb HO_1 hb; replace HB := bs HB hb; (try clear hb)) | ((with_reducible refine gd (N := 64) rfl ?_); refine Kd.R_lit k30 _ 30 ?hg (N := 64) ?hd (xs := ([(⟨t656, t657⟩ : S30), (⟨t658, t659⟩ : S30), (⟨t660, t661⟩ : S30)] : List (S30))) (inner := [.string t656, .string t657, .string t658, .string t659, .string t660, .string t661]) (ok := fun _ => True) (okp := fun _ => True) ?hr ?hp (fun _ hk => hk) trivial (Below.refl _ _) (Nat.le_refl _) (by simp) ?_; (case hd => rfl); (case hg => rfl); (case hr => first | (go_simp; done) | (go_simp; rfl)); (case hp => exact (Reps.c2 (show Kd.M k30 _ _ _ (⟨t656, t657⟩ : S30) [.string t656, .string t657] from (k30_mkM _ _ _ (⟨t656, t657⟩ : S30) )) (Reps.c2 (show Kd.M k30 _ _ _ (⟨t658, t659⟩ : S30) [.string t658, .string t659] from (k30_mkM _ _ _ (⟨t658, t659⟩ : S30) )) (Reps.c2 (show Kd.M k30 _ _ _ (⟨t660, t661⟩ : S30) [.string t660, .string t661] from (k30_mkM _ _ _ (⟨t660, t661⟩ : S30) )) (Reps.none _ _))))); intro v663 w99 ho100 hb hg_ hnew_; clear hg_ hnew_; (first | rw [← Ny662.out] at ho100 | (simp only [Int.reduceToNat] at ho100; rw [← Ny662.out] at ho100)); replace HO_1 := rb HO_1 hb; have HO664 := am (Kd.R_lower ho100 (below_size (bl HB))); replace HB := bs HB hb; clear hb ho100; obtain ⟨Ao101, co101, eo101⟩ := Kd.R_slice HO664.out; subst eo101) | ((with_reducible refine gc (f := 45) rfl ?_); refine goesM (some 65) Tryz.func45 #[.slice Ao46 y605.length co46, .slice Ao101 y662.length co101] ?_; (with_reducible refine (size_Text.calls kj44 _ _ y605 _ _ y662 t665 t666 _ ?s1 ?s2 ?s3 ?s4 ?s5 A59.out).mono ?_); (case s1 => exact gb HG0 HB); (case s2 => exact cR HO_1); (case s3 => exact (Kd.R_reads' HO_1.out).2.1); (case s4 => exact cR HO664); (case s5 => exact (Kd.R_reads' HO664.out).2.1); rintro e w102 ⟨rfl, hb⟩; refine ⟨_, rfl, ?_⟩; replace HO_1 := rb HO_1 hb; replace HO664 := rb HO664 hb; replace HB := bs HB hb; (try clear hb)))
            go_ret
            exact ⟨rl, bl HB⟩
          ·rw [if_neg c63] at H
           have c63b0 := beq_eq_false_iff_ne.mpr c63
           have c63b1 := bne_iff_ne.mpr c63
           obtain rfl := Option.some.inj H
           go_wp2_with (first | ((with_reducible refine gc (f := 18) rfl ?_); refine goesM (some 61) Tryz.func18 #[.int .i64 1, .int .i64 2] ?_; (with_reducible refine (schismalaw13_part.calls kj44 1 2 t656 t657 _ ?s1 A56.out).mono ?_); (case s1 => exact gb HG0 HB); rintro e w103 ⟨rfl, hb⟩; refine ⟨_, rfl, ?_⟩; replace HO_1 := rb HO_1 hb; replace HB := bs HB hb; (try clear hb)) | ((with_reducible refine gc (f := 18) rfl ?_); refine goesM (some 62) Tryz.func18 #[.int .i64 (-1), .int .i64 4] ?_; (with_reducible refine (schismalaw13_part.calls kj44 (-1) 4 t658 t659 _ ?s1 A57.out).mono ?_); (case s1 => exact gb HG0 HB); rintro e w104 ⟨rfl, hb⟩; refine ⟨_, rfl, ?_⟩; replace HO_1 := rb HO_1 hb; replace HB := bs HB hb; (try clear hb)) | ((with_reducible refine gc (f := 18) rfl ?_); refine goesM (some 63) Tryz.func18 #[.int .i64 1, .int .i64 1] ?_; (with_reducible refine (schismalaw13_part.calls kj44 1 1 t660 t661 _ ?s1 A58.out).mono ?_); (case s1 => exact gb HG0 HB); rintro e w105 ⟨rfl, hb⟩; refine ⟨_, rfl, ?_⟩; replace HO_1 := rb HO_1 hb; replace HB := bs HB hb; (try clear hb)) | ((with_reducible refine gd (N := 64) rfl ?_); refine Kd.R_lit k30 _ 30 ?hg (N := 64) ?hd (xs := ([(⟨t656, t657⟩ : S30), (⟨t658, t659⟩ : S30), (⟨t660, t661⟩ : S30)] : List (S30))) (inner := [.string t656, .string t657, .string t658, .string t659, .string t660, .string t661]) (ok := fun _ => True) (okp := fun _ => True) ?hr ?hp (fun _ hk => hk) trivial (Below.refl _ _) (Nat.le_refl _) (by simp) ?_; (case hd => rfl); (case hg => rfl); (case hr => first | (go_simp; done) | (go_simp; rfl)); (case hp => exact (Reps.c2 (show Kd.M k30 _ _ _ (⟨t656, t657⟩ : S30) [.string t656, .string t657] from (k30_mkM _ _ _ (⟨t656, t657⟩ : S30) )) (Reps.c2 (show Kd.M k30 _ _ _ (⟨t658, t659⟩ : S30) [.string t658, .string t659] from (k30_mkM _ _ _ (⟨t658, t659⟩ : S30) )) (Reps.c2 (show Kd.M k30 _ _ _ (⟨t660, t661⟩ : S30) [.string t660, .string t661] from (k30_mkM _ _ _ (⟨t660, t661⟩ : S30) )) (Reps.none _ _))))); intro v663 w106 ho107 hb hg_ hnew_; clear hg_ hnew_; (first | rw [← Ny662.out] at ho107 | (simp only [Int.reduceToNat] at ho107; rw [← Ny662.out] at ho107)); replace HO_1 := rb HO_1 hb; have HO664 := am (Kd.R_lower ho107 (below_size (bl HB))); replace HB := bs HB hb; clear hb ho107; obtain ⟨Ao108, co108, eo108⟩ := Kd.R_slice HO664.out; subst eo108) | ((with_reducible refine gc (f := 45) rfl ?_); refine goesM (some 65) Tryz.func45 #[.slice Ao46 y605.length co46, .slice Ao108 y662.length co108] ?_; (with_reducible refine (size_Text.calls kj44 _ _ y605 _ _ y662 t665 t666 _ ?s1 ?s2 ?s3 ?s4 ?s5 A59.out).mono ?_); (case s1 => exact gb HG0 HB); (case s2 => exact cR HO_1); (case s3 => exact (Kd.R_reads' HO_1.out).2.1); (case s4 => exact cR HO664); (case s5 => exact (Kd.R_reads' HO664.out).2.1); rintro e w109 ⟨rfl, hb⟩; refine ⟨_, rfl, ?_⟩; replace HO_1 := rb HO_1 hb; replace HO664 := rb HO664 hb; replace HB := bs HB hb; (try clear hb)))
           go_ret
           exact ⟨rl, bl HB⟩
         ·rw [if_neg c62] at H
          have c62b0 := beq_eq_false_iff_ne.mpr c62
          have c62b1 := bne_iff_ne.mpr c62
          obtain rfl := Option.some.inj H
          go_wp2_with (first | ((with_reducible refine gc (f := 18) rfl ?_); refine goesM (some 61) Tryz.func18 #[.int .i64 1, .int .i64 2] ?_; (with_reducible refine (schismalaw13_part.calls kj44 1 2 t656 t657 _ ?s1 A56.out).mono ?_); (case s1 => exact gb HG0 HB); rintro e w110 ⟨rfl, hb⟩; refine ⟨_, rfl, ?_⟩; replace HO_1 := rb HO_1 hb; replace HB := bs HB hb; (try clear hb)) | ((with_reducible refine gc (f := 18) rfl ?_); refine goesM (some 62) Tryz.func18 #[.int .i64 (-1), .int .i64 4] ?_; (with_reducible refine (schismalaw13_part.calls kj44 (-1) 4 t658 t659 _ ?s1 A57.out).mono ?_); (case s1 => exact gb HG0 HB); rintro e w111 ⟨rfl, hb⟩; refine ⟨_, rfl, ?_⟩; replace HO_1 := rb HO_1 hb; replace HB := bs HB hb; (try clear hb)) | ((with_reducible refine gc (f := 18) rfl ?_); refine goesM (some 63) Tryz.func18 #[.int .i64 1, .int .i64 1] ?_; (with_reducible refine (schismalaw13_part.calls kj44 1 1 t660 t661 _ ?s1 A58.out).mono ?_); (case s1 => exact gb HG0 HB); rintro e w112 ⟨rfl, hb⟩; refine ⟨_, rfl, ?_⟩; replace HO_1 := rb HO_1 hb; replace HB := bs HB hb; (try clear hb)) | ((with_reducible refine gd (N := 64) rfl ?_); refine Kd.R_lit k30 _ 30 ?hg (N := 64) ?hd (xs := ([(⟨t656, t657⟩ : S30), (⟨t658, t659⟩ : S30), (⟨t660, t661⟩ : S30)] : List (S30))) (inner := [.string t656, .string t657, .string t658, .string t659, .string t660, .string t661]) (ok := fun _ => True) (okp := fun _ => True) ?hr ?hp (fun _ hk => hk) trivial (Below.refl _ _) (Nat.le_refl _) (by simp) ?_; (case hd => rfl); (case hg => rfl); (case hr => first | (go_simp; done) | (go_simp; rfl)); (case hp => exact (Reps.c2 (show Kd.M k30 _ _ _ (⟨t656, t657⟩ : S30) [.string t656, .string t657] from (k30_mkM _ _ _ (⟨t656, t657⟩ : S30) )) (Reps.c2 (show Kd.M k30 _ _ _ (⟨t658, t659⟩ : S30) [.string t658, .string t659] from (k30_mkM _ _ _ (⟨t658, t659⟩ : S30) )) (Reps.c2 (show Kd.M k30 _ _ _ (⟨t660, t661⟩ : S30) [.string t660, .string t661] from (k30_mkM _ _ _ (⟨t660, t661⟩ : S30) )) (Reps.none _ _))))); intro v663 w113 ho114 hb hg_ hnew_; clear hg_ hnew_; (first | rw [← Ny662.out] at ho114 | (simp only [Int.reduceToNat] at ho114; rw [← Ny662.out] at ho114)); replace HO_1 := rb HO_1 hb; have HO664 := am (Kd.R_lower ho114 (below_size (bl HB))); replace HB := bs HB hb; clear hb ho114; obtain ⟨Ao115, co115, eo115⟩ := Kd.R_slice HO664.out; subst eo115) | ((with_reducible refine gc (f := 45) rfl ?_); refine goesM (some 65) Tryz.func45 #[.slice Ao46 y605.length co46, .slice Ao115 y662.length co115] ?_; (with_reducible refine (size_Text.calls kj44 _ _ y605 _ _ y662 t665 t666 _ ?s1 ?s2 ?s3 ?s4 ?s5 A59.out).mono ?_); (case s1 => exact gb HG0 HB); (case s2 => exact cR HO_1); (case s3 => exact (Kd.R_reads' HO_1.out).2.1); (case s4 => exact cR HO664); (case s5 => exact (Kd.R_reads' HO664.out).2.1); rintro e w116 ⟨rfl, hb⟩; refine ⟨_, rfl, ?_⟩; replace HO_1 := rb HO_1 hb; replace HO664 := rb HO664 hb; replace HB := bs HB hb; (try clear hb)))
          go_ret
          exact ⟨rl, bl HB⟩
        ·rw [if_neg c61] at H
         have c61b0 := beq_eq_false_iff_ne.mpr c61
         have c61b1 := bne_iff_ne.mpr c61
         obtain rfl := Option.some.inj H
         go_wp2_with (first | ((with_reducible refine gc (f := 18) rfl ?_); refine goesM (some 61) Tryz.func18 #[.int .i64 1, .int .i64 2] ?_; (with_reducible refine (schismalaw13_part.calls kj44 1 2 t656 t657 _ ?s1 A56.out).mono ?_); (case s1 => exact gb HG0 HB); rintro e w117 ⟨rfl, hb⟩; refine ⟨_, rfl, ?_⟩; replace HO_1 := rb HO_1 hb; replace HB := bs HB hb; (try clear hb)) | ((with_reducible refine gc (f := 18) rfl ?_); refine goesM (some 62) Tryz.func18 #[.int .i64 (-1), .int .i64 4] ?_; (with_reducible refine (schismalaw13_part.calls kj44 (-1) 4 t658 t659 _ ?s1 A57.out).mono ?_); (case s1 => exact gb HG0 HB); rintro e w118 ⟨rfl, hb⟩; refine ⟨_, rfl, ?_⟩; replace HO_1 := rb HO_1 hb; replace HB := bs HB hb; (try clear hb)) | ((with_reducible refine gc (f := 18) rfl ?_); refine goesM (some 63) Tryz.func18 #[.int .i64 1, .int .i64 1] ?_; (with_reducible refine (schismalaw13_part.calls kj44 1 1 t660 t661 _ ?s1 A58.out).mono ?_); (case s1 => exact gb HG0 HB); rintro e w119 ⟨rfl, hb⟩; refine ⟨_, rfl, ?_⟩; replace HO_1 := rb HO_1 hb; replace HB := bs HB hb; (try clear hb)) | ((with_reducible refine gd (N := 64) rfl ?_); refine Kd.R_lit k30 _ 30 ?hg (N := 64) ?hd (xs := ([(⟨t656, t657⟩ : S30), (⟨t658, t659⟩ : S30), (⟨t660, t661⟩ : S30)] : List (S30))) (inner := [.string t656, .string t657, .string t658, .string t659, .string t660, .string t661]) (ok := fun _ => True) (okp := fun _ => True) ?hr ?hp (fun _ hk => hk) trivial (Below.refl _ _) (Nat.le_refl _) (by simp) ?_; (case hd => rfl); (case hg => rfl); (case hr => first | (go_simp; done) | (go_simp; rfl)); (case hp => exact (Reps.c2 (show Kd.M k30 _ _ _ (⟨t656, t657⟩ : S30) [.string t656, .string t657] from (k30_mkM _ _ _ (⟨t656, t657⟩ : S30) )) (Reps.c2 (show Kd.M k30 _ _ _ (⟨t658, t659⟩ : S30) [.string t658, .string t659] from (k30_mkM _ _ _ (⟨t658, t659⟩ : S30) )) (Reps.c2 (show Kd.M k30 _ _ _ (⟨t660, t661⟩ : S30) [.string t660, .string t661] from (k30_mkM _ _ _ (⟨t660, t661⟩ : S30) )) (Reps.none _ _))))); intro v663 w120 ho121 hb hg_ hnew_; clear hg_ hnew_; (first | rw [← Ny662.out] at ho121 | (simp only [Int.reduceToNat] at ho121; rw [← Ny662.out] at ho121)); replace HO_1 := rb HO_1 hb; have HO664 := am (Kd.R_lower ho121 (below_size (bl HB))); replace HB := bs HB hb; clear hb ho121; obtain ⟨Ao122, co122, eo122⟩ := Kd.R_slice HO664.out; subst eo122) | ((with_reducible refine gc (f := 45) rfl ?_); refine goesM (some 65) Tryz.func45 #[.slice Ao46 y605.length co46, .slice Ao122 y662.length co122] ?_; (with_reducible refine (size_Text.calls kj44 _ _ y605 _ _ y662 t665 t666 _ ?s1 ?s2 ?s3 ?s4 ?s5 A59.out).mono ?_); (case s1 => exact gb HG0 HB); (case s2 => exact cR HO_1); (case s3 => exact (Kd.R_reads' HO_1.out).2.1); (case s4 => exact cR HO664); (case s5 => exact (Kd.R_reads' HO664.out).2.1); rintro e w123 ⟨rfl, hb⟩; refine ⟨_, rfl, ?_⟩; replace HO_1 := rb HO_1 hb; replace HO664 := rb HO664 hb; replace HB := bs HB hb; (try clear hb)))
         go_ret
         exact ⟨rl, bl HB⟩
       ·rw [if_neg c60] at H
        have c60b0 := beq_eq_false_iff_ne.mpr c60
        have c60b1 := bne_iff_ne.mpr c60
        obtain rfl := Option.some.inj H
        go_wp2_with (first | ((with_reducible refine gc (f := 18) rfl ?_); refine goesM (some 61) Tryz.func18 #[.int .i64 1, .int .i64 2] ?_; (with_reducible refine (schismalaw13_part.calls kj44 1 2 t656 t657 _ ?s1 A56.out).mono ?_); (case s1 => exact gb HG0 HB); rintro e w124 ⟨rfl, hb⟩; refine ⟨_, rfl, ?_⟩; replace HO_1 := rb HO_1 hb; replace HB := bs HB hb; (try clear hb)) | ((with_reducible refine gc (f := 18) rfl ?_); refine goesM (some 62) Tryz.func18 #[.int .i64 (-1), .int .i64 4] ?_; (with_reducible refine (schismalaw13_part.calls kj44 (-1) 4 t658 t659 _ ?s1 A57.out).mono ?_); (case s1 => exact gb HG0 HB); rintro e w125 ⟨rfl, hb⟩; refine ⟨_, rfl, ?_⟩; replace HO_1 := rb HO_1 hb; replace HB := bs HB hb; (try clear hb)) | ((with_reducible refine gc (f := 18) rfl ?_); refine goesM (some 63) Tryz.func18 #[.int .i64 1, .int .i64 1] ?_; (with_reducible refine (schismalaw13_part.calls kj44 1 1 t660 t661 _ ?s1 A58.out).mono ?_); (case s1 => exact gb HG0 HB); rintro e w126 ⟨rfl, hb⟩; refine ⟨_, rfl, ?_⟩; replace HO_1 := rb HO_1 hb; replace HB := bs HB hb; (try clear hb)) | ((with_reducible refine gd (N := 64) rfl ?_); refine Kd.R_lit k30 _ 30 ?hg (N := 64) ?hd (xs := ([(⟨t656, t657⟩ : S30), (⟨t658, t659⟩ : S30), (⟨t660, t661⟩ : S30)] : List (S30))) (inner := [.string t656, .string t657, .string t658, .string t659, .string t660, .string t661]) (ok := fun _ => True) (okp := fun _ => True) ?hr ?hp (fun _ hk => hk) trivial (Below.refl _ _) (Nat.le_refl _) (by simp) ?_; (case hd => rfl); (case hg => rfl); (case hr => first | (go_simp; done) | (go_simp; rfl)); (case hp => exact (Reps.c2 (show Kd.M k30 _ _ _ (⟨t656, t657⟩ : S30) [.string t656, .string t657] from (k30_mkM _ _ _ (⟨t656, t657⟩ : S30) )) (Reps.c2 (show Kd.M k30 _ _ _ (⟨t658, t659⟩ : S30) [.string t658, .string t659] from (k30_mkM _ _ _ (⟨t658, t659⟩ : S30) )) (Reps.c2 (show Kd.M k30 _ _ _ (⟨t660, t661⟩ : S30) [.string t660, .string t661] from (k30_mkM _ _ _ (⟨t660, t661⟩ : S30) )) (Reps.none _ _))))); intro v663 w127 ho128 hb hg_ hnew_; clear hg_ hnew_; (first | rw [← Ny662.out] at ho128 | (simp only [Int.reduceToNat] at ho128; rw [← Ny662.out] at ho128)); replace HO_1 := rb HO_1 hb; have HO664 := am (Kd.R_lower ho128 (below_size (bl HB))); replace HB := bs HB hb; clear hb ho128; obtain ⟨Ao129, co129, eo129⟩ := Kd.R_slice HO664.out; subst eo129) | ((with_reducible refine gc (f := 45) rfl ?_); refine goesM (some 65) Tryz.func45 #[.slice Ao46 y605.length co46, .slice Ao129 y662.length co129] ?_; (with_reducible refine (size_Text.calls kj44 _ _ y605 _ _ y662 t665 t666 _ ?s1 ?s2 ?s3 ?s4 ?s5 A59.out).mono ?_); (case s1 => exact gb HG0 HB); (case s2 => exact cR HO_1); (case s3 => exact (Kd.R_reads' HO_1.out).2.1); (case s4 => exact cR HO664); (case s5 => exact (Kd.R_reads' HO664.out).2.1); rintro e w130 ⟨rfl, hb⟩; refine ⟨_, rfl, ?_⟩; replace HO_1 := rb HO_1 hb; replace HO664 := rb HO664 hb; replace HB := bs HB hb; (try clear hb)))
        go_ret
        exact ⟨rl, bl HB⟩
end Go.Proofs.YtailoobjgbldgaaGreatDoor.P
end
section
namespace Go.Proofs.YtailoobjgbldgaaGreatDoor.P
open Go Go.RowKit Go.Proofs.YtailoobjgbldgaaGreatDoorW.PrintWords Go.Proofs.YtailoobjgbldgaaGreatDoorW.PrintLast Go.Proofs.YtailoobjgbldgaaGreatDoorW.PrintMore
def kKnown.f (k : Nat) : Option Bool := if 300 ≤ k then schismalaw13_known.f 300 else none
theorem kKnown.calls (k : Nat) (r : Bool) (w : World) (hG : Glob w) (h : kKnown.f k = some r) :
    Calls Tryz.prog 12 #[] w fun e w' => e = .returned (.bool r) ∧ Below w.heap.size w w' := by
  unfold kKnown.f at h
  by_cases hk : 300 ≤ k
  · rw [if_pos hk] at h
    exact schismalaw13_known.calls 300 r w hG h
  · rw [if_neg hk] at h
    cases h
end Go.Proofs.YtailoobjgbldgaaGreatDoor.P
end
section
namespace Go.Proofs.YtailoobjgbldgaaGreatDoor.P
set_option linter.unusedVariables false
set_option linter.unusedSimpArgs false
open Go Go.RowKit Go.Proofs.YtailoobjgbldgaaGreatDoorW.PrintWords Go.Proofs.YtailoobjgbldgaaGreatDoorW.PrintLast Go.Proofs.YtailoobjgbldgaaGreatDoorW.PrintMore
def sSort.f (k : Nat) (l0 : List Int) (l1 : List (List S30)) : Option (List Int × Int) := (size_CheckAll.f k l0 l1).bind fun t => if t = 0 then none else some ([], t)
set_option maxHeartbeats 4000000 in
theorem sSort.calls (k : Nat) (A0 : Option Addr) (c0 : Nat) (l0 : List Int) (A1 : Option Addr) (c1 : Nat) (l1 : List (List S30)) (r1 : List Int) (r2 : Int) (w : World) (hG : Glob w) (hr0 : Kd.C (Kd.int .i64) w A0 l0.length l0) (hc0 : l0.length ≤ c0) (hr1 : Kd.C (Kd.slice 30 k30) w A1 l1.length l1) (hc1 : l1.length ≤ c1) (h : sSort.f k l0 l1 = some (r1, r2)) :
    Calls Tryz.prog 47 #[.slice A0 l0.length c0, .slice A1 l1.length c1] w fun e w' => ∃ v0_ : Value, e = .returned (.tuple #[v0_, .int .i64 r2]) ∧ Kd.R (Kd.int .i64) 3 w' w.heap.size (fun _ => True) v0_ r1 ∧ Below w.heap.size w w' := by
  unfold sSort.f at h
  obtain ⟨t, ht, h⟩ := Option.bind_eq_some_iff.mp h
  by_cases h0 : t = 0
  · rw [if_pos h0] at h; cases h
  rw [if_neg h0] at h
  simp only [Option.some.injEq, Prod.mk.injEq] at h
  obtain ⟨rfl, rfl⟩ := h
  have c1b : (t == 0) = false := beq_eq_false_iff_ne.mpr h0
  have c2b : (t != 0) = true := bne_iff_ne.mpr h0
  have HB := Aside0.mk (Below.refl w.heap.size w)
  go_enter Tryz.func47, Tryz.ntmps47
  go_wp2_with (first
    | ((with_reducible refine gate_dst (N := 2) rfl ?_); refine boxM (N := 2) #[.slice A0 l0.length c0] 26 ?_; intro gb0 hg0 w3 hbox hb; have BK0 := Aside0.mk hbox; replace HB := Aside0.mk (below_step (bl HB) hb); clear hb hbox hg0)
    | ((with_reducible refine gate_dst (N := 3) rfl ?_); refine boxM (N := 3) #[.slice A1 l1.length c1] 33 ?_; intro gb1 hg1 w4 hbox hb; have BK1 := Aside0.mk hbox; replace BK0 := Aside0.mk (blk_below (g := gb0) (o := .cells #[.slice A0 l0.length c0] 26 (0, 0)) (bk BK0) hb); replace HB := Aside0.mk (below_step (bl HB) hb); clear hb hbox hg1; have hcz0 : w4.cell? ⟨gb0, 0, none⟩ = some (.slice A0 l0.length c0) := (blk_cell BK0.out 0).trans rfl; have hcz1 : w4.cell? ⟨gb1, 0, none⟩ = some (.slice A1 l1.length c1) := (blk_cell BK1.out 0).trans rfl)
    | ((with_reducible refine gate_callee (f := 52) rfl ?_); refine goesM (some 11) Tryz.func52 #[.slice A0 l0.length c0, .slice A1 l1.length c1] ?_; (with_reducible refine (size_CheckAll.calls k _ _ l0 _ _ l1 t _ ?side1 ?side2 hc0 ?side4 hc1 ht).mono ?_); (case side1 => exact Glob.below hG (bl HB)); (case side2 => exact Kd.C_below hr0 (bl HB)); (case side4 => exact Kd.C_below hr1 (bl HB)); rintro e w9 ⟨rfl, hb⟩; refine ⟨_, rfl, ?_⟩; replace HB := Aside0.mk (below_step (bl HB) hb); clear hb))
  go_ret2
  exact ⟨_, rfl, Kd.R_nil _ _ _ _ _, bl HB⟩
end Go.Proofs.YtailoobjgbldgaaGreatDoor.P
end
section
namespace Go.Proofs.YtailoobjgbldgaaGreatDoor.P
open Go.RowKit Go.Proofs.YtailoobjgbldgaaGreatDoorW.PrintWords Go.Proofs.YtailoobjgbldgaaGreatDoorW.PrintLast Go.Proofs.YtailoobjgbldgaaGreatDoorW.PrintMore
attribute [local go_sem] max2_int min2_int max_two min_two max_three min_three max_four min_four   
set_option linter.unusedVariables false
set_option linter.unusedSimpArgs false
set_option maxHeartbeats 8000000
set_option maxRecDepth 100000
mutual
def schismalaw13_SizeChecks.j0 : Nat → List Int → List (S30) → List (S30) → Bool → Option (Bool)
 | 0, _, _, _, _ => none
 | k + 1, x0, x1, x2, x39 => if x39 = true then ((kKnown.f k).bind fun t721 => (some t721)) else ((schismalaw13_check.f k x0 x1).bind fun t722 => ((schismalaw13_check.f k x0 x2).bind fun t723 => (schismalaw13_SizeChecks.j1 k x0 x1 x2 t722 t723)))
def schismalaw13_SizeChecks.j1 : Nat → List Int → List (S30) → List (S30) → Int → Int → Option (Bool)
 | 0, _, _, _, _, _ => none
 | k + 1, x0, x1, x2, x7, x8 => if x7 = 0 then (schismalaw13_SizeChecks.j2 k x0 x1 x2 x7 x8) else (schismalaw13_SizeChecks.j2 k x0 x1 x2 x7 x7)
def schismalaw13_SizeChecks.j2 : Nat → List Int → List (S30) → List (S30) → Int → Int → Option (Bool)
 | 0, _, _, _, _, _ => none
 | k + 1, x0, x1, x2, x7, x8 => (size_Check.f k x0 x1).bind fun t724 => (if t724 = x7 then ((size_CheckAll.f k x0 (([x1, x2] : List (List (S30))))).bind fun t728 => (if t728 = x8 then ((size_Equal.f k x1 x2).bind fun t729 => ((schismalaw13_equal.f k x1 x2).bind fun t730 => (if (t729 != t730) = true then (none) else ((size_Equal.f k x1 x1).bind fun t731 => (schismalaw13_SizeChecks.j3 k x0 x1 x2 x7 x8 (!t731)))))) else (none))) else (none))
def schismalaw13_SizeChecks.j3 : Nat → List Int → List (S30) → List (S30) → Int → Int → Bool → Option (Bool)
 | 0, _, _, _, _, _, _ => none
 | k + 1, x0, x1, x2, x7, x8, x78 => if x78 = true then (none) else (if x8 = 0 then (some true) else ((size_Add.f k x0 x1 x2).bind fun bt732 => ((size_Sub.f k x0 x1 x2).bind fun bt736 => ((size_Compare.f k x0 x1 x2).bind fun bt740 => (schismalaw13_SizeChecks.j4 k x0 x1 x2 x7 x8 bt732.1 bt732.2 bt736.1 bt736.2 bt740.1 bt740.2)))))
def schismalaw13_SizeChecks.j4 : Nat → List Int → List (S30) → List (S30) → Int → Int → List (S30) → Int → List (S30) → Int → Int → Int → Option (Bool)
 | 0, _, _, _, _, _, _, _, _, _, _, _ => none
 | k + 1, x0, x1, x2, x7, x8, x9, x10, x11, x12, x13, x14 => (size_Floor.f k x0 x1 x2).bind fun bt742 => ((size_Round.f k x0 x1 x2).bind fun bt744 => ((size_Remainder.f k x0 x1 x2).bind fun bt746 => (schismalaw13_SizeChecks.j5 k x0 x1 x2 x7 x8 x9 x10 x11 x12 x13 x14 bt742.1 bt742.2 bt744.1 bt744.2 bt746.1 bt746.2)))
def schismalaw13_SizeChecks.j5 : Nat → List Int → List (S30) → List (S30) → Int → Int → List (S30) → Int → List (S30) → Int → Int → Int → ByteArray → Int → ByteArray → Int → List (S30) → Int → Option (Bool)
 | 0, _, _, _, _, _, _, _, _, _, _, _, _, _, _, _, _, _ => none
 | k + 1, x0, x1, x2, x7, x8, x9, x10, x11, x12, x13, x14, x15, x16, x17, x18, x19, x20 => (sSort.f k x0 (([x1, x2] : List (List (S30))))).bind fun bt753 => ((size_Combine.f k x0 (([x1, x2] : List (List (S30)))) ([] : List (S30))).bind fun bt760 => (if (wrap64 ((wrap64 ((wrap64 ((wrap64 ((x9.length : Int) + (x11.length : Int))) + (x19.length : Int))) + (bt753.1.length : Int))) + (bt760.1.length : Int))) > 0 then (none) else (if x13 = 0 then (if x15.toList = ([] : List UInt8) then (if x17.toList = ([] : List UInt8) then (if x10 = x8 then (if x12 = x8 then (if x14 = x8 then (if x16 = x8 then (if x18 = x8 then (if x20 = x8 then (if bt753.2 = x8 then (if bt760.2 = x8 then (if x7 = 0 then (some true) else ((size_Scale.f k x0 x1 (⟨#[]⟩ : ByteArray) (⟨#[]⟩ : ByteArray)).bind fun bt764 => (schismalaw13_SizeChecks.j6 k x0 x1 x7 bt764.1 bt764.2))) else (none)) else (none)) else (none)) else (none)) else (none)) else (none)) else (none)) else (none)) else (none)) else (none)) else (none))))
def schismalaw13_SizeChecks.j6 : Nat → List Int → List (S30) → Int → List (S30) → Int → Option (Bool)
 | 0, _, _, _, _, _ => none
 | k + 1, x0, x1, x7, x9, x10 => (size_Sign.f k x0 x1).bind fun bt768 => ((size_Abs.f k x0 x1).bind fun bt770 => ((size_Text.f k x0 x1).bind fun bt774 => (if (wrap64 ((x9.length : Int) + (bt770.1.length : Int))) = 0 then (if bt768.1 = 0 then (if bt774.1.toList = ([] : List UInt8) then (if x10 = x7 then (if bt768.2 = x7 then (if bt770.2 = x7 then (some (bt774.2 == x7)) else (none)) else (none)) else (some false)) else (none)) else (none)) else (none))))
end
def schismalaw13_SizeChecks.f (k : Nat) (l0 : List Int) (l1 : List (S30)) (l2 : List (S30)) : Option (Bool) := (kKnown.f k).bind fun t718 => (if t718 = true then ((schismalaw13_few.f k l0 l1).bind fun t719 => (if t719 = true then ((schismalaw13_few.f k l0 l2).bind fun t720 => (schismalaw13_SizeChecks.j0 k l0 l1 l2 (!t720))) else (schismalaw13_SizeChecks.j0 k l0 l1 l2 true))) else (schismalaw13_SizeChecks.j0 k l0 l1 l2 true))
theorem schismalaw13_SizeChecks.calls (k : Nat) (A0 : Option Addr) (c0 : Nat) (l0 : List Int) (P1_ : Nat → Prop) (A1 : Option Addr) (c1 : Nat) (l1 : List (S30)) (P2_ : Nat → Prop) (A2 : Option Addr) (c2 : Nat) (l2 : List (S30)) (r : Bool) (w : World) (hG : Glob w) (hr0 : Kd.C (Kd.int .i64) w A0 l0.length l0) (hc0 : l0.length ≤ c0) (hs1 : Kd.V k30 30 w w.heap.size (fun k_ => P1_ k_) (.slice A1 l1.length c1) l1) (hs2 : Kd.V k30 30 w w.heap.size (fun k_ => P2_ k_) (.slice A2 l2.length c2) l2) (h : schismalaw13_SizeChecks.f k l0 l1 l2 = some r) :
  Calls Tryz.prog 11 #[.slice A0 l0.length c0, .slice A1 l1.length c1, .slice A2 l2.length c2] w fun e w' => e = .returned (.bool r) ∧ Below w.heap.size w w' := by
 have hu30 := Tryz.underlying30
 have HR0 := am hr0
 have HC0 := am hc0
 clear hr0 hc0
 have HO1 := am (show Kd.V k30 30 w w.heap.size (fun k_ => ((P1_ k_ ∨ P2_ k_) ∨ w.heap.size ≤ k_)) (.slice A1 l1.length c1) l1 from Kd.V_mono hs1 (fun k_ hk => .inl (.inl hk)))
 have HO2 := am (show Kd.V k30 30 w w.heap.size (fun k_ => ((P1_ k_ ∨ P2_ k_) ∨ w.heap.size ≤ k_)) (.slice A2 l2.length c2) l2 from Kd.V_mono hs2 (fun k_ hk => .inl (.inr hk)))
 have HG0 := am hG
 clear hG
 have HB := am (Below.refl w.heap.size w)
 have H := h
 unfold schismalaw13_SizeChecks.f at H
 clear h
 have HC4 := am H
 clear H
 go_enter Tryz.func11, Tryz.ntmps11
 go_upto_region 1 with (fail)
 go_cut [39] (fun v39 wc => ∃ (kq : Nat) (x39_3 : Bool), v39 = .bool x39_3 ∧ Aside0 (schismalaw13_SizeChecks.j0 kq l0 l1 l2 x39_3 = some r) ∧ Aside0 (kq ≤ k) ∧ Aside0 (Kd.V k30 30 wc w.heap.size (fun k_ => ((P1_ k_ ∨ P2_ k_) ∨ w.heap.size ≤ k_)) (.slice A1 l1.length c1) l1) ∧ Aside0 (Kd.V k30 30 wc w.heap.size (fun k_ => ((P1_ k_ ∨ P2_ k_) ∨ w.heap.size ≤ k_)) (.slice A2 l2.length c2) l2) ∧ Aside0 (Below w.heap.size w wc))
 case first => as_aux_lemma =>
  have H := HC4.out
  clear HC4
  obtain ⟨t718, A5, H⟩ := bo H
  try dsimp only at H
  by_cases c6 : t718 = true
  ·subst c6
   rw [if_pos rfl] at H
   obtain ⟨t719, A7, H⟩ := bo H
   try dsimp only at H
   by_cases c8 : t719 = true
   ·subst c8
    rw [if_pos rfl] at H
    obtain ⟨t720, A9, H⟩ := bo H
    try dsimp only at H
    have H' := am H
    clear H
    go_wp2_with (first | ((with_reducible refine gc (f := 12) rfl ?_); refine goesM (some 26) Tryz.func12 #[] ?_; (with_reducible refine (kKnown.calls k  true _ ?s1 A5.out).mono ?_); (case s1 => exact gb HG0 HB); rintro e w10 ⟨rfl, hb⟩; refine ⟨_, rfl, ?_⟩; replace HO1 := am (Kd.V_below (kv HO1) hb); replace HO2 := am (Kd.V_below (kv HO2) hb); replace HB := bs HB hb; (try clear hb)) | (go_at_call 49; (with_reducible refine (schismalaw13_few.calls k _ _ l0 _ _ l1 true _ ?s1 ?s2 ?s3 ?s4 A7.out).mono ?_); (case s1 => exact cb HR0 HB); (case s2 => exact HC0.out); (case s3 => exact cv HO1); (case s4 => exact (Kd.V_reads' HO1.out).2.1); rintro e w' ⟨rfl, ⟨nd, rfl⟩⟩) | (go_at_call 49; (with_reducible refine (schismalaw13_few.calls k _ _ l0 _ _ l2 t720 _ ?s1 ?s2 ?s3 ?s4 A9.out).mono ?_); (case s1 => repeat (first | exact (Kd.C_below HR0.out (bl HB)) | (with_reducible refine Kd.C_alloc ?_ _) | (with_reducible refine Kd.C_drewN ?_ _) | (with_reducible refine Kd.C_drew ?_))); (case s2 => exact HC0.out); (case s3 => exact cv HO2); (case s4 => exact (Kd.V_reads' HO2.out).2.1); rintro e w' ⟨rfl, ⟨nd, rfl⟩⟩))
    go_meet
    case rel => exact ⟨_, (!t720), rs, H', ⟨by first | omega | exact Nat.le_refl _⟩, ⟨by (with_reducible repeat (first | apply Kd.V_alloc | apply Kd.V_drewN | apply Kd.V_drew)); exact HO1.out⟩, ⟨by (with_reducible repeat (first | apply Kd.V_alloc | apply Kd.V_drewN | apply Kd.V_drew)); exact HO2.out⟩, ⟨bl HB⟩⟩
   ·replace c8 := Bool.eq_false_iff.mpr c8
    subst c8
    rw [if_neg (show ¬ (false = true) by decide)] at H
    have H' := am H
    clear H
    go_wp2_with (first | ((with_reducible refine gc (f := 12) rfl ?_); refine goesM (some 26) Tryz.func12 #[] ?_; (with_reducible refine (kKnown.calls k  true _ ?s1 A5.out).mono ?_); (case s1 => exact gb HG0 HB); rintro e w11 ⟨rfl, hb⟩; refine ⟨_, rfl, ?_⟩; replace HO1 := am (Kd.V_below (kv HO1) hb); replace HO2 := am (Kd.V_below (kv HO2) hb); replace HB := bs HB hb; (try clear hb)) | (go_at_call 49; (with_reducible refine (schismalaw13_few.calls k _ _ l0 _ _ l1 false _ ?s1 ?s2 ?s3 ?s4 A7.out).mono ?_); (case s1 => exact cb HR0 HB); (case s2 => exact HC0.out); (case s3 => exact cv HO1); (case s4 => exact (Kd.V_reads' HO1.out).2.1); rintro e w' ⟨rfl, ⟨nd, rfl⟩⟩))
    go_meet
    case rel => exact ⟨_, (true), rs, H', ⟨by first | omega | exact Nat.le_refl _⟩, ⟨by (with_reducible repeat (first | apply Kd.V_alloc | apply Kd.V_drewN | apply Kd.V_drew)); exact HO1.out⟩, ⟨by (with_reducible repeat (first | apply Kd.V_alloc | apply Kd.V_drewN | apply Kd.V_drew)); exact HO2.out⟩, ⟨bl HB⟩⟩
  ·replace c6 := Bool.eq_false_iff.mpr c6
   subst c6
   rw [if_neg (show ¬ (false = true) by decide)] at H
   have H' := am H
   clear H
   go_wp2_with (first | ((with_reducible refine gc (f := 12) rfl ?_); refine goesM (some 26) Tryz.func12 #[] ?_; (with_reducible refine (kKnown.calls k  false _ ?s1 A5.out).mono ?_); (case s1 => exact gb HG0 HB); rintro e w12 ⟨rfl, hb⟩; refine ⟨_, rfl, ?_⟩; replace HO1 := am (Kd.V_below (kv HO1) hb); replace HO2 := am (Kd.V_below (kv HO2) hb); replace HB := bs HB hb; (try clear hb)))
   go_meet
   case rel => exact ⟨_, (true), rs, H', ⟨by first | omega | exact Nat.le_refl _⟩, ⟨by (with_reducible repeat (first | apply Kd.V_alloc | apply Kd.V_drewN | apply Kd.V_drew)); exact HO1.out⟩, ⟨by (with_reducible repeat (first | apply Kd.V_alloc | apply Kd.V_drewN | apply Kd.V_drew)); exact HO2.out⟩, ⟨bl HB⟩⟩
 case rest => as_aux_lemma =>
  clear HC4
  try clear c1
  try clear c2
  try clear p2
  try clear c6
  try clear c8
  try clear c11
  try clear c12
  obtain ⟨kq, x39_3, rfl, HA, HJ3, HO_1, HO_2, HB⟩ := hcut
  cases kq with
  | zero => exact absurd HA.out (by simp [schismalaw13_SizeChecks.j0])
  | succ kj3 =>
   have H := HA.out
   clear HA
   simp only [schismalaw13_SizeChecks.j0] at H
   by_cases c13 : x39_3 = true
   ·subst c13
    rw [if_pos rfl] at H
    obtain ⟨t721, A14, H⟩ := bo H
    try dsimp only at H
    obtain rfl := Option.some.inj H
    go_wp2_with (first | ((with_reducible refine gc (f := 12) rfl ?_); refine goesM (some 40) Tryz.func12 #[] ?_; (with_reducible refine (kKnown.calls kj3  t721 _ ?s1 A14.out).mono ?_); (case s1 => exact gb HG0 HB); rintro e w15 ⟨rfl, hb⟩; refine ⟨_, rfl, ?_⟩; replace HO_1 := am (Kd.V_below (kv HO_1) hb); replace HO_2 := am (Kd.V_below (kv HO_2) hb); replace HB := bs HB hb; (try clear hb)))
    go_ret
    exact ⟨rl, bl HB⟩
   ·replace c13 := Bool.eq_false_iff.mpr c13
    subst c13
    rw [if_neg (show ¬ (false = true) by decide)] at H
    have HC16 := am H
    clear H
    go_upto_region 3 with (fail)
    go_cut [7, 8] (fun v7 v8 wc => ∃ (kq : Nat) (x7_15 : Int) (x8_15 : Int), v7 = .int .i64 x7_15 ∧ v8 = .int .i64 x8_15 ∧ Aside0 (schismalaw13_SizeChecks.j1 kq l0 l1 l2 x7_15 x8_15 = some r) ∧ Aside0 (kq ≤ kj3) ∧ Aside0 (Kd.V k30 30 wc w.heap.size (fun k_ => ((P1_ k_ ∨ P2_ k_) ∨ w.heap.size ≤ k_)) (.slice A1 l1.length c1) l1) ∧ Aside0 (Kd.V k30 30 wc w.heap.size (fun k_ => ((P1_ k_ ∨ P2_ k_) ∨ w.heap.size ≤ k_)) (.slice A2 l2.length c2) l2) ∧ Aside0 (Below w.heap.size w wc))
    case first => as_aux_lemma =>
     have H := HC16.out
     clear HC16
     obtain ⟨t722, A17, H⟩ := bo H
     try dsimp only at H
     obtain ⟨t723, A18, H⟩ := bo H
     try dsimp only at H
     have H' := am H
     clear H
     go_wp2_with (first | ((with_reducible refine gc (f := 50) rfl ?_); refine goesM (some 43) Tryz.func50 #[.slice A0 l0.length c0, .slice A1 l1.length c1] ?_; (with_reducible refine (schismalaw13_check.calls kj3 _ _ l0 _ _ l1 t722 _ ?s1 ?s2 ?s3 ?s4 ?s5 A17.out).mono ?_); (case s1 => exact gb HG0 HB); (case s2 => exact cb HR0 HB); (case s3 => exact HC0.out); (case s4 => exact cv HO_1); (case s5 => exact (Kd.V_reads' HO_1.out).2.1); rintro e w19 ⟨rfl, hb⟩; refine ⟨_, rfl, ?_⟩; replace HO_1 := am (Kd.V_below (kv HO_1) hb); replace HO_2 := am (Kd.V_below (kv HO_2) hb); replace HB := bs HB hb; (try clear hb)) | ((with_reducible refine gc (f := 50) rfl ?_); refine goesM (some 46) Tryz.func50 #[.slice A0 l0.length c0, .slice A2 l2.length c2] ?_; (with_reducible refine (schismalaw13_check.calls kj3 _ _ l0 _ _ l2 t723 _ ?s1 ?s2 ?s3 ?s4 ?s5 A18.out).mono ?_); (case s1 => exact gb HG0 HB); (case s2 => exact cb HR0 HB); (case s3 => exact HC0.out); (case s4 => exact cv HO_2); (case s5 => exact (Kd.V_reads' HO_2.out).2.1); rintro e w20 ⟨rfl, hb⟩; refine ⟨_, rfl, ?_⟩; replace HO_1 := am (Kd.V_below (kv HO_1) hb); replace HO_2 := am (Kd.V_below (kv HO_2) hb); replace HB := bs HB hb; (try clear hb)))
     go_meet
     case rel => exact ⟨_, (t722), (t723), rs, rs, H', ⟨by have := HJ3.out; first | omega | exact Nat.le_refl _⟩, ⟨by (with_reducible repeat (first | apply Kd.V_alloc | apply Kd.V_drewN | apply Kd.V_drew)); exact HO_1.out⟩, ⟨by (with_reducible repeat (first | apply Kd.V_alloc | apply Kd.V_drewN | apply Kd.V_drew)); exact HO_2.out⟩, ⟨bl HB⟩⟩
    case rest => as_aux_lemma =>
     clear HC16
     try clear c1
     try clear c2
     try clear p2
     try clear c5
     try clear c6
     try clear c8
     try clear c11
     try clear c12
     try clear c13
     try clear p2
     obtain ⟨kq, x7_15, x8_15, rfl, rfl, HA, HJ15, HO_1, HO_2, HB⟩ := hcut
     cases kq with
     | zero => exact absurd HA.out (by simp [schismalaw13_SizeChecks.j1])
     | succ kj15 =>
      have H := HA.out
      clear HA
      simp only [schismalaw13_SizeChecks.j1] at H
      have HC21 := am H
      clear H
      go_upto_if 48 with (fail)
      go_cut [8] (fun v8 wc => ∃ (kq : Nat) (x8_20 : Int), v8 = .int .i64 x8_20 ∧ Aside0 (schismalaw13_SizeChecks.j2 kq l0 l1 l2 x7_15 x8_20 = some r) ∧ Aside0 (kq ≤ kj15) ∧ Aside0 (Kd.V k30 30 wc w.heap.size (fun k_ => ((P1_ k_ ∨ P2_ k_) ∨ w.heap.size ≤ k_)) (.slice A1 l1.length c1) l1) ∧ Aside0 (Kd.V k30 30 wc w.heap.size (fun k_ => ((P1_ k_ ∨ P2_ k_) ∨ w.heap.size ≤ k_)) (.slice A2 l2.length c2) l2) ∧ Aside0 (Below w.heap.size w wc))
      case first => as_aux_lemma =>
       have H := HC21.out
       clear HC21
       by_cases c22 : x7_15 = 0
       ·rw [if_pos c22] at H
        have c22b0 := beq_iff_eq.mpr c22
        have c22b1 := bne_eq_false_iff_eq.mpr c22
        clear c22
        (first | rw [c22b0] | (simp only [i64_w, i32_w]; rw [c22b0]) | skip)
        have H' := am H
        clear H
        go_wp2
        go_meet
        case rel => exact ⟨_, (x8_15), rs, H', ⟨by have := HJ3.out; have := HJ15.out; first | omega | exact Nat.le_refl _⟩, ⟨by (with_reducible repeat (first | apply Kd.V_alloc | apply Kd.V_drewN | apply Kd.V_drew)); exact HO_1.out⟩, ⟨by (with_reducible repeat (first | apply Kd.V_alloc | apply Kd.V_drewN | apply Kd.V_drew)); exact HO_2.out⟩, ⟨bl HB⟩⟩
       ·rw [if_neg c22] at H
        have c22b0 := beq_eq_false_iff_ne.mpr c22
        have c22b1 := bne_iff_ne.mpr c22
        (first | rw [c22b0] | (simp only [i64_w, i32_w]; rw [c22b0]) | skip)
        have H' := am H
        clear H
        go_wp2
        go_meet
        case rel => exact ⟨_, (x7_15), rs, H', ⟨by have := HJ3.out; have := HJ15.out; first | omega | exact Nat.le_refl _⟩, ⟨by (with_reducible repeat (first | apply Kd.V_alloc | apply Kd.V_drewN | apply Kd.V_drew)); exact HO_1.out⟩, ⟨by (with_reducible repeat (first | apply Kd.V_alloc | apply Kd.V_drewN | apply Kd.V_drew)); exact HO_2.out⟩, ⟨bl HB⟩⟩
      case rest => as_aux_lemma =>
       clear HC21
       try clear c1
       try clear c2
       try clear p2
       try clear c5
       try clear c6
       try clear c8
       try clear c11
       try clear c12
       try clear c13
       try clear c22
       try clear c22b0
       try clear c22b1
       try clear p2
       obtain ⟨kq, x8_20, rfl, HA, HJ20, HO_1, HO_2, HB⟩ := hcut
       cases kq with
       | zero => exact absurd HA.out (by simp [schismalaw13_SizeChecks.j2])
       | succ kj20 =>
        have H := HA.out
        clear HA
        simp only [schismalaw13_SizeChecks.j2] at H
        have HC23 := am H
        clear H
        go_upto_region 6 with (fail)
        go_cut [78] (fun v78 wc => ∃ (kq : Nat) (x78_22 : Bool), v78 = .bool x78_22 ∧ Aside0 (schismalaw13_SizeChecks.j3 kq l0 l1 l2 x7_15 x8_20 x78_22 = some r) ∧ Aside0 (kq ≤ kj20) ∧ Aside0 (Kd.V k30 30 wc w.heap.size (fun k_ => ((P1_ k_ ∨ P2_ k_) ∨ w.heap.size ≤ k_)) (.slice A1 l1.length c1) l1) ∧ Aside0 (Kd.V k30 30 wc w.heap.size (fun k_ => ((P1_ k_ ∨ P2_ k_) ∨ w.heap.size ≤ k_)) (.slice A2 l2.length c2) l2) ∧ Aside0 (Below w.heap.size w wc))
        case first => as_aux_lemma =>
         have H := HC23.out
         clear HC23
         obtain ⟨t724, A24, H⟩ := bo H
         try dsimp only at H
         by_cases c25 : t724 = x7_15
         case neg => rw [if_neg c25] at H; cases H
         rw [if_pos c25] at H
         have c25b0 := beq_iff_eq.mpr c25
         have c25b1 := bne_eq_false_iff_eq.mpr c25
         clear c25
         (first | rw [c25b0] | (simp only [i64_w, i32_w]; rw [c25b0]) | skip)
         obtain ⟨y725, hy725⟩ : ∃ y_ : List (List (S30)), y_ = (([l1, l2] : List (List (S30)))) := ⟨_, rfl⟩
         first | rw [Option.bind_some, ← hy725] at H | rw [← hy725] at H
         have Ny725 := am hy725
         clear hy725
         obtain ⟨t728, A26, H⟩ := bo H
         try dsimp only at H
         by_cases c27 : t728 = x8_20
         case neg => rw [if_neg c27] at H; cases H
         rw [if_pos c27] at H
         have c27b0 := beq_iff_eq.mpr c27
         have c27b1 := bne_eq_false_iff_eq.mpr c27
         clear c27
         obtain ⟨t729, A28, H⟩ := bo H
         try dsimp only at H
         obtain ⟨t730, A29, H⟩ := bo H
         try dsimp only at H
         by_cases c30 : (t729 != t730) = true
         case pos => rw [if_pos c30] at H; cases H
         rw [if_neg c30] at H
         have c30b0 : (t729 != t730) = false := by simpa using c30
         (try (have c30b1 : decide (t729 = t730) = true := by simpa using c30))
         (try (have c30b2 : (t729 == t730) = true := by simpa using c30))
         clear c30
         obtain ⟨t731, A31, H⟩ := bo H
         try dsimp only at H
         have H' := am H
         clear H
         go_wp2_with (first | ((with_reducible refine gc (f := 51) rfl ?_); refine goesM (some 52) Tryz.func51 #[.slice A0 l0.length c0, .slice A1 l1.length c1] ?_; (with_reducible refine (size_Check.calls kj20 _ _ l0 _ _ l1 t724 _ ?s1 ?s2 ?s3 ?s4 ?s5 A24.out).mono ?_); (case s1 => exact gb HG0 HB); (case s2 => exact cb HR0 HB); (case s3 => exact HC0.out); (case s4 => exact cv HO_1); (case s5 => exact (Kd.V_reads' HO_1.out).2.1); rintro e w32 ⟨rfl, hb⟩; refine ⟨_, rfl, ?_⟩; replace HO_1 := am (Kd.V_below (kv HO_1) hb); replace HO_2 := am (Kd.V_below (kv HO_2) hb); replace HB := bs HB hb; (try clear hb)) | ((with_reducible refine gd (N := 59) rfl ?_); (try (refine gate_guard (by rfl) ?_; dsimp only)); refine Kd.N_lit (Kd.slice 30 k30) _ 34 ?hg (N' := 59) ?hd (xs := ([l1, l2] : List (List (S30)))) (inner := [.slice A1 l1.length c1, .slice A2 l2.length c2]) (ok := (fun k_ => ((P1_ k_ ∨ P2_ k_) ∨ w.heap.size ≤ k_))) (okp := (fun k_ => ((P1_ k_ ∨ P2_ k_) ∨ w.heap.size ≤ k_))) ?hr ?hp (fun _ hk => hk) ((show ∀ k_, w32.heap.size ≤ k_ → (fun k_ => ((P1_ k_ ∨ P2_ k_) ∨ w.heap.size ≤ k_)) k_ from fun k_ hk => (.inr (Nat.le_trans (below_size (bl HB)) hk))) _ (Nat.le_refl _)) (Below.refl _ _) (Nat.le_refl _) (by simp) ?_; (case hd => rfl); (case hg => rfl); (case hr => first | (go_simp; done) | (go_simp; rfl)); (case hp => exact (Reps.one (show Kd.FK (Kd.slice 30 k30) _ _ l1 [.slice A1 l1.length c1] from (Kd.FK_slice_mk (Kd.V_reads' (Kd.V_mono (ok' := (fun k_ => ((P1_ k_ ∨ P2_ k_) ∨ w.heap.size ≤ k_))) (HO_1.out) (fun k_ hk => hk))).2.1 (Kd.V_F (Kd.V_mono (ok' := (fun k_ => ((P1_ k_ ∨ P2_ k_) ∨ w.heap.size ≤ k_))) (HO_1.out) (fun k_ hk => hk))))) (Reps.one (show Kd.FK (Kd.slice 30 k30) _ _ l2 [.slice A2 l2.length c2] from (Kd.FK_slice_mk (Kd.V_reads' (Kd.V_mono (ok' := (fun k_ => ((P1_ k_ ∨ P2_ k_) ∨ w.heap.size ≤ k_))) (HO_2.out) (fun k_ hk => hk))).2.1 (Kd.V_F (Kd.V_mono (ok' := (fun k_ => ((P1_ k_ ∨ P2_ k_) ∨ w.heap.size ≤ k_))) (HO_2.out) (fun k_ hk => hk))))) (Reps.none _ _)))); intro v726 w33 ho34 hb hg_ hnew_; clear hg_ hnew_; (first | rw [← Ny725.out] at ho34 | (simp only [Int.reduceToNat] at ho34; rw [← Ny725.out] at ho34)); replace HO_1 := am (Kd.V_elder' (kv HO_1) (Kd.N_base ho34) hb); replace HO_2 := am (Kd.V_elder' (kv HO_2) (Kd.N_base ho34) hb); have HO727 := am (Kd.N_lower ho34 (below_size (bl HB))); replace HB := bs HB hb; clear hb ho34; obtain ⟨Ao35, co35, eo35⟩ := Kd.N_slice HO727.out; subst eo35) | (go_at_call 52; (with_reducible refine (size_CheckAll.calls kj20 _ _ l0 _ _ y725 t728 _ ?s1 ?s2 ?s3 ?s4 ?s5 A26.out).mono ?_); (case s1 => exact gb HG0 HB); (case s2 => exact cb HR0 HB); (case s3 => exact HC0.out); (case s4 => repeat (first | exact (Kd.N_reads' HO727.out).2.2 | (with_reducible refine Kd.C_alloc ?_ _) | (with_reducible refine Kd.C_drewN ?_ _) | (with_reducible refine Kd.C_drew ?_))); (case s5 => exact (Kd.N_reads' HO727.out).2.1); rintro e w36 ⟨rfl, hb⟩; replace HO_1 := am (Kd.V_below (kv HO_1) hb); replace HO_2 := am (Kd.V_below (kv HO_2) hb); replace HO727 := am (Kd.N_below (by (with_reducible repeat (first | apply Kd.N_alloc | apply Kd.N_drewN | apply Kd.N_drew)); exact HO727.out) hb); replace HB := bs HB hb; (try clear hb)) | (go_at_call 53; (with_reducible refine (size_Equal.calls kj20 _ _ l1 _ _ l2 t729 _ ?s1 ?s2 ?s3 ?s4 A28.out).mono ?_); (case s1 => exact cv HO_1); (case s2 => exact (Kd.V_reads' HO_1.out).2.1); (case s3 => exact cv HO_2); (case s4 => exact (Kd.V_reads' HO_2.out).2.1); rintro e w' ⟨rfl, ⟨nd, rfl⟩⟩) | (go_at_call 20; (with_reducible refine (schismalaw13_equal.calls kj20 _ _ l1 _ _ l2 t730 _ ?s1 ?s2 ?s3 ?s4 A29.out).mono ?_); (case s1 => exact cv HO_1); (case s2 => exact (Kd.V_reads' HO_1.out).2.1); (case s3 => exact cv HO_2); (case s4 => exact (Kd.V_reads' HO_2.out).2.1); rintro e w' ⟨rfl, ⟨nd, rfl⟩⟩) | (go_at_call 53; (with_reducible refine (size_Equal.calls kj20 _ _ l1 _ _ l1 t731 _ ?s1 ?s2 ?s3 ?s4 A31.out).mono ?_); (case s1 => exact cv HO_1); (case s2 => exact (Kd.V_reads' HO_1.out).2.1); (case s3 => exact cv HO_1); (case s4 => exact (Kd.V_reads' HO_1.out).2.1); rintro e w' ⟨rfl, ⟨nd, rfl⟩⟩))
         go_meet
         case rel => exact ⟨_, (!t731), rs, H', ⟨by have := HJ3.out; have := HJ15.out; have := HJ20.out; first | omega | exact Nat.le_refl _⟩, ⟨by (with_reducible repeat (first | apply Kd.V_alloc | apply Kd.V_drewN | apply Kd.V_drew)); exact Kd.V_mono HO_1.out (fun _ hk => hk.1)⟩, ⟨by (with_reducible repeat (first | apply Kd.V_alloc | apply Kd.V_drewN | apply Kd.V_drew)); exact Kd.V_mono HO_2.out (fun _ hk => hk.1)⟩, ⟨bl HB⟩⟩
        case rest => as_aux_lemma =>
         clear HC23
         try clear c1
         try clear c2
         try clear p2
         try clear c3
         try clear c5
         try clear c6
         try clear c8
         try clear c11
         try clear c12
         try clear c13
         try clear c22
         try clear c22b0
         try clear c22b1
         try clear c25
         try clear c25b0
         try clear c25b1
         try clear c27
         try clear c27b0
         try clear c27b1
         try clear c30
         try clear c30b0
         try clear c30b1
         try clear c30b2
         try clear p2
         obtain ⟨kq, x78_22, rfl, HA, HJ22, HO_1, HO_2, HB⟩ := hcut
         cases kq with
         | zero => exact absurd HA.out (by simp [schismalaw13_SizeChecks.j3])
         | succ kj22 =>
          have H := HA.out
          clear HA
          simp only [schismalaw13_SizeChecks.j3] at H
          by_cases c37 : x78_22 = true
          ·subst c37
           rw [if_pos rfl] at H
           cases H
          ·replace c37 := Bool.eq_false_iff.mpr c37
           subst c37
           rw [if_neg (show ¬ (false = true) by decide)] at H
           by_cases c38 : x8_20 = 0
           ·rw [if_pos c38] at H
            have c38b0 := beq_iff_eq.mpr c38
            have c38b1 := bne_eq_false_iff_eq.mpr c38
            clear c38
            obtain rfl := Option.some.inj H
            go_wp2
            go_ret
            exact ⟨rl, bl HB⟩
           ·rw [if_neg c38] at H
            have c38b0 := beq_eq_false_iff_ne.mpr c38
            have c38b1 := bne_iff_ne.mpr c38
            obtain ⟨⟨t732, t735⟩, A39, H⟩ := bo H
            try dsimp only at H
            obtain ⟨⟨t736, t739⟩, A40, H⟩ := bo H
            try dsimp only at H
            have HC41 := am H
            clear H
            go_upto_region 12 with (first | ((with_reducible refine gc (f := 22) rfl ?_); refine goesM (some 85) Tryz.func22 #[.slice A0 l0.length c0, .slice A1 l1.length c1, .slice A2 l2.length c2] ?_; (with_reducible refine (size_Add.calls kj22 _ _ l0 (fun k_ => ((P1_ k_ ∨ P2_ k_) ∨ w.heap.size ≤ k_)) _ _ l1 (fun k_ => ((P1_ k_ ∨ P2_ k_) ∨ w.heap.size ≤ k_)) _ _ l2 t732 t735 _ ?s1 ?s2 ?s3 ?s4 ?s5 A39.out).mono ?_); (case s1 => exact gb HG0 HB); (case s2 => exact cb HR0 HB); (case s3 => exact HC0.out); (case s4 => exact HO_1.out); (case s5 => exact HO_2.out); rintro e w42 ⟨v733, rfl, ho0, hb⟩; refine ⟨_, rfl, ?_⟩; replace HO_1 := am (Kd.V_elder' (kv HO_1) (Kd.R_base ho0) hb); replace HO_2 := am (Kd.V_elder' (kv HO_2) (Kd.R_base ho0) hb); have HO734 := am (Kd.R_lower (Kd.R_newM (M := fun k_ => (w.heap.size ≤ k_)) (Kd.R_mono (ok' := fun k_ => True) ho0 (fun _ hk_ => trivial)) (below_size (bl HB)) (fun k_ h_ => h_)) (below_size (bl HB))); replace HB := bs HB hb; (try clear hb); (try clear ho0)) | ((with_reducible refine gc (f := 26) rfl ?_); refine goesM (some 92) Tryz.func26 #[.slice A0 l0.length c0, .slice A1 l1.length c1, .slice A2 l2.length c2] ?_; (with_reducible refine (size_Sub.calls kj22 _ _ l0 (fun k_ => (((P1_ k_ ∨ P2_ k_) ∨ w.heap.size ≤ k_) ∧ some k_ ≠ (v733 : Value).ownBlock)) _ _ l1 (fun k_ => (((P1_ k_ ∨ P2_ k_) ∨ w.heap.size ≤ k_) ∧ some k_ ≠ (v733 : Value).ownBlock)) _ _ l2 t736 t739 _ ?s1 ?s2 ?s3 ?s4 ?s5 A40.out).mono ?_); (case s1 => exact gb HG0 HB); (case s2 => exact cb HR0 HB); (case s3 => exact HC0.out); (case s4 => exact HO_1.out); (case s5 => exact HO_2.out); rintro e w43 ⟨v737, rfl, ho0, hb⟩; refine ⟨_, rfl, ?_⟩; replace HO_1 := am (Kd.V_elder' (kv HO_1) (Kd.R_base ho0) hb); replace HO_2 := am (Kd.V_elder' (kv HO_2) (Kd.R_base ho0) hb); have HO738 := am (Kd.R_lower (Kd.R_new' (Kd.R_newM (M := fun k_ => (w.heap.size ≤ k_)) (Kd.R_mono (ok' := fun k_ => True) ho0 (fun _ hk_ => trivial)) (below_size (bl HB)) (fun k_ h_ => h_)) (Kd.R_lt (kr HO734))) (below_size (bl HB))); replace HO734 := am (Kd.R_elder' (kr HO734) (Kd.R_base ho0) hb); replace HB := bs HB hb; (try clear hb); (try clear ho0)))
            (try simp only [Act.put, List.setIfInBounds_toArray, List.set_cons_zero, List.set_cons_succ])
            go_cut [13, 14] (fun v13 v14 wc => ∃ (kq : Nat) (x13_40 : Int) (x14_40 : Int), v13 = .int .i64 x13_40 ∧ v14 = .int .i64 x14_40 ∧ Aside0 (schismalaw13_SizeChecks.j4 kq l0 l1 l2 x7_15 x8_20 t732 t735 t736 t739 x13_40 x14_40 = some r) ∧ Aside0 (kq ≤ kj22) ∧ Aside0 (Kd.V k30 30 wc w.heap.size (fun k_ => ((P1_ k_ ∨ P2_ k_) ∨ w.heap.size ≤ k_) ∧ some k_ ≠ (v733 : Value).ownBlock ∧ some k_ ≠ (v737 : Value).ownBlock) (.slice A1 l1.length c1) l1) ∧ Aside0 (Kd.V k30 30 wc w.heap.size (fun k_ => ((P1_ k_ ∨ P2_ k_) ∨ w.heap.size ≤ k_) ∧ some k_ ≠ (v733 : Value).ownBlock ∧ some k_ ≠ (v737 : Value).ownBlock) (.slice A2 l2.length c2) l2) ∧ Aside0 (Kd.R k30 30 wc w.heap.size (fun k_ => (w.heap.size ≤ k_) ∧ some k_ ≠ (v737 : Value).ownBlock) v733 t732) ∧ Aside0 (Kd.R k30 30 wc w.heap.size (fun k_ => (w.heap.size ≤ k_) ∧ some k_ ≠ (v733 : Value).ownBlock) v737 t736) ∧ Aside0 (Below w.heap.size w wc))
            case first => as_aux_lemma =>
             have H := HC41.out
             clear HC41
             obtain ⟨⟨t740, t741⟩, A44, H⟩ := bo H
             try dsimp only at H
             have H' := am H
             clear H
             go_wp2_with (first | ((with_reducible refine gc (f := 21) rfl ?_); refine goesM (some 99) Tryz.func21 #[.slice A0 l0.length c0, .slice A1 l1.length c1, .slice A2 l2.length c2] ?_; (with_reducible refine (size_Compare.calls kj22 _ _ l0 (fun k_ => ((((P1_ k_ ∨ P2_ k_) ∨ w.heap.size ≤ k_) ∧ some k_ ≠ (v733 : Value).ownBlock) ∧ some k_ ≠ (v737 : Value).ownBlock)) _ _ l1 (fun k_ => ((((P1_ k_ ∨ P2_ k_) ∨ w.heap.size ≤ k_) ∧ some k_ ≠ (v733 : Value).ownBlock) ∧ some k_ ≠ (v737 : Value).ownBlock)) _ _ l2 t740 t741 _ ?s1 ?s2 ?s3 ?s4 ?s5 A44.out).mono ?_); (case s1 => exact gb HG0 HB); (case s2 => exact cb HR0 HB); (case s3 => exact HC0.out); (case s4 => exact HO_1.out); (case s5 => exact HO_2.out); rintro e w45 ⟨rfl, hb⟩; refine ⟨_, rfl, ?_⟩; replace HO_1 := am (Kd.V_below (kv HO_1) hb); replace HO_2 := am (Kd.V_below (kv HO_2) hb); replace HO734 := rb HO734 hb; replace HO738 := rb HO738 hb; replace HB := bs HB hb; (try clear hb)))
             go_meet
             case rel => exact ⟨_, (t740), (t741), rs, rs, H', ⟨by have := HJ3.out; have := HJ15.out; have := HJ20.out; have := HJ22.out; first | omega | exact Nat.le_refl _⟩, ⟨by (with_reducible repeat (first | apply Kd.V_alloc | apply Kd.V_drewN | apply Kd.V_drew)); exact Kd.V_mono HO_1.out (fun _ hk => ⟨hk.1.1, ⟨hk.1.2, hk.2⟩⟩)⟩, ⟨by (with_reducible repeat (first | apply Kd.V_alloc | apply Kd.V_drewN | apply Kd.V_drew)); exact Kd.V_mono HO_2.out (fun _ hk => ⟨hk.1.1, ⟨hk.1.2, hk.2⟩⟩)⟩, ⟨by (with_reducible repeat (first | apply Kd.R_alloc | apply Kd.R_drewN | apply Kd.R_drew)); exact Kd.R_mono HO734.out (fun _ hk => ⟨hk.1.1, hk.2⟩)⟩, ⟨by (with_reducible repeat (first | apply Kd.R_alloc | apply Kd.R_drewN | apply Kd.R_drew)); exact Kd.R_mono HO738.out (fun _ hk => ⟨hk.1.1, hk.2⟩)⟩, ⟨bl HB⟩⟩
            case rest => as_aux_lemma =>
             clear HC41
             try clear c1
             try clear c2
             try clear p2
             try clear c3
             try clear c5
             try clear c6
             try clear c8
             try clear c11
             try clear c12
             try clear c13
             try clear c21
             try clear c22
             try clear c22b0
             try clear c22b1
             try clear c25
             try clear c25b0
             try clear c25b1
             try clear c26
             try clear c27
             try clear c27b0
             try clear c27b1
             try clear c30
             try clear c30b0
             try clear c30b1
             try clear c30b2
             try clear c37
             try clear c38
             try clear c38b0
             try clear c38b1
             try clear p2
             obtain ⟨kq, x13_40, x14_40, rfl, rfl, HA, HJ40, HO_1, HO_2, HO_9, HO_11, HB⟩ := hcut
             cases kq with
             | zero => exact absurd HA.out (by simp [schismalaw13_SizeChecks.j4])
             | succ kj40 =>
              have H := HA.out
              clear HA
              simp only [schismalaw13_SizeChecks.j4] at H
              obtain ⟨⟨t742, t743⟩, A46, H⟩ := bo H
              try dsimp only at H
              obtain ⟨⟨t744, t745⟩, A47, H⟩ := bo H
              try dsimp only at H
              have HC48 := am H
              clear H
              go_upto_region 15 with (first | ((with_reducible refine gc (f := 30) rfl ?_); refine goesM (some 106) Tryz.func30 #[.slice A0 l0.length c0, .slice A1 l1.length c1, .slice A2 l2.length c2] ?_; (with_reducible refine (size_Floor.calls kj40 _ _ l0 _ _ l1 _ _ l2 t742 t743 _ ?s1 ?s2 ?s3 ?s4 ?s5 ?s6 ?s7 A46.out).mono ?_); (case s1 => exact gb HG0 HB); (case s2 => exact cb HR0 HB); (case s3 => exact HC0.out); (case s4 => exact cv HO_1); (case s5 => exact (Kd.V_reads' HO_1.out).2.1); (case s6 => exact cv HO_2); (case s7 => exact (Kd.V_reads' HO_2.out).2.1); rintro e w49 ⟨rfl, hb⟩; refine ⟨_, rfl, ?_⟩; replace HO_1 := am (Kd.V_below (kv HO_1) hb); replace HO_2 := am (Kd.V_below (kv HO_2) hb); replace HO_9 := rb HO_9 hb; replace HO_11 := rb HO_11 hb; replace HB := bs HB hb; (try clear hb)) | ((with_reducible refine gc (f := 31) rfl ?_); refine goesM (some 113) Tryz.func31 #[.slice A0 l0.length c0, .slice A1 l1.length c1, .slice A2 l2.length c2] ?_; (with_reducible refine (size_Round.calls kj40 _ _ l0 (fun k_ => (((P1_ k_ ∨ P2_ k_) ∨ w.heap.size ≤ k_) ∧ (some k_ ≠ (v733 : Value).ownBlock ∧ some k_ ≠ (v737 : Value).ownBlock))) _ _ l1 (fun k_ => (((P1_ k_ ∨ P2_ k_) ∨ w.heap.size ≤ k_) ∧ (some k_ ≠ (v733 : Value).ownBlock ∧ some k_ ≠ (v737 : Value).ownBlock))) _ _ l2 t744 t745 _ ?s1 ?s2 ?s3 ?s4 ?s5 A47.out).mono ?_); (case s1 => exact gb HG0 HB); (case s2 => exact cb HR0 HB); (case s3 => exact HC0.out); (case s4 => exact HO_1.out); (case s5 => exact HO_2.out); rintro e w50 ⟨rfl, hb⟩; refine ⟨_, rfl, ?_⟩; replace HO_1 := am (Kd.V_below (kv HO_1) hb); replace HO_2 := am (Kd.V_below (kv HO_2) hb); replace HO_9 := rb HO_9 hb; replace HO_11 := rb HO_11 hb; replace HB := bs HB hb; (try clear hb)))
              (try simp only [Act.put, List.setIfInBounds_toArray, List.set_cons_zero, List.set_cons_succ])
              go_cut [19, 20] (fun v19 v20 wc => ∃ (kq : Nat) (x19_47 : List (S30)) (x20_47 : Int), v20 = .int .i64 x20_47 ∧ Aside0 (schismalaw13_SizeChecks.j5 kq l0 l1 l2 x7_15 x8_20 t732 t735 t736 t739 x13_40 x14_40 t742 t743 t744 t745 x19_47 x20_47 = some r) ∧ Aside0 (kq ≤ kj40) ∧ Aside0 (Kd.V k30 30 wc w.heap.size (fun k_ => ((P1_ k_ ∨ P2_ k_) ∨ w.heap.size ≤ k_) ∧ some k_ ≠ (v733 : Value).ownBlock ∧ some k_ ≠ (v737 : Value).ownBlock ∧ some k_ ≠ (v19 : Value).ownBlock) (.slice A1 l1.length c1) l1) ∧ Aside0 (Kd.V k30 30 wc w.heap.size (fun k_ => ((P1_ k_ ∨ P2_ k_) ∨ w.heap.size ≤ k_) ∧ some k_ ≠ (v733 : Value).ownBlock ∧ some k_ ≠ (v737 : Value).ownBlock ∧ some k_ ≠ (v19 : Value).ownBlock) (.slice A2 l2.length c2) l2) ∧ Aside0 (Kd.R k30 30 wc w.heap.size (fun k_ => (w.heap.size ≤ k_) ∧ some k_ ≠ (v737 : Value).ownBlock ∧ some k_ ≠ (v19 : Value).ownBlock) v733 t732) ∧ Aside0 (Kd.R k30 30 wc w.heap.size (fun k_ => (w.heap.size ≤ k_) ∧ some k_ ≠ (v733 : Value).ownBlock ∧ some k_ ≠ (v19 : Value).ownBlock) v737 t736) ∧ Aside0 (Kd.R k30 30 wc w.heap.size (fun k_ => (w.heap.size ≤ k_) ∧ some k_ ≠ (v733 : Value).ownBlock ∧ some k_ ≠ (v737 : Value).ownBlock) v19 x19_47) ∧ Aside0 (Below w.heap.size w wc))
              case first => as_aux_lemma =>
               have H := HC48.out
               clear HC48
               obtain ⟨⟨t746, t747⟩, A51, H⟩ := bo H
               try dsimp only at H
               have H' := am H
               clear H
               go_wp2_with (first | ((with_reducible refine gc (f := 32) rfl ?_); refine goesM (some 120) Tryz.func32 #[.slice A0 l0.length c0, .slice A1 l1.length c1, .slice A2 l2.length c2] ?_; (with_reducible refine (size_Remainder.calls kj40 _ _ l0 _ _ l1 _ _ l2 t746 t747 _ ?s1 ?s2 ?s3 ?s4 ?s5 ?s6 ?s7 A51.out).mono ?_); (case s1 => exact gb HG0 HB); (case s2 => exact cb HR0 HB); (case s3 => exact HC0.out); (case s4 => exact cv HO_1); (case s5 => exact (Kd.V_reads' HO_1.out).2.1); (case s6 => exact cv HO_2); (case s7 => exact (Kd.V_reads' HO_2.out).2.1); rintro e w52 ⟨v748, rfl, ho0, hb⟩; refine ⟨_, rfl, ?_⟩; replace HO_1 := am (Kd.V_elder' (kv HO_1) (Kd.R_base ho0) hb); replace HO_2 := am (Kd.V_elder' (kv HO_2) (Kd.R_base ho0) hb); have HO749 := am (Kd.R_lower (Kd.R_new' (Kd.R_new' (Kd.R_newM (M := fun k_ => (w.heap.size ≤ k_)) ho0 (below_size (bl HB)) (fun k_ h_ => h_)) (Kd.R_lt (kr HO_9))) (Kd.R_lt (kr HO_11))) (below_size (bl HB))); replace HO_9 := am (Kd.R_elder' (kr HO_9) (Kd.R_base ho0) hb); replace HO_11 := am (Kd.R_elder' (kr HO_11) (Kd.R_base ho0) hb); replace HB := bs HB hb; (try clear hb); (try clear ho0)))
               go_meet
               case rel => exact ⟨_, (t746), (t747), rs, H', ⟨by have := HJ3.out; have := HJ15.out; have := HJ20.out; have := HJ22.out; have := HJ40.out; first | omega | exact Nat.le_refl _⟩, ⟨by (with_reducible repeat (first | apply Kd.V_alloc | apply Kd.V_drewN | apply Kd.V_drew)); exact Kd.V_mono HO_1.out (fun _ hk => ⟨hk.1.1, ⟨hk.1.2.1, ⟨hk.1.2.2, hk.2⟩⟩⟩)⟩, ⟨by (with_reducible repeat (first | apply Kd.V_alloc | apply Kd.V_drewN | apply Kd.V_drew)); exact Kd.V_mono HO_2.out (fun _ hk => ⟨hk.1.1, ⟨hk.1.2.1, ⟨hk.1.2.2, hk.2⟩⟩⟩)⟩, ⟨by (with_reducible repeat (first | apply Kd.R_alloc | apply Kd.R_drewN | apply Kd.R_drew)); exact Kd.R_mono HO_9.out (fun _ hk => ⟨hk.1.1, ⟨hk.1.2, hk.2⟩⟩)⟩, ⟨by (with_reducible repeat (first | apply Kd.R_alloc | apply Kd.R_drewN | apply Kd.R_drew)); exact Kd.R_mono HO_11.out (fun _ hk => ⟨hk.1.1, ⟨hk.1.2, hk.2⟩⟩)⟩, ⟨by (with_reducible repeat (first | apply Kd.R_alloc | apply Kd.R_drewN | apply Kd.R_drew)); exact Kd.R_mono HO749.out (fun _ hk => ⟨hk.1.1.1, ⟨hk.1.2, hk.2⟩⟩)⟩, ⟨bl HB⟩⟩
              case rest => as_aux_lemma =>
               clear HC48
               try clear c1
               try clear c2
               try clear p2
               try clear c3
               try clear c5
               try clear c6
               try clear c8
               try clear c11
               try clear c12
               try clear c13
               try clear c21
               try clear c22
               try clear c22b0
               try clear c22b1
               try clear c25
               try clear c25b0
               try clear c25b1
               try clear c26
               try clear c27
               try clear c27b0
               try clear c27b1
               try clear c30
               try clear c30b0
               try clear c30b1
               try clear c30b2
               try clear c31
               try clear c32
               try clear c37
               try clear c38
               try clear c38b0
               try clear c38b1
               try clear c50
               try clear c51
               try clear p2
               obtain ⟨kq, x19_47, x20_47, rfl, HA, HJ47, HO_1, HO_2, HO_9, HO_11, HO_19, HB⟩ := hcut
               cases kq with
               | zero => exact absurd HA.out (by simp [schismalaw13_SizeChecks.j5])
               | succ kj47 =>
                have H := HA.out
                clear HA
                simp only [schismalaw13_SizeChecks.j5] at H
                obtain ⟨y750, hy750⟩ : ∃ y_ : List (List (S30)), y_ = (([l1, l2] : List (List (S30)))) := ⟨_, rfl⟩
                first | rw [Option.bind_some, ← hy750] at H | rw [← hy750] at H | rw [Ny725.out.trans hy750.symm] at H
                have Ny750 := am hy750
                clear hy750
                obtain ⟨⟨t753, t754⟩, A53, H⟩ := bo H
                try dsimp only at H
                obtain ⟨y757, hy757⟩ : ∃ y_ : List (List (S30)), y_ = (([l1, l2] : List (List (S30)))) := ⟨_, rfl⟩
                first | rw [Option.bind_some, ← hy757] at H | rw [← hy757] at H | rw [Ny750.out.trans hy757.symm] at H
                have Ny757 := am hy757
                clear hy757
                obtain ⟨⟨t760, t761⟩, A54, H⟩ := bo H
                try dsimp only at H
                by_cases c55 : (wrap64 ((wrap64 ((wrap64 ((wrap64 ((t732.length : Int) + (t736.length : Int))) + (x19_47.length : Int))) + (t753.length : Int))) + (t760.length : Int))) > 0
                case pos => rw [if_pos c55] at H; cases H
                rw [if_neg c55] at H
                have c55b0 : decide (0 < (wrap64 ((wrap64 ((wrap64 ((wrap64 ((t732.length : Int) + (t736.length : Int))) + (x19_47.length : Int))) + (t753.length : Int))) + (t760.length : Int)))) = false := decide_eq_false c55
                clear c55
                by_cases c56 : x13_40 = 0
                case neg => rw [if_neg c56] at H; cases H
                rw [if_pos c56] at H
                have c56b0 := beq_iff_eq.mpr c56
                have c56b1 := bne_eq_false_iff_eq.mpr c56
                clear c56
                by_cases c57 : t742.toList = ([] : List UInt8)
                case neg => rw [if_neg c57] at H; cases H
                rw [if_pos c57] at H
                have c57b0 : t742.toList.isEmpty = true := by simpa using c57
                have c57b1 : (!t742.toList.isEmpty) = false := by simpa using c57
                have c57b2 := beq_iff_eq.mpr c57
                clear c57
                by_cases c58 : t744.toList = ([] : List UInt8)
                case neg => rw [if_neg c58] at H; cases H
                rw [if_pos c58] at H
                have c58b0 : t744.toList.isEmpty = true := by simpa using c58
                have c58b1 : (!t744.toList.isEmpty) = false := by simpa using c58
                have c58b2 := beq_iff_eq.mpr c58
                clear c58
                by_cases c59 : t735 = x8_20
                case neg => rw [if_neg c59] at H; cases H
                rw [if_pos c59] at H
                have c59b0 := beq_iff_eq.mpr c59
                have c59b1 := bne_eq_false_iff_eq.mpr c59
                clear c59
                by_cases c60 : t739 = x8_20
                case neg => rw [if_neg c60] at H; cases H
                rw [if_pos c60] at H
                have c60b0 := beq_iff_eq.mpr c60
                have c60b1 := bne_eq_false_iff_eq.mpr c60
                clear c60
                by_cases c61 : x14_40 = x8_20
                case neg => rw [if_neg c61] at H; cases H
                rw [if_pos c61] at H
                have c61b0 := beq_iff_eq.mpr c61
                have c61b1 := bne_eq_false_iff_eq.mpr c61
                clear c61
                by_cases c62 : t743 = x8_20
                case neg => rw [if_neg c62] at H; cases H
                rw [if_pos c62] at H
                have c62b0 := beq_iff_eq.mpr c62
                have c62b1 := bne_eq_false_iff_eq.mpr c62
                clear c62
                by_cases c63 : t745 = x8_20
                case neg => rw [if_neg c63] at H; cases H
                rw [if_pos c63] at H
                have c63b0 := beq_iff_eq.mpr c63
                have c63b1 := bne_eq_false_iff_eq.mpr c63
                clear c63
                by_cases c64 : x20_47 = x8_20
                case neg => rw [if_neg c64] at H; cases H
                rw [if_pos c64] at H
                have c64b0 := beq_iff_eq.mpr c64
                have c64b1 := bne_eq_false_iff_eq.mpr c64
                clear c64
                by_cases c65 : t754 = x8_20
                case neg => rw [if_neg c65] at H; cases H
                rw [if_pos c65] at H
                have c65b0 := beq_iff_eq.mpr c65
                have c65b1 := bne_eq_false_iff_eq.mpr c65
                clear c65
                by_cases c66 : t761 = x8_20
                case neg => rw [if_neg c66] at H; cases H
                rw [if_pos c66] at H
                have c66b0 := beq_iff_eq.mpr c66
                have c66b1 := bne_eq_false_iff_eq.mpr c66
                clear c66
                by_cases c67 : x7_15 = 0
                ·rw [if_pos c67] at H
                 have c67b0 := beq_iff_eq.mpr c67
                 have c67b1 := bne_eq_false_iff_eq.mpr c67
                 clear c67
                 obtain rfl := Option.some.inj H
                 go_wp2_with (first | ((with_reducible refine gd (N := 127) rfl ?_); (try (refine gate_guard (by rfl) ?_; dsimp only)); refine Kd.N_lit (Kd.slice 30 k30) _ 34 ?hg (N' := 127) ?hd (xs := ([l1, l2] : List (List (S30)))) (inner := [.slice A1 l1.length c1, .slice A2 l2.length c2]) (ok := (fun k_ => ((P1_ k_ ∨ P2_ k_) ∨ w.heap.size ≤ k_) ∧ some k_ ≠ (v733 : Value).ownBlock ∧ some k_ ≠ (v737 : Value).ownBlock ∧ some k_ ≠ (u19 : Value).ownBlock)) (okp := (fun k_ => ((P1_ k_ ∨ P2_ k_) ∨ w.heap.size ≤ k_) ∧ some k_ ≠ (v733 : Value).ownBlock ∧ some k_ ≠ (v737 : Value).ownBlock ∧ some k_ ≠ (u19 : Value).ownBlock)) ?hr ?hp (fun _ hk => hk) ((show ∀ k_, wc.heap.size ≤ k_ → (fun k_ => ((P1_ k_ ∨ P2_ k_) ∨ w.heap.size ≤ k_) ∧ some k_ ≠ (v733 : Value).ownBlock ∧ some k_ ≠ (v737 : Value).ownBlock ∧ some k_ ≠ (u19 : Value).ownBlock) k_ from fun k_ hk => ⟨(.inr (Nat.le_trans (below_size (bl HB)) hk)), Kd.fresh' (Kd.R_lt (kr HO_9)) k_ hk, Kd.fresh' (Kd.R_lt (kr HO_11)) k_ hk, Kd.fresh' (Kd.R_lt (kr HO_19)) k_ hk⟩) _ (Nat.le_refl _)) (Below.refl _ _) (Nat.le_refl _) (by simp) ?_; (case hd => rfl); (case hg => rfl); (case hr => first | (go_simp; done) | (go_simp; rfl)); (case hp => exact (Reps.one (show Kd.FK (Kd.slice 30 k30) _ _ l1 [.slice A1 l1.length c1] from (Kd.FK_slice_mk (Kd.V_reads' (Kd.V_mono (ok' := (fun k_ => ((P1_ k_ ∨ P2_ k_) ∨ w.heap.size ≤ k_) ∧ some k_ ≠ (v733 : Value).ownBlock ∧ some k_ ≠ (v737 : Value).ownBlock ∧ some k_ ≠ (u19 : Value).ownBlock)) (HO_1.out) (fun k_ hk => ⟨hk.1, ⟨hk.2.1, ⟨hk.2.2.1, hk.2.2.2⟩⟩⟩))).2.1 (Kd.V_F (Kd.V_mono (ok' := (fun k_ => ((P1_ k_ ∨ P2_ k_) ∨ w.heap.size ≤ k_) ∧ some k_ ≠ (v733 : Value).ownBlock ∧ some k_ ≠ (v737 : Value).ownBlock ∧ some k_ ≠ (u19 : Value).ownBlock)) (HO_1.out) (fun k_ hk => ⟨hk.1, ⟨hk.2.1, ⟨hk.2.2.1, hk.2.2.2⟩⟩⟩))))) (Reps.one (show Kd.FK (Kd.slice 30 k30) _ _ l2 [.slice A2 l2.length c2] from (Kd.FK_slice_mk (Kd.V_reads' (Kd.V_mono (ok' := (fun k_ => ((P1_ k_ ∨ P2_ k_) ∨ w.heap.size ≤ k_) ∧ some k_ ≠ (v733 : Value).ownBlock ∧ some k_ ≠ (v737 : Value).ownBlock ∧ some k_ ≠ (u19 : Value).ownBlock)) (HO_2.out) (fun k_ hk => ⟨hk.1, ⟨hk.2.1, ⟨hk.2.2.1, hk.2.2.2⟩⟩⟩))).2.1 (Kd.V_F (Kd.V_mono (ok' := (fun k_ => ((P1_ k_ ∨ P2_ k_) ∨ w.heap.size ≤ k_) ∧ some k_ ≠ (v733 : Value).ownBlock ∧ some k_ ≠ (v737 : Value).ownBlock ∧ some k_ ≠ (u19 : Value).ownBlock)) (HO_2.out) (fun k_ hk => ⟨hk.1, ⟨hk.2.1, ⟨hk.2.2.1, hk.2.2.2⟩⟩⟩))))) (Reps.none _ _)))); intro v751 w68 ho69 hb hg_ hnew_; clear hg_ hnew_; (first | rw [← Ny750.out] at ho69 | (simp only [Int.reduceToNat] at ho69; rw [← Ny750.out] at ho69)); replace HO_1 := am (Kd.V_elder' (kv HO_1) (Kd.N_base ho69) hb); replace HO_2 := am (Kd.V_elder' (kv HO_2) (Kd.N_base ho69) hb); replace HO_9 := rb HO_9 hb; replace HO_11 := rb HO_11 hb; replace HO_19 := rb HO_19 hb; have HO752 := am (Kd.N_lower ho69 (below_size (bl HB))); replace HB := bs HB hb; clear hb ho69; obtain ⟨Ao70, co70, eo70⟩ := Kd.N_slice HO752.out; subst eo70) | ((with_reducible refine gc (f := 47) rfl ?_); refine goesM (some 128) Tryz.func47 #[.slice A0 l0.length c0, .slice Ao70 y750.length co70] ?_; (with_reducible refine (sSort.calls kj47 _ _ l0 _ _ y750 t753 t754 _ ?s1 ?s2 ?s3 ?s4 ?s5 A53.out).mono ?_); (case s1 => exact gb HG0 HB); (case s2 => exact cb HR0 HB); (case s3 => exact HC0.out); (case s4 => repeat (first | exact (Kd.N_reads' HO752.out).2.2 | (with_reducible refine Kd.C_alloc ?_ _) | (with_reducible refine Kd.C_drewN ?_ _) | (with_reducible refine Kd.C_drew ?_))); (case s5 => exact (Kd.N_reads' HO752.out).2.1); rintro e w71 ⟨v755, rfl, ho0, hb⟩; refine ⟨_, rfl, ?_⟩; replace HO_1 := am (Kd.V_elder' (kv HO_1) (Kd.R_base ho0) hb); replace HO_2 := am (Kd.V_elder' (kv HO_2) (Kd.R_base ho0) hb); replace HO_9 := rb HO_9 hb; replace HO_11 := rb HO_11 hb; replace HO_19 := rb HO_19 hb; replace HO752 := am (Kd.N_elder' (by (with_reducible repeat (first | apply Kd.N_alloc | apply Kd.N_drewN | apply Kd.N_drew)); exact HO752.out) (Kd.R_base ho0) hb); have HO756 := am (Kd.R_lower (Kd.R_newM (M := fun k_ => (w.heap.size ≤ k_)) ho0 (below_size (bl HB)) (fun k_ h_ => h_)) (below_size (bl HB))); replace HB := bs HB hb; (try clear hb); (try clear ho0)) | ((with_reducible refine gd (N := 135) rfl ?_); (try (refine gate_guard (by rfl) ?_; dsimp only)); refine Kd.N_lit (Kd.slice 30 k30) _ 34 ?hg (N' := 135) ?hd (xs := ([l1, l2] : List (List (S30)))) (inner := [.slice A1 l1.length c1, .slice A2 l2.length c2]) (ok := (fun k_ => ((P1_ k_ ∨ P2_ k_) ∨ w.heap.size ≤ k_) ∧ some k_ ≠ (v733 : Value).ownBlock ∧ some k_ ≠ (v737 : Value).ownBlock ∧ some k_ ≠ (u19 : Value).ownBlock ∧ some k_ ≠ (.slice Ao70 y750.length co70 : Value).ownBlock ∧ some k_ ≠ (v755 : Value).ownBlock)) (okp := (fun k_ => ((P1_ k_ ∨ P2_ k_) ∨ w.heap.size ≤ k_) ∧ some k_ ≠ (v733 : Value).ownBlock ∧ some k_ ≠ (v737 : Value).ownBlock ∧ some k_ ≠ (u19 : Value).ownBlock ∧ some k_ ≠ (.slice Ao70 y750.length co70 : Value).ownBlock ∧ some k_ ≠ (v755 : Value).ownBlock)) ?hr ?hp (fun _ hk => hk) ((show ∀ k_, w71.heap.size ≤ k_ → (fun k_ => ((P1_ k_ ∨ P2_ k_) ∨ w.heap.size ≤ k_) ∧ some k_ ≠ (v733 : Value).ownBlock ∧ some k_ ≠ (v737 : Value).ownBlock ∧ some k_ ≠ (u19 : Value).ownBlock ∧ some k_ ≠ (.slice Ao70 y750.length co70 : Value).ownBlock ∧ some k_ ≠ (v755 : Value).ownBlock) k_ from fun k_ hk => ⟨(.inr (Nat.le_trans (below_size (bl HB)) hk)), Kd.fresh' (Kd.R_lt (kr HO_9)) k_ hk, Kd.fresh' (Kd.R_lt (kr HO_11)) k_ hk, Kd.fresh' (Kd.R_lt (kr HO_19)) k_ hk, Kd.fresh' (Kd.N_lt (by (with_reducible repeat (first | apply Kd.N_alloc | apply Kd.N_drewN | apply Kd.N_drew)); exact HO752.out)) k_ hk, Kd.fresh' (Kd.R_lt (kr HO756)) k_ hk⟩) _ (Nat.le_refl _)) (Below.refl _ _) (Nat.le_refl _) (by simp) ?_; (case hd => rfl); (case hg => rfl); (case hr => first | (go_simp; done) | (go_simp; rfl)); (case hp => exact (Reps.one (show Kd.FK (Kd.slice 30 k30) _ _ l1 [.slice A1 l1.length c1] from (Kd.FK_slice_mk (Kd.V_reads' (Kd.V_mono (ok' := (fun k_ => ((P1_ k_ ∨ P2_ k_) ∨ w.heap.size ≤ k_) ∧ some k_ ≠ (v733 : Value).ownBlock ∧ some k_ ≠ (v737 : Value).ownBlock ∧ some k_ ≠ (u19 : Value).ownBlock ∧ some k_ ≠ (.slice Ao70 y750.length co70 : Value).ownBlock ∧ some k_ ≠ (v755 : Value).ownBlock)) (HO_1.out) (fun k_ hk => ⟨hk.1.1.1, ⟨hk.1.1.2.1, ⟨hk.1.1.2.2.1, ⟨hk.1.1.2.2.2, ⟨hk.1.2, hk.2⟩⟩⟩⟩⟩))).2.1 (Kd.V_F (Kd.V_mono (ok' := (fun k_ => ((P1_ k_ ∨ P2_ k_) ∨ w.heap.size ≤ k_) ∧ some k_ ≠ (v733 : Value).ownBlock ∧ some k_ ≠ (v737 : Value).ownBlock ∧ some k_ ≠ (u19 : Value).ownBlock ∧ some k_ ≠ (.slice Ao70 y750.length co70 : Value).ownBlock ∧ some k_ ≠ (v755 : Value).ownBlock)) (HO_1.out) (fun k_ hk => ⟨hk.1.1.1, ⟨hk.1.1.2.1, ⟨hk.1.1.2.2.1, ⟨hk.1.1.2.2.2, ⟨hk.1.2, hk.2⟩⟩⟩⟩⟩))))) (Reps.one (show Kd.FK (Kd.slice 30 k30) _ _ l2 [.slice A2 l2.length c2] from (Kd.FK_slice_mk (Kd.V_reads' (Kd.V_mono (ok' := (fun k_ => ((P1_ k_ ∨ P2_ k_) ∨ w.heap.size ≤ k_) ∧ some k_ ≠ (v733 : Value).ownBlock ∧ some k_ ≠ (v737 : Value).ownBlock ∧ some k_ ≠ (u19 : Value).ownBlock ∧ some k_ ≠ (.slice Ao70 y750.length co70 : Value).ownBlock ∧ some k_ ≠ (v755 : Value).ownBlock)) (HO_2.out) (fun k_ hk => ⟨hk.1.1.1, ⟨hk.1.1.2.1, ⟨hk.1.1.2.2.1, ⟨hk.1.1.2.2.2, ⟨hk.1.2, hk.2⟩⟩⟩⟩⟩))).2.1 (Kd.V_F (Kd.V_mono (ok' := (fun k_ => ((P1_ k_ ∨ P2_ k_) ∨ w.heap.size ≤ k_) ∧ some k_ ≠ (v733 : Value).ownBlock ∧ some k_ ≠ (v737 : Value).ownBlock ∧ some k_ ≠ (u19 : Value).ownBlock ∧ some k_ ≠ (.slice Ao70 y750.length co70 : Value).ownBlock ∧ some k_ ≠ (v755 : Value).ownBlock)) (HO_2.out) (fun k_ hk => ⟨hk.1.1.1, ⟨hk.1.1.2.1, ⟨hk.1.1.2.2.1, ⟨hk.1.1.2.2.2, ⟨hk.1.2, hk.2⟩⟩⟩⟩⟩))))) (Reps.none _ _)))); intro v758 w72 ho73 hb hg_ hnew_; clear hg_ hnew_; (first | rw [← Ny757.out] at ho73 | (simp only [Int.reduceToNat] at ho73; rw [← Ny757.out] at ho73)); replace HO_1 := am (Kd.V_elder' (kv HO_1) (Kd.N_base ho73) hb); replace HO_2 := am (Kd.V_elder' (kv HO_2) (Kd.N_base ho73) hb); replace HO_9 := rb HO_9 hb; replace HO_11 := rb HO_11 hb; replace HO_19 := rb HO_19 hb; replace HO752 := am (Kd.N_elder' (by (with_reducible repeat (first | apply Kd.N_alloc | apply Kd.N_drewN | apply Kd.N_drew)); exact HO752.out) (Kd.N_base ho73) hb); replace HO756 := rb HO756 hb; have HO759 := am (Kd.N_lower ho73 (below_size (bl HB))); replace HB := bs HB hb; clear hb ho73; obtain ⟨Ao74, co74, eo74⟩ := Kd.N_slice HO759.out; subst eo74) | ((with_reducible refine gc (f := 16) rfl ?_); refine goesM (some 136) Tryz.func16 #[.slice A0 l0.length c0, .slice Ao74 y757.length co74, .slice none 0 0] ?_; (refine (size_Combine.calls kj47 _ _ l0 _ _ y757 _ _ ([] : List (S30)) t760 t761 _ ?s1 ?s2 ?s3 ?s4 ?s5 ?s6 ?s7 A54.out).mono ?_); (case s1 => exact gb HG0 HB); (case s2 => exact cb HR0 HB); (case s3 => exact HC0.out); (case s4 => repeat (first | exact (Kd.N_reads' HO759.out).2.2 | (with_reducible refine Kd.C_alloc ?_ _) | (with_reducible refine Kd.C_drewN ?_ _) | (with_reducible refine Kd.C_drew ?_))); (case s5 => exact (Kd.N_reads' HO759.out).2.1); (case s6 => exact Kd.C_nil _ _); (case s7 => exact Nat.le_refl _); rintro e w75 ⟨v762, rfl, ho0, hb⟩; refine ⟨_, rfl, ?_⟩; replace HO_1 := am (Kd.V_elder' (kv HO_1) (Kd.R_base ho0) hb); replace HO_2 := am (Kd.V_elder' (kv HO_2) (Kd.R_base ho0) hb); replace HO752 := am (Kd.N_elder' (by (with_reducible repeat (first | apply Kd.N_alloc | apply Kd.N_drewN | apply Kd.N_drew)); exact HO752.out) (Kd.R_base ho0) hb); replace HO756 := rb HO756 hb; replace HO759 := am (Kd.N_elder' (by (with_reducible repeat (first | apply Kd.N_alloc | apply Kd.N_drewN | apply Kd.N_drew)); exact HO759.out) (Kd.R_base ho0) hb); have HO763 := am (Kd.R_lower (Kd.R_new' (Kd.R_new' (Kd.R_new' (Kd.R_newM (M := fun k_ => (w.heap.size ≤ k_)) ho0 (below_size (bl HB)) (fun k_ h_ => h_)) (Kd.R_lt (kr HO_9))) (Kd.R_lt (kr HO_11))) (Kd.R_lt (kr HO_19))) (below_size (bl HB))); replace HO_9 := am (Kd.R_elder' (kr HO_9) (Kd.R_base ho0) hb); replace HO_11 := am (Kd.R_elder' (kr HO_11) (Kd.R_base ho0) hb); replace HO_19 := am (Kd.R_elder' (kr HO_19) (Kd.R_base ho0) hb); replace HB := bs HB hb; (try clear hb); (try clear ho0); obtain ⟨Ao76, co76, eo76⟩ := Kd.R_slice HO_9.out; subst eo76; obtain ⟨Ao77, co77, eo77⟩ := Kd.R_slice HO_11.out; subst eo77; obtain ⟨Ao78, co78, eo78⟩ := Kd.R_slice HO_19.out; subst eo78; obtain ⟨Ao79, co79, eo79⟩ := Kd.R_slice HO756.out; subst eo79; obtain ⟨Ao80, co80, eo80⟩ := Kd.R_slice HO763.out; subst eo80))
                 go_ret
                 exact ⟨rl, bl HB⟩
                ·rw [if_neg c67] at H
                 have c67b0 := beq_eq_false_iff_ne.mpr c67
                 have c67b1 := bne_iff_ne.mpr c67
                 have HC81 := am H
                 clear H
                 go_upto_region 22 with (first | ((with_reducible refine gd (N := 127) rfl ?_); (try (refine gate_guard (by rfl) ?_; dsimp only)); refine Kd.N_lit (Kd.slice 30 k30) _ 34 ?hg (N' := 127) ?hd (xs := ([l1, l2] : List (List (S30)))) (inner := [.slice A1 l1.length c1, .slice A2 l2.length c2]) (ok := (fun k_ => ((P1_ k_ ∨ P2_ k_) ∨ w.heap.size ≤ k_) ∧ some k_ ≠ (v733 : Value).ownBlock ∧ some k_ ≠ (v737 : Value).ownBlock ∧ some k_ ≠ (u19 : Value).ownBlock)) (okp := (fun k_ => ((P1_ k_ ∨ P2_ k_) ∨ w.heap.size ≤ k_) ∧ some k_ ≠ (v733 : Value).ownBlock ∧ some k_ ≠ (v737 : Value).ownBlock ∧ some k_ ≠ (u19 : Value).ownBlock)) ?hr ?hp (fun _ hk => hk) ((show ∀ k_, wc.heap.size ≤ k_ → (fun k_ => ((P1_ k_ ∨ P2_ k_) ∨ w.heap.size ≤ k_) ∧ some k_ ≠ (v733 : Value).ownBlock ∧ some k_ ≠ (v737 : Value).ownBlock ∧ some k_ ≠ (u19 : Value).ownBlock) k_ from fun k_ hk => ⟨(.inr (Nat.le_trans (below_size (bl HB)) hk)), Kd.fresh' (Kd.R_lt (kr HO_9)) k_ hk, Kd.fresh' (Kd.R_lt (kr HO_11)) k_ hk, Kd.fresh' (Kd.R_lt (kr HO_19)) k_ hk⟩) _ (Nat.le_refl _)) (Below.refl _ _) (Nat.le_refl _) (by simp) ?_; (case hd => rfl); (case hg => rfl); (case hr => first | (go_simp; done) | (go_simp; rfl)); (case hp => exact (Reps.one (show Kd.FK (Kd.slice 30 k30) _ _ l1 [.slice A1 l1.length c1] from (Kd.FK_slice_mk (Kd.V_reads' (Kd.V_mono (ok' := (fun k_ => ((P1_ k_ ∨ P2_ k_) ∨ w.heap.size ≤ k_) ∧ some k_ ≠ (v733 : Value).ownBlock ∧ some k_ ≠ (v737 : Value).ownBlock ∧ some k_ ≠ (u19 : Value).ownBlock)) (HO_1.out) (fun k_ hk => ⟨hk.1, ⟨hk.2.1, ⟨hk.2.2.1, hk.2.2.2⟩⟩⟩))).2.1 (Kd.V_F (Kd.V_mono (ok' := (fun k_ => ((P1_ k_ ∨ P2_ k_) ∨ w.heap.size ≤ k_) ∧ some k_ ≠ (v733 : Value).ownBlock ∧ some k_ ≠ (v737 : Value).ownBlock ∧ some k_ ≠ (u19 : Value).ownBlock)) (HO_1.out) (fun k_ hk => ⟨hk.1, ⟨hk.2.1, ⟨hk.2.2.1, hk.2.2.2⟩⟩⟩))))) (Reps.one (show Kd.FK (Kd.slice 30 k30) _ _ l2 [.slice A2 l2.length c2] from (Kd.FK_slice_mk (Kd.V_reads' (Kd.V_mono (ok' := (fun k_ => ((P1_ k_ ∨ P2_ k_) ∨ w.heap.size ≤ k_) ∧ some k_ ≠ (v733 : Value).ownBlock ∧ some k_ ≠ (v737 : Value).ownBlock ∧ some k_ ≠ (u19 : Value).ownBlock)) (HO_2.out) (fun k_ hk => ⟨hk.1, ⟨hk.2.1, ⟨hk.2.2.1, hk.2.2.2⟩⟩⟩))).2.1 (Kd.V_F (Kd.V_mono (ok' := (fun k_ => ((P1_ k_ ∨ P2_ k_) ∨ w.heap.size ≤ k_) ∧ some k_ ≠ (v733 : Value).ownBlock ∧ some k_ ≠ (v737 : Value).ownBlock ∧ some k_ ≠ (u19 : Value).ownBlock)) (HO_2.out) (fun k_ hk => ⟨hk.1, ⟨hk.2.1, ⟨hk.2.2.1, hk.2.2.2⟩⟩⟩))))) (Reps.none _ _)))); intro v751 w82 ho83 hb hg_ hnew_; clear hg_ hnew_; (first | rw [← Ny750.out] at ho83 | (simp only [Int.reduceToNat] at ho83; rw [← Ny750.out] at ho83)); replace HO_1 := am (Kd.V_elder' (kv HO_1) (Kd.N_base ho83) hb); replace HO_2 := am (Kd.V_elder' (kv HO_2) (Kd.N_base ho83) hb); replace HO_9 := rb HO_9 hb; replace HO_11 := rb HO_11 hb; replace HO_19 := rb HO_19 hb; have HO752 := am (Kd.N_lower ho83 (below_size (bl HB))); replace HB := bs HB hb; clear hb ho83; obtain ⟨Ao84, co84, eo84⟩ := Kd.N_slice HO752.out; subst eo84) | ((with_reducible refine gc (f := 47) rfl ?_); refine goesM (some 128) Tryz.func47 #[.slice A0 l0.length c0, .slice Ao84 y750.length co84] ?_; (with_reducible refine (sSort.calls kj47 _ _ l0 _ _ y750 t753 t754 _ ?s1 ?s2 ?s3 ?s4 ?s5 A53.out).mono ?_); (case s1 => exact gb HG0 HB); (case s2 => exact cb HR0 HB); (case s3 => exact HC0.out); (case s4 => repeat (first | exact (Kd.N_reads' HO752.out).2.2 | (with_reducible refine Kd.C_alloc ?_ _) | (with_reducible refine Kd.C_drewN ?_ _) | (with_reducible refine Kd.C_drew ?_))); (case s5 => exact (Kd.N_reads' HO752.out).2.1); rintro e w85 ⟨v755, rfl, ho0, hb⟩; refine ⟨_, rfl, ?_⟩; replace HO_1 := am (Kd.V_elder' (kv HO_1) (Kd.R_base ho0) hb); replace HO_2 := am (Kd.V_elder' (kv HO_2) (Kd.R_base ho0) hb); replace HO_9 := rb HO_9 hb; replace HO_11 := rb HO_11 hb; replace HO_19 := rb HO_19 hb; replace HO752 := am (Kd.N_elder' (by (with_reducible repeat (first | apply Kd.N_alloc | apply Kd.N_drewN | apply Kd.N_drew)); exact HO752.out) (Kd.R_base ho0) hb); have HO756 := am (Kd.R_lower (Kd.R_newM (M := fun k_ => (w.heap.size ≤ k_)) ho0 (below_size (bl HB)) (fun k_ h_ => h_)) (below_size (bl HB))); replace HB := bs HB hb; (try clear hb); (try clear ho0)) | ((with_reducible refine gd (N := 135) rfl ?_); (try (refine gate_guard (by rfl) ?_; dsimp only)); refine Kd.N_lit (Kd.slice 30 k30) _ 34 ?hg (N' := 135) ?hd (xs := ([l1, l2] : List (List (S30)))) (inner := [.slice A1 l1.length c1, .slice A2 l2.length c2]) (ok := (fun k_ => ((P1_ k_ ∨ P2_ k_) ∨ w.heap.size ≤ k_) ∧ some k_ ≠ (v733 : Value).ownBlock ∧ some k_ ≠ (v737 : Value).ownBlock ∧ some k_ ≠ (u19 : Value).ownBlock ∧ some k_ ≠ (.slice Ao84 y750.length co84 : Value).ownBlock ∧ some k_ ≠ (v755 : Value).ownBlock)) (okp := (fun k_ => ((P1_ k_ ∨ P2_ k_) ∨ w.heap.size ≤ k_) ∧ some k_ ≠ (v733 : Value).ownBlock ∧ some k_ ≠ (v737 : Value).ownBlock ∧ some k_ ≠ (u19 : Value).ownBlock ∧ some k_ ≠ (.slice Ao84 y750.length co84 : Value).ownBlock ∧ some k_ ≠ (v755 : Value).ownBlock)) ?hr ?hp (fun _ hk => hk) ((show ∀ k_, w85.heap.size ≤ k_ → (fun k_ => ((P1_ k_ ∨ P2_ k_) ∨ w.heap.size ≤ k_) ∧ some k_ ≠ (v733 : Value).ownBlock ∧ some k_ ≠ (v737 : Value).ownBlock ∧ some k_ ≠ (u19 : Value).ownBlock ∧ some k_ ≠ (.slice Ao84 y750.length co84 : Value).ownBlock ∧ some k_ ≠ (v755 : Value).ownBlock) k_ from fun k_ hk => ⟨(.inr (Nat.le_trans (below_size (bl HB)) hk)), Kd.fresh' (Kd.R_lt (kr HO_9)) k_ hk, Kd.fresh' (Kd.R_lt (kr HO_11)) k_ hk, Kd.fresh' (Kd.R_lt (kr HO_19)) k_ hk, Kd.fresh' (Kd.N_lt (by (with_reducible repeat (first | apply Kd.N_alloc | apply Kd.N_drewN | apply Kd.N_drew)); exact HO752.out)) k_ hk, Kd.fresh' (Kd.R_lt (kr HO756)) k_ hk⟩) _ (Nat.le_refl _)) (Below.refl _ _) (Nat.le_refl _) (by simp) ?_; (case hd => rfl); (case hg => rfl); (case hr => first | (go_simp; done) | (go_simp; rfl)); (case hp => exact (Reps.one (show Kd.FK (Kd.slice 30 k30) _ _ l1 [.slice A1 l1.length c1] from (Kd.FK_slice_mk (Kd.V_reads' (Kd.V_mono (ok' := (fun k_ => ((P1_ k_ ∨ P2_ k_) ∨ w.heap.size ≤ k_) ∧ some k_ ≠ (v733 : Value).ownBlock ∧ some k_ ≠ (v737 : Value).ownBlock ∧ some k_ ≠ (u19 : Value).ownBlock ∧ some k_ ≠ (.slice Ao84 y750.length co84 : Value).ownBlock ∧ some k_ ≠ (v755 : Value).ownBlock)) (HO_1.out) (fun k_ hk => ⟨hk.1.1.1, ⟨hk.1.1.2.1, ⟨hk.1.1.2.2.1, ⟨hk.1.1.2.2.2, ⟨hk.1.2, hk.2⟩⟩⟩⟩⟩))).2.1 (Kd.V_F (Kd.V_mono (ok' := (fun k_ => ((P1_ k_ ∨ P2_ k_) ∨ w.heap.size ≤ k_) ∧ some k_ ≠ (v733 : Value).ownBlock ∧ some k_ ≠ (v737 : Value).ownBlock ∧ some k_ ≠ (u19 : Value).ownBlock ∧ some k_ ≠ (.slice Ao84 y750.length co84 : Value).ownBlock ∧ some k_ ≠ (v755 : Value).ownBlock)) (HO_1.out) (fun k_ hk => ⟨hk.1.1.1, ⟨hk.1.1.2.1, ⟨hk.1.1.2.2.1, ⟨hk.1.1.2.2.2, ⟨hk.1.2, hk.2⟩⟩⟩⟩⟩))))) (Reps.one (show Kd.FK (Kd.slice 30 k30) _ _ l2 [.slice A2 l2.length c2] from (Kd.FK_slice_mk (Kd.V_reads' (Kd.V_mono (ok' := (fun k_ => ((P1_ k_ ∨ P2_ k_) ∨ w.heap.size ≤ k_) ∧ some k_ ≠ (v733 : Value).ownBlock ∧ some k_ ≠ (v737 : Value).ownBlock ∧ some k_ ≠ (u19 : Value).ownBlock ∧ some k_ ≠ (.slice Ao84 y750.length co84 : Value).ownBlock ∧ some k_ ≠ (v755 : Value).ownBlock)) (HO_2.out) (fun k_ hk => ⟨hk.1.1.1, ⟨hk.1.1.2.1, ⟨hk.1.1.2.2.1, ⟨hk.1.1.2.2.2, ⟨hk.1.2, hk.2⟩⟩⟩⟩⟩))).2.1 (Kd.V_F (Kd.V_mono (ok' := (fun k_ => ((P1_ k_ ∨ P2_ k_) ∨ w.heap.size ≤ k_) ∧ some k_ ≠ (v733 : Value).ownBlock ∧ some k_ ≠ (v737 : Value).ownBlock ∧ some k_ ≠ (u19 : Value).ownBlock ∧ some k_ ≠ (.slice Ao84 y750.length co84 : Value).ownBlock ∧ some k_ ≠ (v755 : Value).ownBlock)) (HO_2.out) (fun k_ hk => ⟨hk.1.1.1, ⟨hk.1.1.2.1, ⟨hk.1.1.2.2.1, ⟨hk.1.1.2.2.2, ⟨hk.1.2, hk.2⟩⟩⟩⟩⟩))))) (Reps.none _ _)))); intro v758 w86 ho87 hb hg_ hnew_; clear hg_ hnew_; (first | rw [← Ny757.out] at ho87 | (simp only [Int.reduceToNat] at ho87; rw [← Ny757.out] at ho87)); replace HO_1 := am (Kd.V_elder' (kv HO_1) (Kd.N_base ho87) hb); replace HO_2 := am (Kd.V_elder' (kv HO_2) (Kd.N_base ho87) hb); replace HO_9 := rb HO_9 hb; replace HO_11 := rb HO_11 hb; replace HO_19 := rb HO_19 hb; replace HO752 := am (Kd.N_elder' (by (with_reducible repeat (first | apply Kd.N_alloc | apply Kd.N_drewN | apply Kd.N_drew)); exact HO752.out) (Kd.N_base ho87) hb); replace HO756 := rb HO756 hb; have HO759 := am (Kd.N_lower ho87 (below_size (bl HB))); replace HB := bs HB hb; clear hb ho87; obtain ⟨Ao88, co88, eo88⟩ := Kd.N_slice HO759.out; subst eo88) | ((with_reducible refine gc (f := 16) rfl ?_); refine goesM (some 136) Tryz.func16 #[.slice A0 l0.length c0, .slice Ao88 y757.length co88, .slice none 0 0] ?_; (refine (size_Combine.calls kj47 _ _ l0 _ _ y757 _ _ ([] : List (S30)) t760 t761 _ ?s1 ?s2 ?s3 ?s4 ?s5 ?s6 ?s7 A54.out).mono ?_); (case s1 => exact gb HG0 HB); (case s2 => exact cb HR0 HB); (case s3 => exact HC0.out); (case s4 => repeat (first | exact (Kd.N_reads' HO759.out).2.2 | (with_reducible refine Kd.C_alloc ?_ _) | (with_reducible refine Kd.C_drewN ?_ _) | (with_reducible refine Kd.C_drew ?_))); (case s5 => exact (Kd.N_reads' HO759.out).2.1); (case s6 => exact Kd.C_nil _ _); (case s7 => exact Nat.le_refl _); rintro e w89 ⟨v762, rfl, ho0, hb⟩; refine ⟨_, rfl, ?_⟩; replace HO_1 := am (Kd.V_elder' (kv HO_1) (Kd.R_base ho0) hb); replace HO_2 := am (Kd.V_elder' (kv HO_2) (Kd.R_base ho0) hb); replace HO752 := am (Kd.N_elder' (by (with_reducible repeat (first | apply Kd.N_alloc | apply Kd.N_drewN | apply Kd.N_drew)); exact HO752.out) (Kd.R_base ho0) hb); replace HO756 := rb HO756 hb; replace HO759 := am (Kd.N_elder' (by (with_reducible repeat (first | apply Kd.N_alloc | apply Kd.N_drewN | apply Kd.N_drew)); exact HO759.out) (Kd.R_base ho0) hb); have HO763 := am (Kd.R_lower (Kd.R_new' (Kd.R_new' (Kd.R_new' (Kd.R_newM (M := fun k_ => (w.heap.size ≤ k_)) ho0 (below_size (bl HB)) (fun k_ h_ => h_)) (Kd.R_lt (kr HO_9))) (Kd.R_lt (kr HO_11))) (Kd.R_lt (kr HO_19))) (below_size (bl HB))); replace HO_9 := am (Kd.R_elder' (kr HO_9) (Kd.R_base ho0) hb); replace HO_11 := am (Kd.R_elder' (kr HO_11) (Kd.R_base ho0) hb); replace HO_19 := am (Kd.R_elder' (kr HO_19) (Kd.R_base ho0) hb); replace HB := bs HB hb; (try clear hb); (try clear ho0); obtain ⟨Ao90, co90, eo90⟩ := Kd.R_slice HO_9.out; subst eo90; obtain ⟨Ao91, co91, eo91⟩ := Kd.R_slice HO_11.out; subst eo91; obtain ⟨Ao92, co92, eo92⟩ := Kd.R_slice HO_19.out; subst eo92; obtain ⟨Ao93, co93, eo93⟩ := Kd.R_slice HO756.out; subst eo93; obtain ⟨Ao94, co94, eo94⟩ := Kd.R_slice HO763.out; subst eo94))
                 (try simp only [Act.put, List.setIfInBounds_toArray, List.set_cons_zero, List.set_cons_succ])
                 go_cut [9, 10] (fun v9 v10 wc => ∃ (kq : Nat) (x9_80 : List (S30)) (x10_80 : Int), v10 = .int .i64 x10_80 ∧ Aside0 (schismalaw13_SizeChecks.j6 kq l0 l1 x7_15 x9_80 x10_80 = some r) ∧ Aside0 (kq ≤ kj47) ∧ Aside0 (Kd.V k30 30 wc w.heap.size (fun k_ => ((P1_ k_ ∨ P2_ k_) ∨ w.heap.size ≤ k_) ∧ some k_ ≠ (v9 : Value).ownBlock) (.slice A1 l1.length c1) l1) ∧ Aside0 (Kd.R k30 30 wc w.heap.size (fun k_ => (w.heap.size ≤ k_)) v9 x9_80) ∧ Aside0 (Below w.heap.size w wc))
                 case first => as_aux_lemma =>
                  have H := HC81.out
                  clear HC81
                  obtain ⟨⟨t764, t767⟩, A95, H⟩ := bo H
                  try dsimp only at H
                  have H' := am H
                  clear H
                  go_wp2_with (first | ((with_reducible refine gc (f := 23) rfl ?_); refine goesM (some 212) Tryz.func23 #[.slice A0 l0.length c0, .slice A1 l1.length c1, .agg #[.string (⟨#[]⟩ : ByteArray), .string (⟨#[]⟩ : ByteArray)]] ?_; (with_reducible refine (size_Scale.calls kj47 _ _ l0 (fun k_ => (((((((P1_ k_ ∨ P2_ k_) ∨ w.heap.size ≤ k_) ∧ (some k_ ≠ (.slice Ao90 t732.length co90 : Value).ownBlock ∧ (some k_ ≠ (.slice Ao91 t736.length co91 : Value).ownBlock ∧ some k_ ≠ (.slice Ao92 x19_47.length co92 : Value).ownBlock))) ∧ some k_ ≠ (.slice Ao84 y750.length co84 : Value).ownBlock) ∧ some k_ ≠ (.slice Ao93 t753.length co93 : Value).ownBlock) ∧ some k_ ≠ (.slice Ao88 y757.length co88 : Value).ownBlock) ∧ some k_ ≠ (.slice Ao94 t760.length co94 : Value).ownBlock)) _ _ l1 (⟨#[]⟩ : ByteArray) (⟨#[]⟩ : ByteArray) t764 t767 _ ?s1 ?s2 ?s3 ?s4 A95.out).mono ?_); (case s1 => exact gb HG0 HB); (case s2 => exact cb HR0 HB); (case s3 => exact HC0.out); (case s4 => exact HO_1.out); rintro e w96 ⟨v765, rfl, ho0, hb⟩; refine ⟨_, rfl, ?_⟩; replace HO_1 := am (Kd.V_elder' (kv HO_1) (Kd.R_base ho0) hb); replace HO_2 := am (Kd.V_elder' (kv HO_2) (Kd.R_base ho0) hb); replace HO752 := am (Kd.N_elder' (by (with_reducible repeat (first | apply Kd.N_alloc | apply Kd.N_drewN | apply Kd.N_drew)); exact HO752.out) (Kd.R_base ho0) hb); replace HO756 := rb HO756 hb; replace HO759 := am (Kd.N_elder' (by (with_reducible repeat (first | apply Kd.N_alloc | apply Kd.N_drewN | apply Kd.N_drew)); exact HO759.out) (Kd.R_base ho0) hb); have HO766 := am (Kd.R_lower (Kd.R_new' (Kd.R_new' (Kd.R_new' (Kd.R_new' (Kd.R_newM (M := fun k_ => (w.heap.size ≤ k_)) (Kd.R_mono (ok' := fun k_ => True) ho0 (fun _ hk_ => trivial)) (below_size (bl HB)) (fun k_ h_ => h_)) (Kd.R_lt (kr HO_9))) (Kd.R_lt (kr HO_11))) (Kd.R_lt (kr HO_19))) (Kd.R_lt (kr HO763))) (below_size (bl HB))); replace HO_9 := am (Kd.R_elder' (kr HO_9) (Kd.R_base ho0) hb); replace HO_11 := am (Kd.R_elder' (kr HO_11) (Kd.R_base ho0) hb); replace HO_19 := am (Kd.R_elder' (kr HO_19) (Kd.R_base ho0) hb); replace HO763 := am (Kd.R_elder' (kr HO763) (Kd.R_base ho0) hb); replace HB := bs HB hb; (try clear hb); (try clear ho0)))
                  go_meet
                  case rel => exact ⟨_, (t764), (t767), rs, H', ⟨by have := HJ3.out; have := HJ15.out; have := HJ20.out; have := HJ22.out; have := HJ40.out; have := HJ47.out; first | omega | exact Nat.le_refl _⟩, ⟨by (with_reducible repeat (first | apply Kd.V_alloc | apply Kd.V_drewN | apply Kd.V_drew)); exact Kd.V_mono HO_1.out (fun _ hk => ⟨hk.1.1.1.1.1.1, hk.2⟩)⟩, ⟨by (with_reducible repeat (first | apply Kd.R_alloc | apply Kd.R_drewN | apply Kd.R_drew)); exact Kd.R_mono HO766.out (fun _ hk => hk.1.1.1.1.1)⟩, ⟨bl HB⟩⟩
                 case rest => as_aux_lemma =>
                  clear HC81
                  try clear c1
                  try clear c2
                  try clear p2
                  try clear c3
                  try clear c4
                  try clear c5
                  try clear c6
                  try clear p6
                  try clear c8
                  try clear c11
                  try clear c12
                  try clear c13
                  try clear c16
                  try clear c21
                  try clear c22
                  try clear c22b0
                  try clear c22b1
                  try clear c23
                  try clear c25
                  try clear c25b0
                  try clear c25b1
                  try clear c26
                  try clear c27
                  try clear c27b0
                  try clear c27b1
                  try clear c30
                  try clear c30b0
                  try clear c30b1
                  try clear c30b2
                  try clear c31
                  try clear c32
                  try clear c37
                  try clear c38
                  try clear c38b0
                  try clear c38b1
                  try clear c47
                  try clear c50
                  try clear c51
                  try clear c55
                  try clear c55b0
                  try clear c56
                  try clear c56b0
                  try clear c56b1
                  try clear c57
                  try clear c57b0
                  try clear c57b1
                  try clear c57b2
                  try clear c58
                  try clear c58b0
                  try clear c58b1
                  try clear c58b2
                  try clear c59
                  try clear c59b0
                  try clear c59b1
                  try clear c60
                  try clear c60b0
                  try clear c60b1
                  try clear c61
                  try clear c61b0
                  try clear c61b1
                  try clear c62
                  try clear c62b0
                  try clear c62b1
                  try clear c63
                  try clear c63b0
                  try clear c63b1
                  try clear c64
                  try clear c64b0
                  try clear c64b1
                  try clear p64
                  try clear c65
                  try clear c65b0
                  try clear c65b1
                  try clear c66
                  try clear c66b0
                  try clear c66b1
                  try clear c67
                  try clear c67b0
                  try clear c67b1
                  try clear p2
                  obtain ⟨kq, x9_80, x10_80, rfl, HA, HJ80, HO_1, HO_9, HB⟩ := hcut
                  cases kq with
                  | zero => exact absurd HA.out (by simp [schismalaw13_SizeChecks.j6])
                  | succ kj80 =>
                   have H := HA.out
                   clear HA
                   simp only [schismalaw13_SizeChecks.j6] at H
                   obtain ⟨⟨t768, t769⟩, A97, H⟩ := bo H
                   try dsimp only at H
                   obtain ⟨⟨t770, t773⟩, A98, H⟩ := bo H
                   try dsimp only at H
                   obtain ⟨⟨t774, t775⟩, A99, H⟩ := bo H
                   try dsimp only at H
                   by_cases c100 : (wrap64 ((x9_80.length : Int) + (t770.length : Int))) = 0
                   case neg => rw [if_neg c100] at H; cases H
                   rw [if_pos c100] at H
                   have c100b0 := beq_iff_eq.mpr c100
                   have c100b1 := bne_eq_false_iff_eq.mpr c100
                   clear c100
                   by_cases c101 : t768 = 0
                   case neg => rw [if_neg c101] at H; cases H
                   rw [if_pos c101] at H
                   have c101b0 := beq_iff_eq.mpr c101
                   have c101b1 := bne_eq_false_iff_eq.mpr c101
                   clear c101
                   by_cases c102 : t774.toList = ([] : List UInt8)
                   case neg => rw [if_neg c102] at H; cases H
                   rw [if_pos c102] at H
                   have c102b0 : t774.toList.isEmpty = true := by simpa using c102
                   have c102b1 : (!t774.toList.isEmpty) = false := by simpa using c102
                   have c102b2 := beq_iff_eq.mpr c102
                   clear c102
                   by_cases c103 : x10_80 = x7_15
                   ·rw [if_pos c103] at H
                    have c103b0 := beq_iff_eq.mpr c103
                    have c103b1 := bne_eq_false_iff_eq.mpr c103
                    clear c103
                    by_cases c104 : t769 = x7_15
                    case neg => rw [if_neg c104] at H; cases H
                    rw [if_pos c104] at H
                    have c104b0 := beq_iff_eq.mpr c104
                    have c104b1 := bne_eq_false_iff_eq.mpr c104
                    clear c104
                    by_cases c105 : t773 = x7_15
                    case neg => rw [if_neg c105] at H; cases H
                    rw [if_pos c105] at H
                    have c105b0 := beq_iff_eq.mpr c105
                    have c105b1 := bne_eq_false_iff_eq.mpr c105
                    clear c105
                    obtain rfl := Option.some.inj H
                    go_wp2_with (first | ((with_reducible refine gc (f := 27) rfl ?_); refine goesM (some 218) Tryz.func27 #[.slice A0 l0.length c0, .slice A1 l1.length c1] ?_; (with_reducible refine (size_Sign.calls kj80 _ _ l0 _ _ l1 t768 t769 _ ?s1 ?s2 ?s3 ?s4 ?s5 A97.out).mono ?_); (case s1 => exact gb HG0 HB); (case s2 => exact cb HR0 HB); (case s3 => exact HC0.out); (case s4 => exact cv HO_1); (case s5 => exact (Kd.V_reads' HO_1.out).2.1); rintro e w106 ⟨rfl, hb⟩; refine ⟨_, rfl, ?_⟩; replace HO_1 := am (Kd.V_below (kv HO_1) hb); replace HO_9 := rb HO_9 hb; replace HB := bs HB hb; (try clear hb)) | ((with_reducible refine gc (f := 28) rfl ?_); refine goesM (some 224) Tryz.func28 #[.slice A0 l0.length c0, .slice A1 l1.length c1] ?_; (with_reducible refine (size_Abs.calls kj80 _ _ l0 (fun k_ => (((P1_ k_ ∨ P2_ k_) ∨ w.heap.size ≤ k_) ∧ some k_ ≠ (u9 : Value).ownBlock)) _ _ l1 t770 t773 _ ?s1 ?s2 ?s3 ?s4 A98.out).mono ?_); (case s1 => exact gb HG0 HB); (case s2 => exact cb HR0 HB); (case s3 => exact HC0.out); (case s4 => exact HO_1.out); rintro e w107 ⟨v771, rfl, ho0, hb⟩; refine ⟨_, rfl, ?_⟩; replace HO_1 := am (Kd.V_elder' (kv HO_1) (Kd.R_base ho0) hb); have HO772 := am (Kd.R_lower (Kd.R_new' (Kd.R_newM (M := fun k_ => (w.heap.size ≤ k_)) (Kd.R_mono (ok' := fun k_ => True) ho0 (fun _ hk_ => trivial)) (below_size (bl HB)) (fun k_ h_ => h_)) (Kd.R_lt (kr HO_9))) (below_size (bl HB))); replace HO_9 := am (Kd.R_elder' (kr HO_9) (Kd.R_base ho0) hb); replace HB := bs HB hb; (try clear hb); (try clear ho0)) | ((with_reducible refine gc (f := 45) rfl ?_); refine goesM (some 230) Tryz.func45 #[.slice A0 l0.length c0, .slice A1 l1.length c1] ?_; (with_reducible refine (size_Text.calls kj80 _ _ l0 _ _ l1 t774 t775 _ ?s1 ?s2 ?s3 ?s4 ?s5 A99.out).mono ?_); (case s1 => exact gb HG0 HB); (case s2 => exact cb HR0 HB); (case s3 => exact HC0.out); (case s4 => exact cv HO_1); (case s5 => exact (Kd.V_reads' HO_1.out).2.1); rintro e w108 ⟨rfl, hb⟩; refine ⟨_, rfl, ?_⟩; replace HO_1 := am (Kd.V_below (kv HO_1) hb); replace HO_9 := rb HO_9 hb; replace HO772 := rb HO772 hb; replace HB := bs HB hb; (try clear hb); obtain ⟨Ao109, co109, eo109⟩ := Kd.R_slice HO_9.out; subst eo109; obtain ⟨Ao110, co110, eo110⟩ := Kd.R_slice HO772.out; subst eo110))
                    go_ret
                    exact ⟨rl, bl HB⟩
                   ·rw [if_neg c103] at H
                    have c103b0 := beq_eq_false_iff_ne.mpr c103
                    have c103b1 := bne_iff_ne.mpr c103
                    obtain rfl := Option.some.inj H
                    go_wp2_with (first | ((with_reducible refine gc (f := 27) rfl ?_); refine goesM (some 218) Tryz.func27 #[.slice A0 l0.length c0, .slice A1 l1.length c1] ?_; (with_reducible refine (size_Sign.calls kj80 _ _ l0 _ _ l1 t768 t769 _ ?s1 ?s2 ?s3 ?s4 ?s5 A97.out).mono ?_); (case s1 => exact gb HG0 HB); (case s2 => exact cb HR0 HB); (case s3 => exact HC0.out); (case s4 => exact cv HO_1); (case s5 => exact (Kd.V_reads' HO_1.out).2.1); rintro e w111 ⟨rfl, hb⟩; refine ⟨_, rfl, ?_⟩; replace HO_1 := am (Kd.V_below (kv HO_1) hb); replace HO_9 := rb HO_9 hb; replace HB := bs HB hb; (try clear hb)) | ((with_reducible refine gc (f := 28) rfl ?_); refine goesM (some 224) Tryz.func28 #[.slice A0 l0.length c0, .slice A1 l1.length c1] ?_; (with_reducible refine (size_Abs.calls kj80 _ _ l0 (fun k_ => (((P1_ k_ ∨ P2_ k_) ∨ w.heap.size ≤ k_) ∧ some k_ ≠ (u9 : Value).ownBlock)) _ _ l1 t770 t773 _ ?s1 ?s2 ?s3 ?s4 A98.out).mono ?_); (case s1 => exact gb HG0 HB); (case s2 => exact cb HR0 HB); (case s3 => exact HC0.out); (case s4 => exact HO_1.out); rintro e w112 ⟨v771, rfl, ho0, hb⟩; refine ⟨_, rfl, ?_⟩; replace HO_1 := am (Kd.V_elder' (kv HO_1) (Kd.R_base ho0) hb); have HO772 := am (Kd.R_lower (Kd.R_new' (Kd.R_newM (M := fun k_ => (w.heap.size ≤ k_)) (Kd.R_mono (ok' := fun k_ => True) ho0 (fun _ hk_ => trivial)) (below_size (bl HB)) (fun k_ h_ => h_)) (Kd.R_lt (kr HO_9))) (below_size (bl HB))); replace HO_9 := am (Kd.R_elder' (kr HO_9) (Kd.R_base ho0) hb); replace HB := bs HB hb; (try clear hb); (try clear ho0)) | ((with_reducible refine gc (f := 45) rfl ?_); refine goesM (some 230) Tryz.func45 #[.slice A0 l0.length c0, .slice A1 l1.length c1] ?_; (with_reducible refine (size_Text.calls kj80 _ _ l0 _ _ l1 t774 t775 _ ?s1 ?s2 ?s3 ?s4 ?s5 A99.out).mono ?_); (case s1 => exact gb HG0 HB); (case s2 => exact cb HR0 HB); (case s3 => exact HC0.out); (case s4 => exact cv HO_1); (case s5 => exact (Kd.V_reads' HO_1.out).2.1); rintro e w113 ⟨rfl, hb⟩; refine ⟨_, rfl, ?_⟩; replace HO_1 := am (Kd.V_below (kv HO_1) hb); replace HO_9 := rb HO_9 hb; replace HO772 := rb HO772 hb; replace HB := bs HB hb; (try clear hb); obtain ⟨Ao114, co114, eo114⟩ := Kd.R_slice HO_9.out; subst eo114; obtain ⟨Ao115, co115, eo115⟩ := Kd.R_slice HO772.out; subst eo115))
                    go_ret
                    exact ⟨rl, bl HB⟩
end Go.Proofs.YtailoobjgbldgaaGreatDoor.P
end
section
namespace Go.Proofs.YtailoobjgbldgaaGreatDoor.Pure
open Go Go.Lib Go.RowKit Go.Proofs.YtailoobjgbldgaaGreatDoor.P Go.Proofs.YtailoobjgbldgaaGreatDoorW.PrintWords Go.Proofs.YtailoobjgbldgaaGreatDoorW.PrintLast Go.Proofs.YtailoobjgbldgaaGreatDoorW.PrintMore
open Go.Proofs.YtailoobjgbldgaaGreatDoor.Val (Evt)
set_option linter.unusedSimpArgs false
set_option linter.unusedVariables false
theorem few_loop {s : List R30} (hl : s.length ≤ 8) : ∀ (d j : Nat), j + d = s.length → ∃ b, Evt (fun k => schismalaw13_few.l0 k s (j : Int)) b ∧ (b = true → ∀ i (hi : i < s.length), j ≤ i → s[i].f0.size ≤ 45 ∧ s[i].f1.size ≤ 45) := by
  intro d
  induction d with
  | zero =>
    intro j hj
    refine ⟨true, (Evt.const true).step fun k => ?_, fun _ i hi hji => by omega⟩
    rw [schismalaw13_few.l0, if_neg (by omega)]
  | succ d ih =>
    intro j hj
    have hjl : j < s.length := by omega
    by_cases h1 : (s[j].f0.size : Int) > 45
    · refine ⟨false, (Evt.const false).step fun k => ?_, fun h => by cases h⟩
      rw [schismalaw13_few.l0, if_pos (by omega), if_pos (by omega), rd_at s j hjl, if_pos h1]
    by_cases h2 : (s[j].f1.size : Int) > 45
    · refine ⟨false, (Evt.const false).step fun k => ?_, fun h => by cases h⟩
      rw [schismalaw13_few.l0, if_pos (by omega), if_pos (by omega), rd_at s j hjl, if_neg h1, if_pos h2]
    · obtain ⟨b, hb, hs⟩ := ih (j + 1) (by omega)
      rw [← wrap_small (by omega)] at hb
      refine ⟨b, hb.step fun k => ?_, fun hbt i hi hji => ?_⟩
      · rw [schismalaw13_few.l0, if_pos (by omega), if_pos (by omega), rd_at s j hjl, if_neg h1, if_neg h2]
      · rcases Nat.eq_or_lt_of_le hji with rfl | hlt
        · omega
        · exact hs hbt i hi hlt
theorem few_total (p : List Int) (s : List R30) : ∃ b, Evt (fun k => schismalaw13_few.f k p s) b ∧ (b = true → Short s) := by
  have hbad : Evt (fun k => schismalaw13_few.j0 k s true) false := (Evt.const false).step fun k => by rw [schismalaw13_few.j0, if_pos rfl]
  by_cases h1 : (p.length : Int) > 8
  · exact ⟨false, hbad.congr fun k => by unfold schismalaw13_few.f; rw [if_pos h1], fun h => by cases h⟩
  by_cases h2 : (s.length : Int) > 8
  · exact ⟨false, hbad.congr fun k => by unfold schismalaw13_few.f; rw [if_neg h1, decide_eq_true h2], fun h => by cases h⟩
  obtain ⟨b, hb, hs⟩ := few_loop (s := s) (by omega) s.length 0 (by omega)
  refine ⟨b, (hb.step (h := fun k => schismalaw13_few.j0 k s false) fun k => by rw [schismalaw13_few.j0, if_neg (by decide)]; rfl).congr fun k => by unfold schismalaw13_few.f; rw [if_neg h1, decide_eq_false h2], fun h => ⟨by omega, fun i hi => hs h i hi (Nat.zero_le _)⟩⟩
theorem equal_loop {s o : List R30} (hl : s.length = o.length) (h8 : s.length ≤ 8) : ∀ (d j : Nat), j + d = s.length → ∃ b, Evt (fun k => api_Rational_95.l0 k s o (s.length : Int) (j : Int)) b ∧ Evt (fun k => schismalaw13_equal.l0 k s o (j : Int)) b ∧ (s = o → b = true) := by
  intro d
  induction d with
  | zero =>
    intro j hj
    refine ⟨true, (Evt.const true).step fun k => ?_, (Evt.const true).step fun k => ?_, fun _ => rfl⟩
    · rw [api_Rational_95.l0, if_neg (by omega)]
    · rw [schismalaw13_equal.l0, if_neg (by omega)]
  | succ d ih =>
    intro j hj
    have hjl : j < s.length := by omega
    have hjo : j < o.length := by omega
    by_cases h : ((!(s[j].f0.toList == o[j].f0.toList)) || (!(s[j].f1.toList == o[j].f1.toList))) = true
    · refine ⟨false, (Evt.const false).step fun k => ?_, (Evt.const false).step fun k => ?_, fun he => ?_⟩
      · rw [api_Rational_95.l0, if_pos (by omega), if_pos (by omega), if_pos (by omega), if_pos (by omega), rd_at s j hjl, rd_at o j hjo, if_pos h]
      · rw [schismalaw13_equal.l0, if_pos (by omega), if_pos (by omega), if_pos (by omega), rd_at s j hjl, rd_at o j hjo, if_pos h]
      · subst he; simp at h
    · obtain ⟨b, h1, h2, h3⟩ := ih (j + 1) (by omega)
      rw [← wrap_small (by omega)] at h1 h2
      refine ⟨b, h1.step fun k => ?_, h2.step fun k => ?_, h3⟩
      · rw [api_Rational_95.l0, if_pos (by omega), if_pos (by omega), if_pos (by omega), if_pos (by omega), rd_at s j hjl, rd_at o j hjo, if_neg h]
      · rw [schismalaw13_equal.l0, if_pos (by omega), if_pos (by omega), if_pos (by omega), rd_at s j hjl, rd_at o j hjo, if_neg h]
theorem equal_total {s o : List R30} (hs : Short s) : ∃ b, Evt (fun k => size_Equal.f k s o) b ∧ Evt (fun k => schismalaw13_equal.f k s o) b ∧ (s = o → b = true) := by
  by_cases hl : (s.length : Int) = (o.length : Int)
  · obtain ⟨b, h1, h2, h3⟩ := equal_loop (s := s) (o := o) (by omega) hs.1 s.length 0 (by omega)
    exact ⟨b, (h1.bind1 (h := some) rfl).congr fun k => by unfold size_Equal.f api_Rational_95.f; rw [if_pos hl]; rfl, h2.congr fun k => by unfold schismalaw13_equal.f; rw [if_pos hl]; rfl, h3⟩
  · exact ⟨false, (Evt.const false).congr fun k => by unfold size_Equal.f api_Rational_95.f; rw [if_neg hl]; rfl, (Evt.const false).congr fun k => by unfold schismalaw13_equal.f; rw [if_neg hl], fun h => by subst h; exact absurd rfl hl⟩
theorem all_one {p : List Int} {s : List R30} {c e : Int} (hc : Evt (fun k => prime_Check.f k p) c) (h1 : Evt (fun k => size_check.f k p s) e) : Evt (fun k => size_CheckAll.f k p [s]) (if c = 0 then e else c) := by
  by_cases h0 : c = 0
  · rw [if_pos h0]
    have hend : Evt (fun k => size_CheckAll.l0 k p [s] 1 1) 0 := (Evt.const 0).step fun k => by rw [size_CheckAll.l0, if_neg (by decide)]
    have hl : Evt (fun k => size_CheckAll.l0 k p [s] 1 0) e := by
      refine Evt.step (g := fun k => (size_check.f k p s).bind fun t => if t = 0 then size_CheckAll.l0 k p [s] 1 1 else some t) (h1.bind ?_) fun k => ?_
      · by_cases he : e = 0
        · subst he; exact hend.congr fun k => by rw [if_pos rfl]
        · exact (Evt.const e).congr fun k => by rw [if_neg he]
      · rw [size_CheckAll.l0, if_pos (by decide), if_pos (by decide), if_pos (by simp)]
        first | (rw [show wrap64 (0 + 1) = 1 by simp [wrap64]]; rfl) | (rw [show wrap64 (1 + 1) = 2 by simp [wrap64]]; rfl)
    exact (hc.bind (h := fun k t => if t = 0 then size_CheckAll.l0 k p [s] 1 0 else some t) (hl.congr fun k => by rw [if_pos h0])).congr fun k => rfl
  · rw [if_neg h0]
    exact (hc.bind (h := fun k t => if t = 0 then size_CheckAll.l0 k p [s] 1 0 else some t) ((Evt.const c).congr fun k => by rw [if_neg h0])).congr fun k => rfl
theorem all_two {p : List Int} {s o : List R30} {c e f : Int} (hc : Evt (fun k => prime_Check.f k p) c) (h1 : Evt (fun k => size_check.f k p s) e) (h2 : Evt (fun k => size_check.f k p o) f) : Evt (fun k => size_CheckAll.f k p [s, o]) (if c = 0 then (if e = 0 then f else e) else c) := by
  by_cases h0 : c = 0
  · rw [if_pos h0]
    have hend : Evt (fun k => size_CheckAll.l0 k p [s, o] 2 2) 0 := (Evt.const 0).step fun k => by rw [size_CheckAll.l0, if_neg (by decide)]
    have hm : Evt (fun k => size_CheckAll.l0 k p [s, o] 2 1) f := by
      refine Evt.step (g := fun k => (size_check.f k p o).bind fun t => if t = 0 then size_CheckAll.l0 k p [s, o] 2 2 else some t) (h2.bind ?_) fun k => ?_
      · by_cases he : f = 0
        · subst he; exact hend.congr fun k => by rw [if_pos rfl]
        · exact (Evt.const f).congr fun k => by rw [if_neg he]
      · rw [size_CheckAll.l0, if_pos (by decide), if_pos (by decide), if_pos (by simp)]
        first | (rw [show wrap64 (0 + 1) = 1 by simp [wrap64]]; rfl) | (rw [show wrap64 (1 + 1) = 2 by simp [wrap64]]; rfl)
    have hl : Evt (fun k => size_CheckAll.l0 k p [s, o] 2 0) (if e = 0 then f else e) := by
      refine Evt.step (g := fun k => (size_check.f k p s).bind fun t => if t = 0 then size_CheckAll.l0 k p [s, o] 2 1 else some t) (h1.bind ?_) fun k => ?_
      · by_cases he : e = 0
        · subst he; exact hm.congr fun k => by rw [if_pos rfl]
        · rw [if_neg he]; exact (Evt.const e).congr fun k => by rw [if_neg he]
      · rw [size_CheckAll.l0, if_pos (by decide), if_pos (by decide), if_pos (by simp)]
        first | (rw [show wrap64 (0 + 1) = 1 by simp [wrap64]]; rfl) | (rw [show wrap64 (1 + 1) = 2 by simp [wrap64]]; rfl)
    exact (hc.bind (h := fun k t => if t = 0 then size_CheckAll.l0 k p [s, o] 2 0 else some t) (hl.congr fun k => by rw [if_pos h0])).congr fun k => rfl
  · rw [if_neg h0]
    exact (hc.bind (h := fun k t => if t = 0 then size_CheckAll.l0 k p [s, o] 2 0 else some t) ((Evt.const c).congr fun k => by rw [if_neg h0])).congr fun k => rfl
theorem number_one : size_number.f 1 = some (txt 1, ⟨#[49]⟩) := by unfold size_number.f whole_Of.f goItoa.f; rfl
theorem number_minus : size_number.f (-1) = some (txt (-1), ⟨#[49]⟩) := by unfold size_number.f whole_Of.f goItoa.f; rfl
theorem len2 : wrap64 ((([] : List R30).length : Int) + (([] : List R30).length : Int)) = 0 := by simp [wrap64]
theorem len5 : wrap64 (wrap64 (wrap64 (wrap64 ((([] : List R30).length : Int) + (([] : List R30).length : Int)) + (([] : List R30).length : Int)) + (([] : List Int).length : Int)) + (([] : List R30).length : Int)) = 0 := by simp [wrap64]
theorem empty_list : (⟨#[]⟩ : ByteArray).toList = [] := by decide +kernel
theorem last {k : Nat} {p : List Int} {s : List R30} {w : Int} (h1 : ∀ j, k ≤ j → size_CheckAll.f j p [s] = some w) (h2 : ∀ j, k ≤ j → size_Check.f j p s = some w) : (if w = 0 then (some true) else ((size_Scale.f (k + 1) p s (⟨#[]⟩ : ByteArray) (⟨#[]⟩ : ByteArray)).bind fun bt764 => (schismalaw13_SizeChecks.j6 (k + 1) p s w bt764.1 bt764.2))) = some true := by
  by_cases h0 : w = 0
  · rw [if_pos h0]
  rw [if_neg h0]
  have e1 : ∀ j, k ≤ j → size_Scale.f j p s (⟨#[]⟩ : ByteArray) (⟨#[]⟩ : ByteArray) = some ([], w) := fun j hj => by
    unfold size_Scale.f size_Combine.f
    rw [h1 j hj]
    dsimp only [Option.bind_some]
    rw [if_neg h0]
    rfl
  have e2 : ∀ j, k ≤ j → size_Sign.f j p s = some (0, w) := fun j hj => by
    unfold size_Sign.f
    rw [h2 j hj]
    dsimp only [Option.bind_some]
    rw [if_neg h0]
  have e3 : ∀ j, k ≤ j → size_Abs.f j p s = some ([], w) := fun j hj => by
    unfold size_Abs.f
    rw [e2 j hj]
    dsimp only [Option.bind_some]
    rw [if_neg h0]
  have e4 : ∀ j, k ≤ j → size_Text.f j p s = some ((⟨#[]⟩ : ByteArray), w) := fun j hj => by
    unfold size_Text.f
    rw [h2 j hj]
    dsimp only [Option.bind_some]
    rw [if_neg h0]
  rw [e1 _ (by omega)]
  dsimp only [Option.bind_some]
  rw [schismalaw13_SizeChecks.j6, e2 _ (by omega), e3 _ (by omega), e4 _ (by omega)]
  dsimp only [Option.bind_some]
  rw [len2, if_pos rfl, if_pos rfl, if_pos empty_list, if_pos rfl, if_pos rfl, if_pos rfl]
  exact congrArg some (beq_self_eq_true w)
theorem errors {k : Nat} {p : List Int} {s o : List R30} {w n : Int} (hn : n ≠ 0) (h1 : ∀ j, k ≤ j → size_CheckAll.f j p [s] = some w) (h2 : ∀ j, k ≤ j → size_Check.f j p s = some w) (h3 : ∀ j, k ≤ j → size_CheckAll.f j p [s, o] = some n) : schismalaw13_SizeChecks.j3 (k + 5) p s o w n false = some true := by
  rw [schismalaw13_SizeChecks.j3, if_neg (by decide), if_neg hn]
  have hcom : ∀ j, k ≤ j → ∀ l, size_Combine.f j p [s, o] l = some ([], n) := fun j hj l => by
    unfold size_Combine.f
    rw [h3 j hj]
    dsimp only [Option.bind_some]
    rw [if_neg hn]
  have e1 : ∀ j, k ≤ j → size_Add.f j p s o = some ([], n) := fun j hj => by
    unfold size_Add.f
    rw [number_one]
    dsimp only [Option.bind_some]
    rw [hcom j hj]
    rfl
  have e2 : ∀ j, k ≤ j → size_Sub.f j p s o = some ([], n) := fun j hj => by
    unfold size_Sub.f
    rw [number_one, number_minus]
    dsimp only [Option.bind_some]
    rw [hcom j hj]
    rfl
  have e3 : ∀ j, k ≤ j → size_Compare.f j p s o = some (0, n) := fun j hj => by
    unfold size_Compare.f
    rw [h3 j hj]
    dsimp only [Option.bind_some]
    rw [if_neg hn]
  have eq : ∀ j, k ≤ j → size_checkQuotient.f j p s o = some n := fun j hj => by
    unfold size_checkQuotient.f
    rw [h3 j hj]
    dsimp only [Option.bind_some]
    rw [if_neg hn]
  have e4 : ∀ j, k ≤ j → size_Floor.f j p s o = some ((⟨#[]⟩ : ByteArray), n) := fun j hj => by
    unfold size_Floor.f
    rw [eq j hj]
    dsimp only [Option.bind_some]
    rw [if_neg hn]
  have e5 : ∀ j, k ≤ j → size_Round.f j p s o = some ((⟨#[]⟩ : ByteArray), n) := fun j hj => by
    unfold size_Round.f
    rw [eq j hj]
    dsimp only [Option.bind_some]
    rw [if_neg hn]
  have e6 : ∀ j, k ≤ j → size_Remainder.f j p s o = some ([], n) := fun j hj => by
    unfold size_Remainder.f
    rw [eq j hj]
    dsimp only [Option.bind_some]
    rw [if_neg hn]
  have e7 : ∀ j, k ≤ j → sSort.f j p [s, o] = some ([], n) := fun j hj => by
    unfold sSort.f
    rw [h3 j hj]
    dsimp only [Option.bind_some]
    rw [if_neg hn]
  rw [e1 _ (by omega), e2 _ (by omega), e3 _ (by omega)]
  dsimp only [Option.bind_some]
  rw [schismalaw13_SizeChecks.j4, e4 _ (by omega), e5 _ (by omega), e6 _ (by omega)]
  dsimp only [Option.bind_some]
  rw [schismalaw13_SizeChecks.j5, e7 _ (by omega), hcom _ (by omega)]
  dsimp only [Option.bind_some]
  rw [len5, if_neg (by decide), if_pos rfl, if_pos empty_list, if_pos empty_list, if_pos rfl, if_pos rfl, if_pos rfl, if_pos rfl, if_pos rfl, if_pos rfl, if_pos rfl, if_pos rfl]
  exact last (k := k + 1) (fun j hj => h1 j (by omega)) (fun j hj => h2 j (by omega))
set_option maxRecDepth 100000 in
theorem known_300 : schismalaw13_known.f 300 = some true := by decide +kernel
theorem known_true {k : Nat} (h : 300 ≤ k) : kKnown.f k = some true := by
  unfold kKnown.f
  rw [if_pos h]
  exact known_300
theorem SizeChecks (p : List Int) (s o : List R30) : ∃ k, schismalaw13_SizeChecks.f k p s o = some true := by
  obtain ⟨b1, ⟨K1, f1⟩, q1⟩ := few_total p s
  obtain ⟨b2, ⟨K2, f2⟩, q2⟩ := few_total p o
  have hbad : ∀ k, 300 ≤ k → schismalaw13_SizeChecks.j0 (k + 1) p s o true = some true := fun k hk => by
    rw [schismalaw13_SizeChecks.j0, if_pos rfl, known_true hk]
    rfl
  cases b1 with
  | false =>
    refine ⟨K1 + 300 + 1, ?_⟩
    unfold schismalaw13_SizeChecks.f
    have := f1 (K1 + 300 + 1) (by omega)
    dsimp only at this
    rw [known_true (by omega), Option.bind_some, if_pos rfl, this, Option.bind_some, if_neg (by decide), hbad _ (by omega)]
  | true =>
    cases b2 with
    | false =>
      refine ⟨K1 + K2 + 300 + 1, ?_⟩
      unfold schismalaw13_SizeChecks.f
      have g1 := f1 (K1 + K2 + 300 + 1) (by omega)
      have g2 := f2 (K1 + K2 + 300 + 1) (by omega)
      dsimp only at g1 g2
      rw [known_true (by omega), Option.bind_some, if_pos rfl, g1, Option.bind_some, if_pos rfl, g2, Option.bind_some]
      exact hbad _ (by omega)
    | true =>
      have hs := q1 rfl
      have ho := q2 rfl
      obtain ⟨c, hc, _⟩ := check_total p
      have hc := hc.evt
      obtain ⟨e, i1, j1⟩ := inner_total p hs
      obtain ⟨f, i2, j2⟩ := inner_total p ho
      obtain ⟨⟨K3, k3⟩, ⟨K4, k4⟩⟩ := j1 c hc
      obtain ⟨⟨K5, k5⟩, _⟩ := j2 c hc
      obtain ⟨K6, k6⟩ := all_one hc i1
      obtain ⟨K7, k7⟩ := all_two hc i1 i2
      obtain ⟨b, ⟨K8, k8⟩, ⟨K9, k9⟩, _⟩ := equal_total (o := o) hs
      obtain ⟨b', ⟨K10, k10⟩, _, h10⟩ := equal_total (o := s) hs
      obtain rfl := h10 rfl
      obtain ⟨w, hw⟩ : ∃ w : Int, w = if c = 0 then e else c := ⟨_, rfl⟩
      obtain ⟨v, hv⟩ : ∃ v : Int, v = if c = 0 then f else c := ⟨_, rfl⟩
      obtain ⟨n, hn⟩ : ∃ n : Int, n = if c = 0 then (if e = 0 then f else e) else c := ⟨_, rfl⟩
      rw [← hw] at k3 k4 k6
      rw [← hv] at k5
      rw [← hn] at k7
      have hwn : (if w = 0 then v else w) = n := by
        rw [hw, hv, hn]
        by_cases h0 : c = 0
        · simp only [if_pos h0]
        · simp only [if_neg h0]
      clear hw hv hn i1 i2 j1 j2 hc
      obtain ⟨K, hKK⟩ : ∃ K, K = K1 + K2 + K3 + K4 + K5 + K6 + K7 + K8 + K9 + K10 + 300 := ⟨_, rfl⟩
      have hj2 : schismalaw13_SizeChecks.j2 (K + 8) p s o w n = some true := by
        have a1 := k4 (K + 7) (by omega)
        have a2 := k7 (K + 7) (by omega)
        have a3 := k8 (K + 7) (by omega)
        have a4 := k9 (K + 7) (by omega)
        have a5 := k10 (K + 7) (by omega)
        dsimp only at a1 a2 a3 a4 a5
        rw [schismalaw13_SizeChecks.j2, a1]
        dsimp only [Option.bind_some]
        rw [if_pos rfl, a2]
        dsimp only [Option.bind_some]
        rw [if_pos rfl, a3, a4]
        dsimp only [Option.bind_some]
        rw [if_neg (by simp), a5]
        dsimp only [Option.bind_some]
        by_cases h0 : n = 0
        · rw [schismalaw13_SizeChecks.j3, if_neg (by decide), if_pos h0]
        · exact errors (k := K + 2) h0 (fun j hj => k6 j (by omega)) (fun j hj => k4 j (by omega)) (fun j hj => k7 j (by omega))
      have hj1 : schismalaw13_SizeChecks.j1 (K + 9) p s o w v = some true := by
        rw [schismalaw13_SizeChecks.j1]
        by_cases h0 : w = 0
        · rw [if_pos h0] at hwn ⊢
          rw [hwn]; exact hj2
        · rw [if_neg h0] at hwn ⊢
          rw [← hwn] at hj2
          exact hj2
      refine ⟨K + 10, ?_⟩
      unfold schismalaw13_SizeChecks.f
      have g1 := f1 (K + 10) (by omega)
      have g2 := f2 (K + 10) (by omega)
      have g3 := k3 (K + 9) (by omega)
      have g5 := k5 (K + 9) (by omega)
      dsimp only at g1 g2 g3 g5
      rw [known_true (by omega), Option.bind_some, if_pos rfl, g1, Option.bind_some, if_pos rfl, g2, Option.bind_some, schismalaw13_SizeChecks.j0, if_neg (by decide), g3]
      dsimp only [Option.bind_some]
      rw [g5]
      dsimp only [Option.bind_some]
      exact hj1
end Go.Proofs.YtailoobjgbldgaaGreatDoor.Pure
end
