/- Part 3 of the proof: functions' contracts and what they lean on. -/
import Derived.Test.YtailoobjgbldgaaGreatDoorC2
import Derived.WalkMore
section
namespace Go.Proofs.YtailoobjgbldgaaGreatDoor.P
open Go.RowKit Go.Proofs.YtailoobjgbldgaaGreatDoorW.PrintWords Go.Proofs.YtailoobjgbldgaaGreatDoorW.PrintLast Go.Proofs.YtailoobjgbldgaaGreatDoorW.PrintMore
attribute [local go_sem] max2_int min2_int max_two min_two max_three min_three max_four min_four   
set_option linter.unusedVariables false
set_option linter.unusedSimpArgs false
set_option maxHeartbeats 8000000
set_option maxRecDepth 100000
def errW : Option Int → Value
 | none => .nilIface
 | some c => .iface 0 (.int .i64 c)
theorem errW_none : errW none = .nilIface := rfl
theorem errW_some (c : Int) : errW (some c) = .iface 0 (.int .i64 c) := rfl
theorem info3 : (Tryz.prog.info? 3).map (fun i => (i.zero, i.size, i.bytes)) = some (some (.int .i64 0), 1, 8) := by kernel_rfl
theorem info5 : (Tryz.prog.info? 5).map (fun i => (i.zero, i.size, i.bytes)) = some (some (.int .u8 0), 1, 1) := by kernel_rfl
theorem info9 : (Tryz.prog.info? 9).map (fun i => (i.zero, i.size, i.bytes)) = some (some (.string ⟨#[]⟩), 1, 16) := by kernel_rfl
theorem info28 : (Tryz.prog.info? 28).map (fun i => (i.zero, i.size, i.bytes)) = some (some (.string ⟨#[]⟩), 1, 16) := by kernel_rfl
theorem info30 : (Tryz.prog.info? 30).map (fun i => (i.zero, i.size, i.bytes)) = some (some (.agg #[(.string ⟨#[]⟩), (.string ⟨#[]⟩)]), 2, 32) := by kernel_rfl
theorem info112 : (Tryz.prog.info? 112).map (fun i => (i.zero, i.size, i.bytes)) = some (some (.int .u64 0), 1, 8) := by kernel_rfl
structure S30 where
 f0 : ByteArray
 f1 : ByteArray
def z30 : S30 := ⟨(⟨#[]⟩ : ByteArray), (⟨#[]⟩ : ByteArray)⟩
def k30 : Kd S30 := Kd.iso (Kd.pair Kd.string Kd.string) (fun x : S30 => (x.f0, x.f1))
theorem k30_heap : Kd.Heap k30 := Kd.heap_iso _ (Kd.heap_pair Kd.heap_string Kd.heap_string)
theorem k30_open {w : World} {x : S30} {cs : List Value} (h : k30.K w x cs) : cs = [.string x.f0, .string x.f1] := by
 obtain ⟨_, _, rfl, rfl, rfl⟩ := h
 exact rfl
theorem k30_openM {w : World} {base : Nat} {ok : Nat → Prop} {x : S30} {cs : List Value} (h : k30.M w base ok x cs) : cs = [.string x.f0, .string x.f1] := by
 obtain ⟨_, _, rfl, rfl, rfl⟩ := h
 exact rfl
theorem k30_mk (w : World) (x : S30)  : k30.K w x [.string x.f0, .string x.f1] := ⟨[.string x.f0], [.string x.f1], rfl, rfl, rfl⟩
theorem k30_mkM (w : World) (base : Nat) (ok : Nat → Prop) (x : S30)  : k30.M w base ok x [.string x.f0, .string x.f1] := ⟨[.string x.f0], [.string x.f1], rfl, rfl, rfl⟩
def rd_T30 (xs : List S30) (i : Int) : S30 := xs.getD i.toNat z30
theorem at_T30 {w : World} {A : Option Addr} {n : Nat} {xs : List S30} (h : Kd.C k30 w A n xs) (i : Int) (h0 : 0 ≤ i) (h1 : i < n) : ∃ ad , A = some ad ∧ w.cell? (ad.add (i.toNat * 2)) = some (.string (rd_T30 xs i).f0) ∧ w.cell? ⟨(ad.add (i.toNat * 2)).block, (ad.add (i.toNat * 2)).off + 1, none⟩ = some (.string (rd_T30 xs i).f1) := by
 obtain ⟨ad, c, e, _, hK, hc0⟩ := Kd.C_get h z30 i h0 h1
 have hc : ∀ j u, c[j]? = some u → w.cell? (ad.add (i.toNat * 2 + j)) = some u := hc0
 obtain rfl := k30_open hK
 exact ⟨ad, e, hc 0 _ rfl, by rw [← add_field _ _ 1 (by omega)]; exact hc 1 _ rfl⟩
def rd_L6 (xs : List (List S30)) (i : Int) : (List S30) := xs.getD i.toNat ([] : List S30)
theorem at_L6 {w : World} {A : Option Addr} {n : Nat} {xs : List (List S30)} (h : Kd.C (Kd.slice 30 k30) w A n xs) (i : Int) (h0 : 0 ≤ i) (h1 : i < n) : ∃ ad A0 c0, A = some ad ∧ w.cell? (ad.add i.toNat) = some (.slice A0 (rd_L6 xs i).length c0) ∧ (rd_L6 xs i).length ≤ c0 ∧ k30.C w A0 (rd_L6 xs i).length (rd_L6 xs i) := by
 obtain ⟨ad, c, e, _, hK, hc0⟩ := Kd.C_get h ([] : List S30) i h0 h1
 have hc : ∀ j u, c[j]? = some u → w.cell? (ad.add (i.toNat * 1 + j)) = some u := hc0
 obtain ⟨A0, c0, rfl, l0, g0⟩ := hK
 exact ⟨ad, A0, c0, e, by have hq := hc 0 _ rfl; rwa [Nat.mul_one, Nat.add_zero] at hq, l0, g0⟩
structure S103 where
 f0 : (List Int)
 f1 : (List ByteArray)
 f2 : ByteArray
def decimal_pieces_trim.l0 : Nat → List Int → Option (List Int)
 | 0, _ => none
 | k + 1, x0 => if (x0.length : Int) > 0 then (if 0 ≤ (wrap64 ((x0.length : Int) - 1)) then (if (wrap64 ((x0.length : Int) - 1)) < (x0.length : Int) then (if (rd x0 (wrap64 ((x0.length : Int) - 1))) = 0 then (if (wrap64 ((x0.length : Int) - 1)) ≤ (x0.length : Int) then (decimal_pieces_trim.l0 k (x0.take ((wrap64 ((x0.length : Int) - 1)) : Int).toNat)) else (none)) else (some x0)) else (none)) else (none)) else (some x0)
def decimal_pieces_trim.f (k : Nat) (l0 : List Int) : Option (List Int) := decimal_pieces_trim.l0 k l0
theorem decimal_pieces_trim.calls (k : Nat) (P0_ : Nat → Prop) (u9000_ : Value) (l0 : List Int) (r : List Int) (w0 w : World) (hB : Below w0.heap.size w0 w) (ho0 : Kd.R (Kd.int .u64) 112 w w0.heap.size P0_ u9000_ l0) (h : decimal_pieces_trim.f k l0 = some r) :
  Calls Tryz.prog 158 #[u9000_] w fun e w' => ∃ v0_ : Value, e = .returned (v0_) ∧ Kd.R (Kd.int .u64) 112 w' w0.heap.size (fun k_ => (P0_ k_ ∨ w.heap.size ≤ k_)) v0_ r ∧ Below w0.heap.size w0 w' ∧ Kept w w' (fun k_ => P0_ k_) := by
 have HO0 := am (show Kd.R (Kd.int .u64) 112 w w0.heap.size (fun k_ => (P0_ k_ ∨ w.heap.size ≤ k_)) u9000_ l0 from Kd.R_mono ho0 (fun k_ hk => (.inl hk)))
 have HK := am (Kept.refl w (fun k_ => P0_ k_))
 have HW0 := am hB.size
 have HB := am hB
 clear hB
 have H := h
 unfold decimal_pieces_trim.f at H
 clear h
 have H' := am H
 clear H
 go_enter Tryz.func158, Tryz.ntmps158
 go_wp2
 go_loopg [0] k (fun kq v0 w' => ∃ (x0_1 : List Int), Aside0 (decimal_pieces_trim.l0 kq x0_1 = some r) ∧ Aside0 (kq ≤ k) ∧ Aside0 (Kd.R (Kd.int .u64) 112 w' w0.heap.size (fun k_ => (P0_ k_ ∨ w.heap.size ≤ k_)) v0 x0_1) ∧ Aside0 (Kept w w' (fun k_ => P0_ k_)) ∧ Aside0 (Below w0.heap.size w0 w'))
 case atStart => exact ⟨(l0), H', ⟨Nat.le_refl _⟩, ⟨kr HO0⟩, ⟨by repeat (first | (with_reducible first | exact HK.out | apply Kept.alloc | apply Kept.drewN | apply Kept.drew) | exact HK.out)⟩, ⟨bl HB⟩⟩
 case round =>
  clear H'
  try clear c1
  obtain ⟨x0_1, HA, HK1, HO_0, HK, HB⟩ := hrel
  cases gk with
  | zero => exact absurd HA.out (by simp [decimal_pieces_trim.l0])
  | succ k1 =>
   have H := HA.out
   clear HA
   simp only [decimal_pieces_trim.l0] at H
   by_cases c2 : (x0_1.length : Int) > 0
   ·rw [if_pos c2] at H
    have c2b0 : decide (0 < (x0_1.length : Int)) = true := decide_eq_true c2
    have c2b1 : decide (0 < x0_1.length) = true := decide_eq_true (by omega)
    clear c2
    obtain ⟨ji3, hji3⟩ : ∃ j_ : Int, (wrap64 ((x0_1.length : Int) - 1)) = j_ := ⟨_, rfl⟩
    first | rw [hji3] at H | simp only [hji3] at H | skip
    have hji3w : (IntKind.i64.wrap ((x0_1.length : Int) - 1)) = ji3 := (i64_w _).trans hji3
    by_cases c4 : 0 ≤ (ji3)
    case neg => rw [if_neg c4] at H; cases H
    rw [if_pos c4] at H
    have c4b0 := decide_eq_true c4
    clear c4
    by_cases c5 : (ji3) < (x0_1.length : Int)
    case neg => rw [if_neg c5] at H; cases H
    rw [if_pos c5] at H
    have c5b0 := decide_eq_true c5
    clear c5
    by_cases c6 : (rd x0_1 (ji3)) = 0
    ·rw [if_pos c6] at H
     have c6b0 := beq_iff_eq.mpr c6
     have c6b1 := bne_eq_false_iff_eq.mpr c6
     clear c6
     by_cases c7 : (ji3) ≤ (x0_1.length : Int)
     case neg => rw [if_neg c7] at H; cases H
     rw [if_pos c7] at H
     have c7b0 := eq_true c7
     have c7b1 := decide_eq_true c7
     clear c7
     obtain ⟨y134, hy134⟩ : ∃ y_ : List Int, y_ = (x0_1.take ((ji3) : Int).toNat) := ⟨_, rfl⟩
     first | rw [Option.bind_some, ← hy134] at H | rw [← hy134] at H
     have Ny134 := am hy134
     clear hy134
     have H' := am H
     clear H
     obtain ⟨Ao8, co8, eo8⟩ := Kd.R_slice HO_0.out
     subst eo8
     have p133 : 0 ≤ ((ji3) : Int) := of_decide_eq_true (by first | (with_reducible assumption) | assumption)
     have q133 : (ji3) < (x0_1.length : Int) := of_decide_eq_true (by first | (with_reducible assumption) | assumption)
     obtain ⟨ad133, e133, hx133_0⟩ := Kd.at_int (Kd.R_reads' HO_0.out).2.2 (ji3) p133 q133
     cases e133
     replace p133 := eq_true p133
     replace q133 := eq_true q133
     have q9 : ((ji3) : Int) ≤ ((x0_1.length : Int) : Int) := of_decide_eq_true (by first | (with_reducible assumption) | assumption)
     obtain ⟨i09, hi09, _, hsz9, _⟩ := info_parts info112
     have hcut9 := cut_to (P := Tryz.prog) 178 112 .i64 Tryz.underlying178 hi09 (some ad133) x0_1.length co8 (ji3) (of_decide_eq_true (by first | (with_reducible assumption) | assumption)) q9 (Kd.R_reads' HO_0.out).2.1
     have hr9 := Kd.R_take (m := ((ji3) : Int).toNat) HO_0.out (by omega)
     have hy9 : y134.length = ((ji3) : Int).toNat := (by rw [Ny134.out, List.length_take]; omega)
     rw [← Ny134.out] at hr9
     rw [← hy9] at hr9 hcut9
     clear hy9 hi09 hsz9 HO_0
     have HO136 := am hr9
     clear hr9
     replace q9 := eq_true q9
     go_wp2
     go_roundg k1
     case measure => have := HK1.out; omega
     case rel => exact ⟨(y134), H', ⟨by have := HK1.out; omega⟩, ⟨kr HO136⟩, ⟨by repeat (first | (with_reducible first | exact HK.out | apply Kept.alloc | apply Kept.drewN | apply Kept.drew) | exact HK.out)⟩, ⟨bl HB⟩⟩
    ·rw [if_neg c6] at H
     have c6b0 := beq_eq_false_iff_ne.mpr c6
     have c6b1 := bne_iff_ne.mpr c6
     obtain rfl := Option.some.inj H
     obtain ⟨Ao10, co10, eo10⟩ := Kd.R_slice HO_0.out
     subst eo10
     have p133 : 0 ≤ ((ji3) : Int) := of_decide_eq_true (by first | (with_reducible assumption) | assumption)
     have q133 : (ji3) < (x0_1.length : Int) := of_decide_eq_true (by first | (with_reducible assumption) | assumption)
     obtain ⟨ad133, e133, hx133_0⟩ := Kd.at_int (Kd.R_reads' HO_0.out).2.2 (ji3) p133 q133
     cases e133
     replace p133 := eq_true p133
     replace q133 := eq_true q133
     go_wp2
     go_ret
     exact ⟨_, by first | rfl | (simp [errW_none, errW_some] <;> rfl) | (simp only [← hji3]; first | rfl | (simp [errW_none, errW_some] <;> rfl)) | (simp [*, errW_none, errW_some] <;> rfl), kr HO_0, bl HB, by repeat (first | (with_reducible first | exact HK.out | apply Kept.alloc | apply Kept.drewN | apply Kept.drew) | exact HK.out)⟩
   ·rw [if_neg c2] at H
    have c2b0 : decide (0 < (x0_1.length : Int)) = false := decide_eq_false c2
    have c2b1 : decide (0 < x0_1.length) = false := decide_eq_false (by omega)
    clear c2
    obtain rfl := Option.some.inj H
    obtain ⟨Ao11, co11, eo11⟩ := Kd.R_slice HO_0.out
    subst eo11
    go_wp2
    go_ret
    exact ⟨_, rl, kr HO_0, bl HB, by repeat (first | (with_reducible first | exact HK.out | apply Kept.alloc | apply Kept.drewN | apply Kept.drew) | exact HK.out)⟩
def decimal_pieces_small.l0 : Nat → List Int → Int → List Int → Int → Int → Option (List Int × Int)
 | 0, _, _, _, _, _ => none
 | k + 1, x0, x1, x6, x7, x8 => if x8 ≥ 0 then (if 0 ≤ x8 then (if x8 < (x0.length : Int) then (if x1 = 0 then (none) else (if x8 < (x6.length : Int) then (decimal_pieces_small.l0 k x0 x1 (x6.set (x8 : Int).toNat (IntKind.u64.wrap (Int.tdiv (IntKind.u64.wrap ((IntKind.u64.wrap (x7 * 1000000000)) + (rd x0 x8))) x1))) (Int.tmod (IntKind.u64.wrap ((IntKind.u64.wrap (x7 * 1000000000)) + (rd x0 x8))) x1) (wrap64 (x8 - 1))) else (none))) else (none)) else (none)) else ((decimal_pieces_trim.f k x6).bind fun t142 => (some (t142, x7)))
def decimal_pieces_small.f (k : Nat) (l0 : List Int) (a1 : Int) : Option (List Int × Int) := if 0 ≤ (l0.length : Int) then (if ((l0.length : Int) : Int).toNat ≤ 35184372088832 then (decimal_pieces_small.l0 k l0 a1 (List.replicate ((l0.length : Int) : Int).toNat 0) 0 (wrap64 ((l0.length : Int) - 1))) else (none)) else (none)
theorem decimal_pieces_small.calls (k : Nat) (A0 : Option Addr) (c0 : Nat) (l0 : List Int) (a1 : Int) (r1 : List Int) (r2 : Int) (w : World) (hr0 : Kd.C (Kd.int .u64) w A0 l0.length l0) (hc0 : l0.length ≤ c0) (h : decimal_pieces_small.f k l0 a1 = some (r1, r2)) :
  Calls Tryz.prog 155 #[.slice A0 l0.length c0, .int .u64 a1] w fun e w' => ∃ v0_ : Value, e = .returned (.tuple #[v0_, .int .u64 r2]) ∧ Kd.R (Kd.int .u64) 112 w' w.heap.size (fun _ => True) v0_ r1 ∧ Below w.heap.size w w' := by
 have HR0 := am hr0
 have HC0 := am hc0
 clear hr0 hc0
 have HB := am (Below.refl w.heap.size w)
 have H := h
 unfold decimal_pieces_small.f at H
 clear h
 by_cases c3 : 0 ≤ (l0.length : Int)
 case neg => rw [if_neg c3] at H; cases H
 rw [if_pos c3] at H
 have c3b0 := eq_true c3
 have c3b1 := decide_eq_true c3
 clear c3
 by_cases c4 : ((l0.length : Int) : Int).toNat ≤ 35184372088832
 case neg => rw [if_neg c4] at H; cases H
 rw [if_pos c4] at H
 have c4b0 := eq_true c4
 have c4b1 := decide_eq_true c4
 clear c4
 obtain ⟨y137, hy137⟩ : ∃ y_ : List Int, y_ = (List.replicate ((l0.length : Int) : Int).toNat 0) := ⟨_, rfl⟩
 first | rw [Option.bind_some, ← hy137] at H | rw [← hy137] at H
 have Ny137 := am hy137
 clear hy137
 have H' := am H
 clear H
 go_enter Tryz.func155, Tryz.ntmps155
 go_wp2_with (first | ((with_reducible refine gd (N := 11) rfl ?_); refine Kd.R_make (Kd.int .u64) _ 112 rfl (N := 11) rfl 178 _ _ rfl (l0.length : Int) rfl rfl Tryz.underlying178 (.int .u64 0) 8 info112 rfl (by decide) (by omega) 0 (ok := fun _ => True) (okp := fun _ => True) rfl (fun _ hk => hk) trivial (of_decide_eq_true (by first | (with_reducible assumption) | assumption)) (Nat.le_trans (Nat.mul_le_mul_right _ (of_decide_eq_true (by first | (with_reducible assumption) | assumption) : (l0.length : Int).toNat ≤ 35184372088832)) (by omega)) (Below.refl _ _) (Nat.le_refl _) ?_; intro v138 w5 ho6 hb hg_ hnew_; clear hg_ hnew_; (first | rw [← Ny137.out] at ho6 | (simp only [Int.reduceToNat] at ho6; rw [← Ny137.out] at ho6)); have HO139 := am (Kd.R_lower ho6 (below_size (bl HB))); replace HB := bs HB hb; clear hb ho6))
 go_loopg [7, 8] k (fun kq v7 v8 w' => ∃ (x6_1 : List Int) (x7_1 : Int) (x8_1 : Int), v7 = .int .u64 x7_1 ∧ v8 = .int .i64 x8_1 ∧ Aside0 (decimal_pieces_small.l0 kq l0 a1 x6_1 x7_1 x8_1 = some (r1, r2)) ∧ Aside0 (kq ≤ k) ∧ Aside0 (Kd.R (Kd.int .u64) 112 w' w.heap.size (fun _ => True) v138 x6_1) ∧ Aside0 (Below w.heap.size w w'))
 case atStart => exact ⟨(y137), (0), (wrap64 ((l0.length : Int) - 1)), rs, rs, H', ⟨Nat.le_refl _⟩, ⟨kr HO139⟩, ⟨bl HB⟩⟩
 case round =>
  clear H'
  try clear c1
  try clear p2
  try clear c3
  try clear c3b0
  try clear c3b1
  try clear c4
  try clear c4b0
  try clear c4b1
  try clear p6
  obtain ⟨x6_1, x7_1, x8_1, rfl, rfl, HA, HK1, HO_6, HB⟩ := hrel
  cases gk with
  | zero => exact absurd HA.out (by simp [decimal_pieces_small.l0])
  | succ k1 =>
   have H := HA.out
   clear HA
   simp only [decimal_pieces_small.l0] at H
   by_cases c7 : x8_1 ≥ 0
   ·rw [if_pos c7] at H
    have c7b0 : decide (0 ≤ x8_1) = true := decide_eq_true c7
    clear c7
    by_cases c8 : 0 ≤ x8_1
    case neg => rw [if_neg c8] at H; cases H
    rw [if_pos c8] at H
    have c8b0 := decide_eq_true c8
    clear c8
    by_cases c9 : x8_1 < (l0.length : Int)
    case neg => rw [if_neg c9] at H; cases H
    rw [if_pos c9] at H
    have c9b0 := decide_eq_true c9
    clear c9
    by_cases c10 : a1 = 0
    case pos => rw [if_pos c10] at H; cases H
    rw [if_neg c10] at H
    have c10b0 := beq_eq_false_iff_ne.mpr c10
    have c10b1 := bne_iff_ne.mpr c10
    by_cases c11 : x8_1 < (x6_1.length : Int)
    case neg => rw [if_neg c11] at H; cases H
    rw [if_pos c11] at H
    have c11b0 := decide_eq_true c11
    clear c11
    obtain ⟨y141, hy141⟩ : ∃ y_ : List Int, y_ = (x6_1.set (x8_1 : Int).toNat (IntKind.u64.wrap (Int.tdiv (IntKind.u64.wrap ((IntKind.u64.wrap (x7_1 * 1000000000)) + (rd l0 x8_1))) a1))) := ⟨_, rfl⟩
    first | rw [Option.bind_some, ← hy141] at H | rw [← hy141] at H
    have Ny141 := am hy141
    clear hy141
    have H' := am H
    clear H
    have p140 : 0 ≤ (x8_1 : Int) := of_decide_eq_true (by first | (with_reducible assumption) | assumption)
    have q140 : x8_1 < (l0.length : Int) := of_decide_eq_true (by first | (with_reducible assumption) | assumption)
    obtain ⟨ad140, e140, hx140_0⟩ := Kd.at_int HR0.out x8_1 p140 q140
    cases e140
    replace hx140_0 := (HB.out.cell (World.block_lt_of_cell? w _ hx140_0)).trans hx140_0
    replace p140 := eq_true p140
    replace q140 := eq_true q140
    have p12 : 0 ≤ (x8_1 : Int) := of_decide_eq_true (by first | (with_reducible assumption) | assumption)
    have q12 : (x8_1 : Int) < ((x6_1.length : Int) : Int) := of_decide_eq_true (by first | (with_reducible assumption) | assumption)
    obtain ⟨go12, co12, eo12, gb12, gl12, cl12, HG12⟩ := Kd.R_form HO_6.out (by omega)
    (first | cases eo12 | (injection eo12 with ea_ en_ ec_; (first | subst ea_ | (injection ea_ with ea_; subst ea_)); subst ec_; clear en_))
    have GB12 := am gb12
    have GG12 := am HG12
    clear gb12 gl12 HG12
    obtain ⟨hx12_0, hf12_0⟩ := Kd.R_celln 0 HO_6.out (x8_1 : Int) p12 q12
    replace p12 := eq_true p12
    replace q12 := eq_true q12
    have HP13 := Kd.R_putg HO_6.out (x8_1 : Int) (IntKind.u64.wrap (Int.tdiv (IntKind.u64.wrap ((IntKind.u64.wrap (x7_1 * 1000000000)) + (rd l0 x8_1))) a1))
    go_wp2_with (first | ((with_reducible refine gate_store (t := 112) (p := 31) rfl ?_); refine store_event (t := 112) (p := 31) (v := ?vo_w14) (w1 := (wr.setCell ⟨go12, (x8_1 : Int).toNat, none⟩ (.int .u64 (IntKind.u64.wrap (Int.tdiv (IntKind.u64.wrap ((IntKind.u64.wrap (x7_1 * 1000000000)) + (rd l0 x8_1))) a1))))) ?hg ?ho ?hn ?hr ?_; (case ho => rfl); (case hg => rfl); (case hn => rfl); (case hr => first | (go_simp; done) | (go_simp; rfl)); intro w14 hw; have hg : wr.grownBy w14 (some go12) := (by rw [hw]; exact HP13.2); have hp_ : Kd.R (Kd.int .u64) 112 w14 w.heap.size (fun _ => True) (.slice (some ⟨go12, 0, none⟩) x6_1.length co12) y141 := (by rw [hw, Ny141.out]; exact HP13.1); clear HP13; replace HO_6 := am (hp_); replace HB := am ((by rw [hw]; exact below_set (HB.out) GB12.out : Below w.heap.size w w14)); clear hg hw hp_))
    go_roundg k1
    case measure => have := HK1.out; omega
    case rel => exact ⟨(y141), (Int.tmod (IntKind.u64.wrap ((IntKind.u64.wrap (x7_1 * 1000000000)) + (rd l0 x8_1))) a1), (wrap64 (x8_1 - 1)), rs, rs, H', ⟨by have := HK1.out; omega⟩, ⟨kr HO_6⟩, ⟨bl HB⟩⟩
   ·rw [if_neg c7] at H
    have c7b0 : decide (0 ≤ x8_1) = false := decide_eq_false c7
    clear c7
    obtain ⟨t142, A15, H⟩ := bo H
    try dsimp only at H
    simp only [Option.some.injEq, Prod.mk.injEq] at H
    obtain ⟨rfl, rfl⟩ := H
    obtain ⟨Ao16, co16, eo16⟩ := Kd.R_slice HO_6.out
    subst eo16
    go_wp2_with (first | ((with_reducible refine gc (f := 158) rfl ?_); refine goesM (some 36) Tryz.func158 #[.slice Ao16 x6_1.length co16] ?_; (with_reducible refine (decimal_pieces_trim.calls k1 (fun k_ => some k_ = (.slice Ao16 x6_1.length co16 : Value).ownBlock) (.slice Ao16 x6_1.length co16) x6_1 t142 w _ ?s1 ?s2 A15.out).mono ?_); (case s1 => repeat (first | (with_reducible first | exact HB.out | apply below_alloc | apply pw_below_drewN | apply below_drew1) | exact HB.out)); (case s2 => exact Kd.R_tight rfl HO_6.out); rintro e w17 ⟨v143, rfl, ho0, hb, hkp⟩; refine ⟨_, rfl, ?_⟩; have n0_ := am (Kd.R_mono (ok' := fun k_ => True) ho0 (fun k_ hk_ => trivial)); have n1_ := am (hb); clear HB; clear HO_6; have HO144 := n0_; have HB := n1_; clear n0_ n1_; (try clear hb); (try clear hkp); (try clear ho0)))
    go_ret2
    exact ⟨_, rl, kr HO144, bl HB⟩
def decimal_pieces_back.l0 : Nat → List Int → List Int → Int → Int → Int → Option (List Int)
 | 0, _, _, _, _, _ => none
 | k + 1, x0, x1, x2, x6, x7 => if x7 ≤ (x1.length : Int) then (if 0 ≤ (wrap64 (x2 + x7)) then (if (wrap64 (x2 + x7)) < (x0.length : Int) then (if x7 < (x1.length : Int) then (if 0 ≤ x7 then (decimal_pieces_back.l0 k (x0.set ((wrap64 (x2 + x7)) : Int).toNat (Int.tmod (IntKind.u64.wrap ((IntKind.u64.wrap (x6 + (rd x0 (wrap64 (x2 + x7))))) + (rd x1 x7))) 1000000000)) x1 x2 (IntKind.u64.wrap (Int.tdiv (IntKind.u64.wrap ((IntKind.u64.wrap (x6 + (rd x0 (wrap64 (x2 + x7))))) + (rd x1 x7))) 1000000000)) (wrap64 (x7 + 1))) else (none)) else (decimal_pieces_back.l0 k (x0.set ((wrap64 (x2 + x7)) : Int).toNat (Int.tmod (IntKind.u64.wrap (x6 + (rd x0 (wrap64 (x2 + x7))))) 1000000000)) x1 x2 (IntKind.u64.wrap (Int.tdiv (IntKind.u64.wrap (x6 + (rd x0 (wrap64 (x2 + x7))))) 1000000000)) (wrap64 (x7 + 1)))) else (none)) else (none)) else (some x0)
def decimal_pieces_back.f (k : Nat) (l0 : List Int) (l1 : List Int) (a2 : Int) : Option (List Int) := decimal_pieces_back.l0 k l0 l1 a2 0 0
theorem decimal_pieces_back.calls (k : Nat) (P0_ : Nat → Prop) (u9000_ : Value) (l0 : List Int) (A1 : Option Addr) (c1 : Nat) (l1 : List Int) (a2 : Int) (r : List Int) (w0 w : World) (hB : Below w0.heap.size w0 w) (ho0 : Kd.R (Kd.int .u64) 112 w w0.heap.size P0_ u9000_ l0) (hr1 : ∀ W_, Kept w W_ (fun k_ => P0_ k_) → Kd.C (Kd.int .u64) W_ A1 l1.length l1) (hc1 : l1.length ≤ c1) (h : decimal_pieces_back.f k l0 l1 a2 = some r) :
  Calls Tryz.prog 157 #[u9000_, .slice A1 l1.length c1, .int .i64 a2] w fun e w' => e = .returned (.tuple #[]) ∧ Kd.R (Kd.int .u64) 112 w' w0.heap.size (fun k_ => (P0_ k_ ∨ w.heap.size ≤ k_)) u9000_ r ∧ Below w0.heap.size w0 w' ∧ Kept w w' (fun k_ => P0_ k_) := by
 have HO0 := am (show Kd.R (Kd.int .u64) 112 w w0.heap.size (fun k_ => (P0_ k_ ∨ w.heap.size ≤ k_)) u9000_ l0 from Kd.R_mono ho0 (fun k_ hk => (.inl hk)))
 have HR1 := am hr1
 have HC1 := am hc1
 clear hr1 hc1
 have HK := am (Kept.refl w (fun k_ => P0_ k_))
 have HW0 := am hB.size
 have HB := am hB
 clear hB
 have H := h
 unfold decimal_pieces_back.f at H
 clear h
 have H' := am H
 clear H
 go_enter Tryz.func157, Tryz.ntmps157
 go_wp2
 go_loopg [6, 7] k (fun kq v6 v7 w' => ∃ (x0_1 : List Int) (x6_1 : Int) (x7_1 : Int), v6 = .int .u64 x6_1 ∧ v7 = .int .i64 x7_1 ∧ Aside0 (decimal_pieces_back.l0 kq x0_1 l1 a2 x6_1 x7_1 = some r) ∧ Aside0 (kq ≤ k) ∧ Aside0 (Kd.R (Kd.int .u64) 112 w' w0.heap.size (fun k_ => (P0_ k_ ∨ w.heap.size ≤ k_)) u9000_ x0_1) ∧ Aside0 (Kept w w' (fun k_ => P0_ k_)) ∧ Aside0 (Below w0.heap.size w0 w'))
 case atStart => exact ⟨(l0), (0), (0), rs, rs, H', ⟨Nat.le_refl _⟩, ⟨kr HO0⟩, ⟨by repeat (first | (with_reducible first | exact HK.out | apply Kept.alloc | apply Kept.drewN | apply Kept.drew) | exact HK.out)⟩, ⟨bl HB⟩⟩
 case round =>
  clear H'
  try clear c1
  try clear p2
  obtain ⟨x0_1, x6_1, x7_1, rfl, rfl, HA, HK1, HO_0, HK, HB⟩ := hrel
  cases gk with
  | zero => exact absurd HA.out (by simp [decimal_pieces_back.l0])
  | succ k1 =>
   have H := HA.out
   clear HA
   simp only [decimal_pieces_back.l0] at H
   by_cases c4 : x7_1 ≤ (l1.length : Int)
   ·rw [if_pos c4] at H
    have c4b0 := decide_eq_true c4
    clear c4
    obtain ⟨ji5, hji5⟩ : ∃ j_ : Int, (wrap64 (a2 + x7_1)) = j_ := ⟨_, rfl⟩
    first | rw [hji5] at H | simp only [hji5] at H | skip
    have hji5w : (IntKind.i64.wrap (a2 + x7_1)) = ji5 := (i64_w _).trans hji5
    by_cases c6 : 0 ≤ (ji5)
    case neg => rw [if_neg c6] at H; cases H
    rw [if_pos c6] at H
    have c6b0 := decide_eq_true c6
    clear c6
    by_cases c7 : (ji5) < (x0_1.length : Int)
    case neg => rw [if_neg c7] at H; cases H
    rw [if_pos c7] at H
    have c7b0 := decide_eq_true c7
    clear c7
    by_cases c8 : x7_1 < (l1.length : Int)
    ·rw [if_pos c8] at H
     have c8b0 := decide_eq_true c8
     clear c8
     by_cases c9 : 0 ≤ x7_1
     case neg => rw [if_neg c9] at H; cases H
     rw [if_pos c9] at H
     have c9b0 := decide_eq_true c9
     clear c9
     obtain ⟨y147, hy147⟩ : ∃ y_ : List Int, y_ = (x0_1.set ((ji5) : Int).toNat (Int.tmod (IntKind.u64.wrap ((IntKind.u64.wrap (x6_1 + (rd x0_1 (ji5)))) + (rd l1 x7_1))) 1000000000)) := ⟨_, rfl⟩
     first | rw [Option.bind_some, ← hy147] at H | rw [← hy147] at H
     have Ny147 := am hy147
     clear hy147
     have H' := am H
     clear H
     obtain ⟨Ao11, co11, eo11⟩ := Kd.R_slice HO_0.out
     subst eo11
     have p145 : 0 ≤ ((ji5) : Int) := of_decide_eq_true (by first | (with_reducible assumption) | assumption)
     have q145 : (ji5) < (x0_1.length : Int) := of_decide_eq_true (by first | (with_reducible assumption) | assumption)
     obtain ⟨ad145, e145, hx145_0⟩ := Kd.at_int (Kd.R_reads' HO_0.out).2.2 (ji5) p145 q145
     cases e145
     replace p145 := eq_true p145
     replace q145 := eq_true q145
     have p146 : 0 ≤ (x7_1 : Int) := of_decide_eq_true (by first | (with_reducible assumption) | assumption)
     have q146 : x7_1 < (l1.length : Int) := of_decide_eq_true (by first | (with_reducible assumption) | assumption)
     obtain ⟨ad146, e146, hx146_0⟩ := Kd.at_int (Kd.C_kept_now HR1.out HK.out) x7_1 p146 q146
     cases e146
     replace p146 := eq_true p146
     replace q146 := eq_true q146
     have p10 : 0 ≤ ((ji5) : Int) := of_decide_eq_true (by first | (with_reducible assumption) | assumption)
     have q10 : ((ji5) : Int) < ((x0_1.length : Int) : Int) := of_decide_eq_true (by first | (with_reducible assumption) | assumption)
     obtain ⟨go10, co10, eo10, gb10, gl10, cl10, HG10⟩ := Kd.R_form HO_0.out (by omega)
     (first | cases eo10 | (injection eo10 with ea_ en_ ec_; (first | subst ea_ | (injection ea_ with ea_; subst ea_)); subst ec_; clear en_))
     have GB10 := am gb10
     have GG10 := am HG10
     clear gb10 gl10 HG10
     have HMgo10 := am (show (P0_ go10 ∨ w.heap.size ≤ go10) from (HO_0.out.1 _ rfl))
     (first | simp only [add_plain] at hx145_0 | skip)
     obtain ⟨hx10_0, hf10_0⟩ := Kd.R_celln 0 HO_0.out ((ji5) : Int) p10 q10
     replace p10 := eq_true p10
     replace q10 := eq_true q10
     have HP12 := Kd.R_putg HO_0.out ((ji5) : Int) (Int.tmod (IntKind.u64.wrap ((IntKind.u64.wrap (x6_1 + (rd x0_1 (ji5)))) + (rd l1 x7_1))) 1000000000)
     go_wp2_with (first | ((with_reducible refine gate_store (t := 112) (p := 38) rfl ?_); refine store_event (t := 112) (p := 38) (v := ?vo_w13) (w1 := (wr.setCell ⟨go10, ((ji5) : Int).toNat, none⟩ (.int .u64 (Int.tmod (IntKind.u64.wrap ((IntKind.u64.wrap (x6_1 + (rd x0_1 (ji5)))) + (rd l1 x7_1))) 1000000000)))) ?hg ?ho ?hn ?hr ?_; (case ho => rfl); (case hg => rfl); (case hn => rfl); (case hr => first | (go_simp; done) | (go_simp; rfl)); intro w13 hw; have hg : wr.grownBy w13 (some go10) := (by rw [hw]; exact HP12.2); have hp_ : Kd.R (Kd.int .u64) 112 w13 w0.heap.size (fun k_ => (P0_ k_ ∨ w.heap.size ≤ k_)) (.slice (some ⟨go10, 0, none⟩) x0_1.length co11) y147 := (by rw [hw, Ny147.out]; exact HP12.1); clear HP12; replace HB := am ((by rw [hw]; exact below_set (HB.out) GB10.out : Below w0.heap.size w0 w13)); replace HK := am (Kept.of_grown (S := (fun k_ => P0_ k_)) hg (by repeat (first | (with_reducible first | exact HK.out | apply Kept.alloc | apply Kept.drewN | apply Kept.drew) | exact HK.out)) (fun k_ e_ => (HO_0.out.1 k_ e_))); replace HO_0 := am (hp_); clear hg hw hp_))
     go_roundg k1
     case measure => have := HK1.out; omega
     case rel => exact ⟨(y147), (IntKind.u64.wrap (Int.tdiv (IntKind.u64.wrap ((IntKind.u64.wrap (x6_1 + (rd x0_1 (ji5)))) + (rd l1 x7_1))) 1000000000)), (wrap64 (x7_1 + 1)), (by first | rfl | (simp; done) | (simp only [← hji5] <;> (first | rfl | simp)) | (simp [*]; done)), rs, H', ⟨by have := HK1.out; omega⟩, ⟨kr HO_0⟩, ⟨by repeat (first | (with_reducible first | exact HK.out | apply Kept.alloc | apply Kept.drewN | apply Kept.drew) | exact HK.out)⟩, ⟨bl HB⟩⟩
    ·rw [if_neg c8] at H
     have c8b0 := decide_eq_false c8
     clear c8
     obtain ⟨y148, hy148⟩ : ∃ y_ : List Int, y_ = (x0_1.set ((ji5) : Int).toNat (Int.tmod (IntKind.u64.wrap (x6_1 + (rd x0_1 (ji5)))) 1000000000)) := ⟨_, rfl⟩
     first | rw [Option.bind_some, ← hy148] at H | rw [← hy148] at H
     have Ny148 := am hy148
     clear hy148
     have H' := am H
     clear H
     obtain ⟨Ao15, co15, eo15⟩ := Kd.R_slice HO_0.out
     subst eo15
     have p145 : 0 ≤ ((ji5) : Int) := of_decide_eq_true (by first | (with_reducible assumption) | assumption)
     have q145 : (ji5) < (x0_1.length : Int) := of_decide_eq_true (by first | (with_reducible assumption) | assumption)
     obtain ⟨ad145, e145, hx145_0⟩ := Kd.at_int (Kd.R_reads' HO_0.out).2.2 (ji5) p145 q145
     cases e145
     replace p145 := eq_true p145
     replace q145 := eq_true q145
     have p14 : 0 ≤ ((ji5) : Int) := of_decide_eq_true (by first | (with_reducible assumption) | assumption)
     have q14 : ((ji5) : Int) < ((x0_1.length : Int) : Int) := of_decide_eq_true (by first | (with_reducible assumption) | assumption)
     obtain ⟨go14, co14, eo14, gb14, gl14, cl14, HG14⟩ := Kd.R_form HO_0.out (by omega)
     (first | cases eo14 | (injection eo14 with ea_ en_ ec_; (first | subst ea_ | (injection ea_ with ea_; subst ea_)); subst ec_; clear en_))
     have GB14 := am gb14
     have GG14 := am HG14
     clear gb14 gl14 HG14
     have HMgo14 := am (show (P0_ go14 ∨ w.heap.size ≤ go14) from (HO_0.out.1 _ rfl))
     (first | simp only [add_plain] at hx145_0 | skip)
     obtain ⟨hx14_0, hf14_0⟩ := Kd.R_celln 0 HO_0.out ((ji5) : Int) p14 q14
     replace p14 := eq_true p14
     replace q14 := eq_true q14
     have HP16 := Kd.R_putg HO_0.out ((ji5) : Int) (Int.tmod (IntKind.u64.wrap (x6_1 + (rd x0_1 (ji5)))) 1000000000)
     go_wp2_with (first | ((with_reducible refine gate_store (t := 112) (p := 38) rfl ?_); refine store_event (t := 112) (p := 38) (v := ?vo_w17) (w1 := (wr.setCell ⟨go14, ((ji5) : Int).toNat, none⟩ (.int .u64 (Int.tmod (IntKind.u64.wrap (x6_1 + (rd x0_1 (ji5)))) 1000000000)))) ?hg ?ho ?hn ?hr ?_; (case ho => rfl); (case hg => rfl); (case hn => rfl); (case hr => first | (go_simp; done) | (go_simp; rfl)); intro w17 hw; have hg : wr.grownBy w17 (some go14) := (by rw [hw]; exact HP16.2); have hp_ : Kd.R (Kd.int .u64) 112 w17 w0.heap.size (fun k_ => (P0_ k_ ∨ w.heap.size ≤ k_)) (.slice (some ⟨go14, 0, none⟩) x0_1.length co15) y148 := (by rw [hw, Ny148.out]; exact HP16.1); clear HP16; replace HB := am ((by rw [hw]; exact below_set (HB.out) GB14.out : Below w0.heap.size w0 w17)); replace HK := am (Kept.of_grown (S := (fun k_ => P0_ k_)) hg (by repeat (first | (with_reducible first | exact HK.out | apply Kept.alloc | apply Kept.drewN | apply Kept.drew) | exact HK.out)) (fun k_ e_ => (HO_0.out.1 k_ e_))); replace HO_0 := am (hp_); clear hg hw hp_))
     go_roundg k1
     case measure => have := HK1.out; omega
     case rel => exact ⟨(y148), (IntKind.u64.wrap (Int.tdiv (IntKind.u64.wrap (x6_1 + (rd x0_1 (ji5)))) 1000000000)), (wrap64 (x7_1 + 1)), (by first | rfl | (simp; done) | (simp only [← hji5] <;> (first | rfl | simp)) | (simp [*]; done)), rs, H', ⟨by have := HK1.out; omega⟩, ⟨kr HO_0⟩, ⟨by repeat (first | (with_reducible first | exact HK.out | apply Kept.alloc | apply Kept.drewN | apply Kept.drew) | exact HK.out)⟩, ⟨bl HB⟩⟩
   ·rw [if_neg c4] at H
    have c4b0 := decide_eq_false c4
    clear c4
    obtain rfl := Option.some.inj H
    go_wp2
    first | go_end0 | ((try simp only [Exit.inBlock, Exit.then]); refine bodyPost_ret (results_none rfl _ _ _) rfl ?_)
    exact ⟨rl, kr HO_0, bl HB, by repeat (first | (with_reducible first | exact HK.out | apply Kept.alloc | apply Kept.drewN | apply Kept.drew) | exact HK.out)⟩
def decimal_pieces_take.l0 : Nat → List Int → List Int → Int → Int → Int → Int → Int → Option (Bool × List Int)
 | 0, _, _, _, _, _, _, _ => none
 | k + 1, x0, x1, x2, x3, x9, x10, x11 => if x11 ≤ (x1.length : Int) then (if x11 < (x1.length : Int) then (if 0 ≤ x11 then (if 0 ≤ (wrap64 (x3 + x11)) then (if (wrap64 (x3 + x11)) < (x0.length : Int) then (if (wrap64 ((wrap64 ((wrap64 (rd x0 (wrap64 (x3 + x11)))) - (wrap64 (Int.tmod (IntKind.u64.wrap (x10 + (IntKind.u64.wrap (x2 * (rd x1 x11))))) 1000000000)))) - x9)) < 0 then (decimal_pieces_take.l0 k (x0.set ((wrap64 (x3 + x11)) : Int).toNat (IntKind.u64.wrap (wrap64 ((wrap64 ((wrap64 ((wrap64 (rd x0 (wrap64 (x3 + x11)))) - (wrap64 (Int.tmod (IntKind.u64.wrap (x10 + (IntKind.u64.wrap (x2 * (rd x1 x11))))) 1000000000)))) - x9)) + 1000000000)))) x1 x2 x3 1 (IntKind.u64.wrap (Int.tdiv (IntKind.u64.wrap (x10 + (IntKind.u64.wrap (x2 * (rd x1 x11))))) 1000000000)) (wrap64 (x11 + 1))) else (decimal_pieces_take.l0 k (x0.set ((wrap64 (x3 + x11)) : Int).toNat (IntKind.u64.wrap (wrap64 ((wrap64 ((wrap64 (rd x0 (wrap64 (x3 + x11)))) - (wrap64 (Int.tmod (IntKind.u64.wrap (x10 + (IntKind.u64.wrap (x2 * (rd x1 x11))))) 1000000000)))) - x9)))) x1 x2 x3 0 (IntKind.u64.wrap (Int.tdiv (IntKind.u64.wrap (x10 + (IntKind.u64.wrap (x2 * (rd x1 x11))))) 1000000000)) (wrap64 (x11 + 1)))) else (none)) else (none)) else (none)) else (if 0 ≤ (wrap64 (x3 + x11)) then (if (wrap64 (x3 + x11)) < (x0.length : Int) then (if (wrap64 ((wrap64 ((wrap64 (rd x0 (wrap64 (x3 + x11)))) - (wrap64 (Int.tmod x10 1000000000)))) - x9)) < 0 then (decimal_pieces_take.l0 k (x0.set ((wrap64 (x3 + x11)) : Int).toNat (IntKind.u64.wrap (wrap64 ((wrap64 ((wrap64 ((wrap64 (rd x0 (wrap64 (x3 + x11)))) - (wrap64 (Int.tmod x10 1000000000)))) - x9)) + 1000000000)))) x1 x2 x3 1 (IntKind.u64.wrap (Int.tdiv x10 1000000000)) (wrap64 (x11 + 1))) else (decimal_pieces_take.l0 k (x0.set ((wrap64 (x3 + x11)) : Int).toNat (IntKind.u64.wrap (wrap64 ((wrap64 ((wrap64 (rd x0 (wrap64 (x3 + x11)))) - (wrap64 (Int.tmod x10 1000000000)))) - x9)))) x1 x2 x3 0 (IntKind.u64.wrap (Int.tdiv x10 1000000000)) (wrap64 (x11 + 1)))) else (none)) else (none))) else (some (decide (x9 > 0), x0))
def decimal_pieces_take.f (k : Nat) (l0 : List Int) (l1 : List Int) (a2 : Int) (a3 : Int) : Option (Bool × List Int) := decimal_pieces_take.l0 k l0 l1 a2 a3 0 0 0
theorem decimal_pieces_take.calls (k : Nat) (P0_ : Nat → Prop) (u9000_ : Value) (l0 : List Int) (A1 : Option Addr) (c1 : Nat) (l1 : List Int) (a2 : Int) (a3 : Int) (r1 : Bool) (r2 : List Int) (w0 w : World) (hB : Below w0.heap.size w0 w) (ho0 : Kd.R (Kd.int .u64) 112 w w0.heap.size P0_ u9000_ l0) (hr1 : ∀ W_, Kept w W_ (fun k_ => P0_ k_) → Kd.C (Kd.int .u64) W_ A1 l1.length l1) (hc1 : l1.length ≤ c1) (h : decimal_pieces_take.f k l0 l1 a2 a3 = some (r1, r2)) :
  Calls Tryz.prog 159 #[u9000_, .slice A1 l1.length c1, .int .u64 a2, .int .i64 a3] w fun e w' => e = .returned (.bool r1) ∧ Kd.R (Kd.int .u64) 112 w' w0.heap.size (fun k_ => (P0_ k_ ∨ w.heap.size ≤ k_)) u9000_ r2 ∧ Below w0.heap.size w0 w' ∧ Kept w w' (fun k_ => P0_ k_) := by
 have HO0 := am (show Kd.R (Kd.int .u64) 112 w w0.heap.size (fun k_ => (P0_ k_ ∨ w.heap.size ≤ k_)) u9000_ l0 from Kd.R_mono ho0 (fun k_ hk => (.inl hk)))
 have HR1 := am hr1
 have HC1 := am hc1
 clear hr1 hc1
 have HK := am (Kept.refl w (fun k_ => P0_ k_))
 have HW0 := am hB.size
 have HB := am hB
 clear hB
 have H := h
 unfold decimal_pieces_take.f at H
 clear h
 have H' := am H
 clear H
 go_enter Tryz.func159, Tryz.ntmps159
 go_wp2
 go_loopg [9, 10, 11] k (fun kq v9 v10 v11 w' => ∃ (x0_1 : List Int) (x9_1 : Int) (x10_1 : Int) (x11_1 : Int), v9 = .int .i64 x9_1 ∧ v10 = .int .u64 x10_1 ∧ v11 = .int .i64 x11_1 ∧ Aside0 (decimal_pieces_take.l0 kq x0_1 l1 a2 a3 x9_1 x10_1 x11_1 = some (r1, r2)) ∧ Aside0 (kq ≤ k) ∧ Aside0 (Kd.R (Kd.int .u64) 112 w' w0.heap.size (fun k_ => (P0_ k_ ∨ w.heap.size ≤ k_)) u9000_ x0_1) ∧ Aside0 (Kept w w' (fun k_ => P0_ k_)) ∧ Aside0 (Below w0.heap.size w0 w'))
 case atStart => exact ⟨(l0), (0), (0), (0), rs, rs, rs, H', ⟨Nat.le_refl _⟩, ⟨kr HO0⟩, ⟨by repeat (first | (with_reducible first | exact HK.out | apply Kept.alloc | apply Kept.drewN | apply Kept.drew) | exact HK.out)⟩, ⟨bl HB⟩⟩
 case round =>
  clear H'
  try clear c1
  try clear p2
  obtain ⟨x0_1, x9_1, x10_1, x11_1, rfl, rfl, rfl, HA, HK1, HO_0, HK, HB⟩ := hrel
  cases gk with
  | zero => exact absurd HA.out (by simp [decimal_pieces_take.l0])
  | succ k1 =>
   have H := HA.out
   clear HA
   simp only [decimal_pieces_take.l0] at H
   by_cases c5 : x11_1 ≤ (l1.length : Int)
   ·rw [if_pos c5] at H
    have c5b0 := decide_eq_true c5
    clear c5
    by_cases c6 : x11_1 < (l1.length : Int)
    ·rw [if_pos c6] at H
     have c6b0 := decide_eq_true c6
     clear c6
     by_cases c7 : 0 ≤ x11_1
     case neg => rw [if_neg c7] at H; cases H
     rw [if_pos c7] at H
     have c7b0 := decide_eq_true c7
     clear c7
     obtain ⟨ji8, hji8⟩ : ∃ j_ : Int, (wrap64 (a3 + x11_1)) = j_ := ⟨_, rfl⟩
     first | rw [hji8] at H | simp only [hji8] at H | skip
     have hji8w : (IntKind.i64.wrap (a3 + x11_1)) = ji8 := (i64_w _).trans hji8
     by_cases c9 : 0 ≤ (ji8)
     case neg => rw [if_neg c9] at H; cases H
     rw [if_pos c9] at H
     have c9b0 := decide_eq_true c9
     clear c9
     by_cases c10 : (ji8) < (x0_1.length : Int)
     case neg => rw [if_neg c10] at H; cases H
     rw [if_pos c10] at H
     have c10b0 := decide_eq_true c10
     clear c10
     by_cases c11 : (wrap64 ((wrap64 ((wrap64 (rd x0_1 (ji8))) - (wrap64 (Int.tmod (IntKind.u64.wrap (x10_1 + (IntKind.u64.wrap (a2 * (rd l1 x11_1))))) 1000000000)))) - x9_1)) < 0
     ·rw [if_pos c11] at H
      have c11b0 := decide_eq_true c11
      clear c11
      obtain ⟨y151, hy151⟩ : ∃ y_ : List Int, y_ = (x0_1.set ((ji8) : Int).toNat (IntKind.u64.wrap (wrap64 ((wrap64 ((wrap64 ((wrap64 (rd x0_1 (ji8))) - (wrap64 (Int.tmod (IntKind.u64.wrap (x10_1 + (IntKind.u64.wrap (a2 * (rd l1 x11_1))))) 1000000000)))) - x9_1)) + 1000000000)))) := ⟨_, rfl⟩
      first | rw [Option.bind_some, ← hy151] at H | rw [← hy151] at H
      have Ny151 := am hy151
      clear hy151
      have H' := am H
      clear H
      have p149 : 0 ≤ (x11_1 : Int) := of_decide_eq_true (by first | (with_reducible assumption) | assumption)
      have q149 : x11_1 < (l1.length : Int) := of_decide_eq_true (by first | (with_reducible assumption) | assumption)
      obtain ⟨ad149, e149, hx149_0⟩ := Kd.at_int (Kd.C_kept_now HR1.out HK.out) x11_1 p149 q149
      cases e149
      replace p149 := eq_true p149
      replace q149 := eq_true q149
      obtain ⟨Ao13, co13, eo13⟩ := Kd.R_slice HO_0.out
      subst eo13
      have p150 : 0 ≤ ((ji8) : Int) := of_decide_eq_true (by first | (with_reducible assumption) | assumption)
      have q150 : (ji8) < (x0_1.length : Int) := of_decide_eq_true (by first | (with_reducible assumption) | assumption)
      obtain ⟨ad150, e150, hx150_0⟩ := Kd.at_int (Kd.R_reads' HO_0.out).2.2 (ji8) p150 q150
      cases e150
      replace p150 := eq_true p150
      replace q150 := eq_true q150
      have p12 : 0 ≤ ((ji8) : Int) := of_decide_eq_true (by first | (with_reducible assumption) | assumption)
      have q12 : ((ji8) : Int) < ((x0_1.length : Int) : Int) := of_decide_eq_true (by first | (with_reducible assumption) | assumption)
      obtain ⟨go12, co12, eo12, gb12, gl12, cl12, HG12⟩ := Kd.R_form HO_0.out (by omega)
      (first | cases eo12 | (injection eo12 with ea_ en_ ec_; (first | subst ea_ | (injection ea_ with ea_; subst ea_)); subst ec_; clear en_))
      have GB12 := am gb12
      have GG12 := am HG12
      clear gb12 gl12 HG12
      have HMgo12 := am (show (P0_ go12 ∨ w.heap.size ≤ go12) from (HO_0.out.1 _ rfl))
      (first | simp only [add_plain] at hx150_0 | skip)
      obtain ⟨hx12_0, hf12_0⟩ := Kd.R_celln 0 HO_0.out ((ji8) : Int) p12 q12
      replace p12 := eq_true p12
      replace q12 := eq_true q12
      have HP14 := Kd.R_putg HO_0.out ((ji8) : Int) (IntKind.u64.wrap (wrap64 ((wrap64 ((wrap64 ((wrap64 (rd x0_1 (ji8))) - (wrap64 (Int.tmod (IntKind.u64.wrap (x10_1 + (IntKind.u64.wrap (a2 * (rd l1 x11_1))))) 1000000000)))) - x9_1)) + 1000000000)))
      go_wp2_with (first | ((with_reducible refine gate_store (t := 112) (p := 56) rfl ?_); refine store_event (t := 112) (p := 56) (v := ?vo_w15) (w1 := (wr.setCell ⟨go12, ((ji8) : Int).toNat, none⟩ (.int .u64 (IntKind.u64.wrap (wrap64 ((wrap64 ((wrap64 ((wrap64 (rd x0_1 (ji8))) - (wrap64 (Int.tmod (IntKind.u64.wrap (x10_1 + (IntKind.u64.wrap (a2 * (rd l1 x11_1))))) 1000000000)))) - x9_1)) + 1000000000)))))) ?hg ?ho ?hn ?hr ?_; (case ho => rfl); (case hg => rfl); (case hn => rfl); (case hr => first | (go_simp; done) | (go_simp; rfl)); intro w15 hw; have hg : wr.grownBy w15 (some go12) := (by rw [hw]; exact HP14.2); have hp_ : Kd.R (Kd.int .u64) 112 w15 w0.heap.size (fun k_ => (P0_ k_ ∨ w.heap.size ≤ k_)) (.slice (some ⟨go12, 0, none⟩) x0_1.length co13) y151 := (by rw [hw, Ny151.out]; exact HP14.1); clear HP14; replace HB := am ((by rw [hw]; exact below_set (HB.out) GB12.out : Below w0.heap.size w0 w15)); replace HK := am (Kept.of_grown (S := (fun k_ => P0_ k_)) hg (by repeat (first | (with_reducible first | exact HK.out | apply Kept.alloc | apply Kept.drewN | apply Kept.drew) | exact HK.out)) (fun k_ e_ => (HO_0.out.1 k_ e_))); replace HO_0 := am (hp_); clear hg hw hp_))
      go_roundg k1
      case measure => have := HK1.out; omega
      case rel => exact ⟨(y151), (1), (IntKind.u64.wrap (Int.tdiv (IntKind.u64.wrap (x10_1 + (IntKind.u64.wrap (a2 * (rd l1 x11_1))))) 1000000000)), (wrap64 (x11_1 + 1)), rs, rs, rs, H', ⟨by have := HK1.out; omega⟩, ⟨kr HO_0⟩, ⟨by repeat (first | (with_reducible first | exact HK.out | apply Kept.alloc | apply Kept.drewN | apply Kept.drew) | exact HK.out)⟩, ⟨bl HB⟩⟩
     ·rw [if_neg c11] at H
      have c11b0 := decide_eq_false c11
      clear c11
      obtain ⟨y152, hy152⟩ : ∃ y_ : List Int, y_ = (x0_1.set ((ji8) : Int).toNat (IntKind.u64.wrap (wrap64 ((wrap64 ((wrap64 (rd x0_1 (ji8))) - (wrap64 (Int.tmod (IntKind.u64.wrap (x10_1 + (IntKind.u64.wrap (a2 * (rd l1 x11_1))))) 1000000000)))) - x9_1)))) := ⟨_, rfl⟩
      first | rw [Option.bind_some, ← hy152] at H | rw [← hy152] at H
      have Ny152 := am hy152
      clear hy152
      have H' := am H
      clear H
      have p149 : 0 ≤ (x11_1 : Int) := of_decide_eq_true (by first | (with_reducible assumption) | assumption)
      have q149 : x11_1 < (l1.length : Int) := of_decide_eq_true (by first | (with_reducible assumption) | assumption)
      obtain ⟨ad149, e149, hx149_0⟩ := Kd.at_int (Kd.C_kept_now HR1.out HK.out) x11_1 p149 q149
      cases e149
      replace p149 := eq_true p149
      replace q149 := eq_true q149
      obtain ⟨Ao17, co17, eo17⟩ := Kd.R_slice HO_0.out
      subst eo17
      have p150 : 0 ≤ ((ji8) : Int) := of_decide_eq_true (by first | (with_reducible assumption) | assumption)
      have q150 : (ji8) < (x0_1.length : Int) := of_decide_eq_true (by first | (with_reducible assumption) | assumption)
      obtain ⟨ad150, e150, hx150_0⟩ := Kd.at_int (Kd.R_reads' HO_0.out).2.2 (ji8) p150 q150
      cases e150
      replace p150 := eq_true p150
      replace q150 := eq_true q150
      have p16 : 0 ≤ ((ji8) : Int) := of_decide_eq_true (by first | (with_reducible assumption) | assumption)
      have q16 : ((ji8) : Int) < ((x0_1.length : Int) : Int) := of_decide_eq_true (by first | (with_reducible assumption) | assumption)
      obtain ⟨go16, co16, eo16, gb16, gl16, cl16, HG16⟩ := Kd.R_form HO_0.out (by omega)
      (first | cases eo16 | (injection eo16 with ea_ en_ ec_; (first | subst ea_ | (injection ea_ with ea_; subst ea_)); subst ec_; clear en_))
      have GB16 := am gb16
      have GG16 := am HG16
      clear gb16 gl16 HG16
      have HMgo16 := am (show (P0_ go16 ∨ w.heap.size ≤ go16) from (HO_0.out.1 _ rfl))
      (first | simp only [add_plain] at hx150_0 | skip)
      obtain ⟨hx16_0, hf16_0⟩ := Kd.R_celln 0 HO_0.out ((ji8) : Int) p16 q16
      replace p16 := eq_true p16
      replace q16 := eq_true q16
      have HP18 := Kd.R_putg HO_0.out ((ji8) : Int) (IntKind.u64.wrap (wrap64 ((wrap64 ((wrap64 (rd x0_1 (ji8))) - (wrap64 (Int.tmod (IntKind.u64.wrap (x10_1 + (IntKind.u64.wrap (a2 * (rd l1 x11_1))))) 1000000000)))) - x9_1)))
      go_wp2_with (first | ((with_reducible refine gate_store (t := 112) (p := 56) rfl ?_); refine store_event (t := 112) (p := 56) (v := ?vo_w19) (w1 := (wr.setCell ⟨go16, ((ji8) : Int).toNat, none⟩ (.int .u64 (IntKind.u64.wrap (wrap64 ((wrap64 ((wrap64 (rd x0_1 (ji8))) - (wrap64 (Int.tmod (IntKind.u64.wrap (x10_1 + (IntKind.u64.wrap (a2 * (rd l1 x11_1))))) 1000000000)))) - x9_1)))))) ?hg ?ho ?hn ?hr ?_; (case ho => rfl); (case hg => rfl); (case hn => rfl); (case hr => first | (go_simp; done) | (go_simp; rfl)); intro w19 hw; have hg : wr.grownBy w19 (some go16) := (by rw [hw]; exact HP18.2); have hp_ : Kd.R (Kd.int .u64) 112 w19 w0.heap.size (fun k_ => (P0_ k_ ∨ w.heap.size ≤ k_)) (.slice (some ⟨go16, 0, none⟩) x0_1.length co17) y152 := (by rw [hw, Ny152.out]; exact HP18.1); clear HP18; replace HB := am ((by rw [hw]; exact below_set (HB.out) GB16.out : Below w0.heap.size w0 w19)); replace HK := am (Kept.of_grown (S := (fun k_ => P0_ k_)) hg (by repeat (first | (with_reducible first | exact HK.out | apply Kept.alloc | apply Kept.drewN | apply Kept.drew) | exact HK.out)) (fun k_ e_ => (HO_0.out.1 k_ e_))); replace HO_0 := am (hp_); clear hg hw hp_))
      go_roundg k1
      case measure => have := HK1.out; omega
      case rel => exact ⟨(y152), (0), (IntKind.u64.wrap (Int.tdiv (IntKind.u64.wrap (x10_1 + (IntKind.u64.wrap (a2 * (rd l1 x11_1))))) 1000000000)), (wrap64 (x11_1 + 1)), rs, rs, rs, H', ⟨by have := HK1.out; omega⟩, ⟨kr HO_0⟩, ⟨by repeat (first | (with_reducible first | exact HK.out | apply Kept.alloc | apply Kept.drewN | apply Kept.drew) | exact HK.out)⟩, ⟨bl HB⟩⟩
    ·rw [if_neg c6] at H
     have c6b0 := decide_eq_false c6
     clear c6
     (try clear hji8w); (try clear hji8)
     obtain ⟨ji20, hji20⟩ : ∃ j_ : Int, (wrap64 (a3 + x11_1)) = j_ := ⟨_, rfl⟩
     first | rw [hji20] at H | simp only [hji20] at H | skip
     have hji20w : (IntKind.i64.wrap (a3 + x11_1)) = ji20 := (i64_w _).trans hji20
     by_cases c21 : 0 ≤ (ji20)
     case neg => rw [if_neg c21] at H; cases H
     rw [if_pos c21] at H
     have c21b0 := decide_eq_true c21
     clear c21
     by_cases c22 : (ji20) < (x0_1.length : Int)
     case neg => rw [if_neg c22] at H; cases H
     rw [if_pos c22] at H
     have c22b0 := decide_eq_true c22
     clear c22
     by_cases c23 : (wrap64 ((wrap64 ((wrap64 (rd x0_1 (ji20))) - (wrap64 (Int.tmod x10_1 1000000000)))) - x9_1)) < 0
     ·rw [if_pos c23] at H
      have c23b0 := decide_eq_true c23
      clear c23
      obtain ⟨y154, hy154⟩ : ∃ y_ : List Int, y_ = (x0_1.set ((ji20) : Int).toNat (IntKind.u64.wrap (wrap64 ((wrap64 ((wrap64 ((wrap64 (rd x0_1 (ji20))) - (wrap64 (Int.tmod x10_1 1000000000)))) - x9_1)) + 1000000000)))) := ⟨_, rfl⟩
      first | rw [Option.bind_some, ← hy154] at H | rw [← hy154] at H
      have Ny154 := am hy154
      clear hy154
      have H' := am H
      clear H
      obtain ⟨Ao25, co25, eo25⟩ := Kd.R_slice HO_0.out
      subst eo25
      have p153 : 0 ≤ ((ji20) : Int) := of_decide_eq_true (by first | (with_reducible assumption) | assumption)
      have q153 : (ji20) < (x0_1.length : Int) := of_decide_eq_true (by first | (with_reducible assumption) | assumption)
      obtain ⟨ad153, e153, hx153_0⟩ := Kd.at_int (Kd.R_reads' HO_0.out).2.2 (ji20) p153 q153
      cases e153
      replace p153 := eq_true p153
      replace q153 := eq_true q153
      have p24 : 0 ≤ ((ji20) : Int) := of_decide_eq_true (by first | (with_reducible assumption) | assumption)
      have q24 : ((ji20) : Int) < ((x0_1.length : Int) : Int) := of_decide_eq_true (by first | (with_reducible assumption) | assumption)
      obtain ⟨go24, co24, eo24, gb24, gl24, cl24, HG24⟩ := Kd.R_form HO_0.out (by omega)
      (first | cases eo24 | (injection eo24 with ea_ en_ ec_; (first | subst ea_ | (injection ea_ with ea_; subst ea_)); subst ec_; clear en_))
      have GB24 := am gb24
      have GG24 := am HG24
      clear gb24 gl24 HG24
      have HMgo24 := am (show (P0_ go24 ∨ w.heap.size ≤ go24) from (HO_0.out.1 _ rfl))
      (first | simp only [add_plain] at hx153_0 | skip)
      obtain ⟨hx24_0, hf24_0⟩ := Kd.R_celln 0 HO_0.out ((ji20) : Int) p24 q24
      replace p24 := eq_true p24
      replace q24 := eq_true q24
      have HP26 := Kd.R_putg HO_0.out ((ji20) : Int) (IntKind.u64.wrap (wrap64 ((wrap64 ((wrap64 ((wrap64 (rd x0_1 (ji20))) - (wrap64 (Int.tmod x10_1 1000000000)))) - x9_1)) + 1000000000)))
      go_wp2_with (first | ((with_reducible refine gate_store (t := 112) (p := 56) rfl ?_); refine store_event (t := 112) (p := 56) (v := ?vo_w27) (w1 := (wr.setCell ⟨go24, ((ji20) : Int).toNat, none⟩ (.int .u64 (IntKind.u64.wrap (wrap64 ((wrap64 ((wrap64 ((wrap64 (rd x0_1 (ji20))) - (wrap64 (Int.tmod x10_1 1000000000)))) - x9_1)) + 1000000000)))))) ?hg ?ho ?hn ?hr ?_; (case ho => rfl); (case hg => rfl); (case hn => rfl); (case hr => first | (go_simp; done) | (go_simp; rfl)); intro w27 hw; have hg : wr.grownBy w27 (some go24) := (by rw [hw]; exact HP26.2); have hp_ : Kd.R (Kd.int .u64) 112 w27 w0.heap.size (fun k_ => (P0_ k_ ∨ w.heap.size ≤ k_)) (.slice (some ⟨go24, 0, none⟩) x0_1.length co25) y154 := (by rw [hw, Ny154.out]; exact HP26.1); clear HP26; replace HB := am ((by rw [hw]; exact below_set (HB.out) GB24.out : Below w0.heap.size w0 w27)); replace HK := am (Kept.of_grown (S := (fun k_ => P0_ k_)) hg (by repeat (first | (with_reducible first | exact HK.out | apply Kept.alloc | apply Kept.drewN | apply Kept.drew) | exact HK.out)) (fun k_ e_ => (HO_0.out.1 k_ e_))); replace HO_0 := am (hp_); clear hg hw hp_))
      go_roundg k1
      case measure => have := HK1.out; omega
      case rel => exact ⟨(y154), (1), (IntKind.u64.wrap (Int.tdiv x10_1 1000000000)), (wrap64 (x11_1 + 1)), rs, rs, rs, H', ⟨by have := HK1.out; omega⟩, ⟨kr HO_0⟩, ⟨by repeat (first | (with_reducible first | exact HK.out | apply Kept.alloc | apply Kept.drewN | apply Kept.drew) | exact HK.out)⟩, ⟨bl HB⟩⟩
     ·rw [if_neg c23] at H
      have c23b0 := decide_eq_false c23
      clear c23
      obtain ⟨y155, hy155⟩ : ∃ y_ : List Int, y_ = (x0_1.set ((ji20) : Int).toNat (IntKind.u64.wrap (wrap64 ((wrap64 ((wrap64 (rd x0_1 (ji20))) - (wrap64 (Int.tmod x10_1 1000000000)))) - x9_1)))) := ⟨_, rfl⟩
      first | rw [Option.bind_some, ← hy155] at H | rw [← hy155] at H
      have Ny155 := am hy155
      clear hy155
      have H' := am H
      clear H
      obtain ⟨Ao29, co29, eo29⟩ := Kd.R_slice HO_0.out
      subst eo29
      have p153 : 0 ≤ ((ji20) : Int) := of_decide_eq_true (by first | (with_reducible assumption) | assumption)
      have q153 : (ji20) < (x0_1.length : Int) := of_decide_eq_true (by first | (with_reducible assumption) | assumption)
      obtain ⟨ad153, e153, hx153_0⟩ := Kd.at_int (Kd.R_reads' HO_0.out).2.2 (ji20) p153 q153
      cases e153
      replace p153 := eq_true p153
      replace q153 := eq_true q153
      have p28 : 0 ≤ ((ji20) : Int) := of_decide_eq_true (by first | (with_reducible assumption) | assumption)
      have q28 : ((ji20) : Int) < ((x0_1.length : Int) : Int) := of_decide_eq_true (by first | (with_reducible assumption) | assumption)
      obtain ⟨go28, co28, eo28, gb28, gl28, cl28, HG28⟩ := Kd.R_form HO_0.out (by omega)
      (first | cases eo28 | (injection eo28 with ea_ en_ ec_; (first | subst ea_ | (injection ea_ with ea_; subst ea_)); subst ec_; clear en_))
      have GB28 := am gb28
      have GG28 := am HG28
      clear gb28 gl28 HG28
      have HMgo28 := am (show (P0_ go28 ∨ w.heap.size ≤ go28) from (HO_0.out.1 _ rfl))
      (first | simp only [add_plain] at hx153_0 | skip)
      obtain ⟨hx28_0, hf28_0⟩ := Kd.R_celln 0 HO_0.out ((ji20) : Int) p28 q28
      replace p28 := eq_true p28
      replace q28 := eq_true q28
      have HP30 := Kd.R_putg HO_0.out ((ji20) : Int) (IntKind.u64.wrap (wrap64 ((wrap64 ((wrap64 (rd x0_1 (ji20))) - (wrap64 (Int.tmod x10_1 1000000000)))) - x9_1)))
      go_wp2_with (first | ((with_reducible refine gate_store (t := 112) (p := 56) rfl ?_); refine store_event (t := 112) (p := 56) (v := ?vo_w31) (w1 := (wr.setCell ⟨go28, ((ji20) : Int).toNat, none⟩ (.int .u64 (IntKind.u64.wrap (wrap64 ((wrap64 ((wrap64 (rd x0_1 (ji20))) - (wrap64 (Int.tmod x10_1 1000000000)))) - x9_1)))))) ?hg ?ho ?hn ?hr ?_; (case ho => rfl); (case hg => rfl); (case hn => rfl); (case hr => first | (go_simp; done) | (go_simp; rfl)); intro w31 hw; have hg : wr.grownBy w31 (some go28) := (by rw [hw]; exact HP30.2); have hp_ : Kd.R (Kd.int .u64) 112 w31 w0.heap.size (fun k_ => (P0_ k_ ∨ w.heap.size ≤ k_)) (.slice (some ⟨go28, 0, none⟩) x0_1.length co29) y155 := (by rw [hw, Ny155.out]; exact HP30.1); clear HP30; replace HB := am ((by rw [hw]; exact below_set (HB.out) GB28.out : Below w0.heap.size w0 w31)); replace HK := am (Kept.of_grown (S := (fun k_ => P0_ k_)) hg (by repeat (first | (with_reducible first | exact HK.out | apply Kept.alloc | apply Kept.drewN | apply Kept.drew) | exact HK.out)) (fun k_ e_ => (HO_0.out.1 k_ e_))); replace HO_0 := am (hp_); clear hg hw hp_))
      go_roundg k1
      case measure => have := HK1.out; omega
      case rel => exact ⟨(y155), (0), (IntKind.u64.wrap (Int.tdiv x10_1 1000000000)), (wrap64 (x11_1 + 1)), rs, rs, rs, H', ⟨by have := HK1.out; omega⟩, ⟨kr HO_0⟩, ⟨by repeat (first | (with_reducible first | exact HK.out | apply Kept.alloc | apply Kept.drewN | apply Kept.drew) | exact HK.out)⟩, ⟨bl HB⟩⟩
   ·rw [if_neg c5] at H
    have c5b0 := decide_eq_false c5
    clear c5
    simp only [Option.some.injEq, Prod.mk.injEq] at H
    obtain ⟨rfl, rfl⟩ := H
    go_wp2
    go_ret
    exact ⟨rl, kr HO_0, bl HB, by repeat (first | (with_reducible first | exact HK.out | apply Kept.alloc | apply Kept.drewN | apply Kept.drew) | exact HK.out)⟩
end Go.Proofs.YtailoobjgbldgaaGreatDoor.P
end
section
namespace Go.Proofs.YtailoobjgbldgaaGreatDoor.Val
open Go Go.Lib Go.RowKit Go.Proofs.YtailoobjgbldgaaGreatDoor.P Go.Proofs.YtailoobjgbldgaaGreatDoorW.PrintWords Go.Proofs.YtailoobjgbldgaaGreatDoorW.PrintLast Go.Proofs.YtailoobjgbldgaaGreatDoorW.PrintMore
set_option linter.unusedSimpArgs false
set_option linter.unusedVariables false
theorem w64 {x : Int} (h0 : -9223372036854775808 ≤ x) (h1 : x ≤ 9223372036854775807) : wrap64 x = x := by unfold wrap64; omega
theorem u64 {x : Int} (h0 : 0 ≤ x) (h1 : x ≤ 18446744073709551615) : IntKind.u64.wrap x = x := IntWalk.u64_in x ⟨h0, h1⟩
theorem rd_gt (xs : List Int) (i : Nat) : rd xs (i : Int) = gt xs i := by simp [rd, gt]
def Evt {α : Type} (g : Nat → Option α) (v : α) : Prop := ∃ K, ∀ k, K ≤ k → g k = some v
theorem Evt.const {α : Type} (v : α) : Evt (fun _ => some v) v := ⟨0, fun _ _ => rfl⟩
theorem Evt.step {α : Type} {g h : Nat → Option α} {v : α} (hg : Evt g v) (he : ∀ k, h (k + 1) = g k) : Evt h v := by
  obtain ⟨K, hK⟩ := hg
  refine ⟨K + 1, fun k hk => ?_⟩
  obtain ⟨j, rfl⟩ : ∃ j, k = j + 1 := ⟨k - 1, by omega⟩
  rw [he j, hK j (by omega)]
theorem Evt.congr {α : Type} {g h : Nat → Option α} {v : α} (hg : Evt g v) (he : ∀ k, h k = g k) : Evt h v := by
  obtain ⟨K, hK⟩ := hg
  exact ⟨K, fun k hk => by rw [he k, hK k hk]⟩
theorem Evt.bind {α β : Type} {g : Nat → Option α} {h : Nat → α → Option β} {v : α} {u : β} (hg : Evt g v) (hh : Evt (fun k => h k v) u) : Evt (fun k => (g k).bind (h k)) u := by
  obtain ⟨K, hK⟩ := hg
  obtain ⟨L, hL⟩ := hh
  refine ⟨max K L, fun k hk => ?_⟩
  dsimp only
  rw [hK k (by omega)]
  exact hL k (by omega)
theorem Evt.bind1 {α β : Type} {g : Nat → Option α} {h : α → Option β} {v : α} {u : β} (hg : Evt g v) (hh : h v = some u) : Evt (fun k => (g k).bind h) u :=
  hg.bind (h := fun _ => h) ⟨0, fun _ _ => hh⟩
theorem trim_is : ∀ (n : Nat) (xs : List Int), xs.length = n → n ≤ 1000000000000 → Dig xs → Evt (fun k => decimal_pieces_trim.l0 k xs) (strike xs) := by
  intro n
  induction n with
  | zero =>
    intro xs hn _ _
    obtain rfl := List.length_eq_zero_iff.1 hn
    refine (Evt.const _).step fun k => ?_
    rw [decimal_pieces_trim.l0, if_neg (by simp)]
    unfold strike
    rw [val_nil]; simp [digs_zero]
  | succ n ih =>
    intro xs hn hb hd
    have e : wrap64 ((xs.length : Int) - 1) = ((n : Nat) : Int) := by rw [w64 (by omega) (by omega)]; omega
    by_cases h0 : gt xs n = 0
    · have ht : xs = xs.take n ++ [0] := by
        have := List.take_succ_eq_append_getElem (l := xs) (i := n) (by omega)
        rw [List.take_of_length_le (by omega)] at this
        rw [← gt_eq (by omega), h0] at this
        exact this
      have := ih (xs.take n) (by rw [List.length_take]; omega) (by omega) (hd.take n)
      rw [ht, strike_snoc_zero, ← ht]
      refine this.step fun k => ?_
      rw [decimal_pieces_trim.l0, if_pos (by omega), e, if_pos (by omega), if_pos (by omega), rd_gt, if_pos h0, if_pos (by omega), Int.toNat_natCast]
    · refine ((Evt.const _).step fun k => ?_)
      rw [decimal_pieces_trim.l0, if_pos (by omega), e, if_pos (by omega), if_pos (by omega), rd_gt, if_neg h0, strike_self hd (.inr (by rw [hn]; exact h0))]
theorem trim_val {xs : List Int} (hb : xs.length ≤ 1000000000000) (hd : Dig xs) : Evt (fun k => decimal_pieces_trim.f k xs) (digs (val xs).toNat) := trim_is _ xs rfl hb hd
end Go.Proofs.YtailoobjgbldgaaGreatDoor.Val
end
section
namespace Go.Proofs.YtailoobjgbldgaaGreatDoor.P
open Go.RowKit Go.Proofs.YtailoobjgbldgaaGreatDoorW.PrintWords Go.Proofs.YtailoobjgbldgaaGreatDoorW.PrintLast Go.Proofs.YtailoobjgbldgaaGreatDoorW.PrintMore
attribute [local go_sem] max2_int min2_int max_two min_two max_three min_three max_four min_four   
set_option linter.unusedVariables false
set_option linter.unusedSimpArgs false
set_option maxHeartbeats 8000000
set_option maxRecDepth 100000
def slices_Reverse_byte_byte.l0 : Nat → List Int → Int → Int → Option (List Int)
 | 0, _, _, _ => none
 | k + 1, x0, x2, x3 => if x2 < x3 then (if 0 ≤ x3 then (if x3 < (x0.length : Int) then (if 0 ≤ x2 then (if x2 < (x0.length : Int) then (slices_Reverse_byte_byte.l0 k ((x0.set (x2 : Int).toNat (rd x0 x3)).set (x3 : Int).toNat (rd x0 x2)) (wrap64 (x2 + 1)) (wrap64 (x3 - 1))) else (none)) else (none)) else (none)) else (none)) else (some x0)
def slices_Reverse_byte_byte.f (k : Nat) (l0 : List Int) : Option (List Int) := slices_Reverse_byte_byte.l0 k l0 0 (wrap64 ((l0.length : Int) - 1))
def slices_Reverse_byte_byte.T3 : Bool × List (List Nat × List Nat) := (true, [([], []), ([], []), ([], []), ([], []), ([], []), ([], []), ([4, 5], [4, 5]), ([6], [6]), ([], []), ([], []), ([8, 9], [8, 9]), ([10], [10]), ([0, 1, 0, 1, 4, 5, 6, 7, 11], [0, 1]), ([12, 7, 0, 1, 4, 5, 6, 7, 11], [7, 12]), ([2, 3, 0, 1, 2, 3, 4, 5, 6, 7, 8, 9, 10, 11, 12, 13], [2, 3]), ([14, 11, 13, 0, 1, 2, 3, 4, 5, 6, 7, 8, 9, 10, 11, 12, 13], [11, 14])])
def slices_Reverse_byte_byte.B3 : List Nat := [0, 0, 0, 0, 0, 0, 48, 112, 0, 0, 768, 1792, 4083, 8179, 16383, 32767]
theorem slices_Reverse_byte_byte.tab3 : rtab .any (opsOf Tryz.f166 3) = slices_Reverse_byte_byte.T3 := by kernel_rfl
theorem slices_Reverse_byte_byte.bits3 : waitsOk slices_Reverse_byte_byte.T3.2 slices_Reverse_byte_byte.B3 = true := by kernel_rfl
theorem slices_Reverse_byte_byte.calls (k : Nat) (P0_ : Nat → Prop) (u9000_ : Value) (l0 : List Int) (r : List Int) (w0 w : World) (hB : Below w0.heap.size w0 w) (ho0 : Kd.R (Kd.int .u8) 5 w w0.heap.size P0_ u9000_ l0) (h : slices_Reverse_byte_byte.f k l0 = some r) :
  Calls Tryz.prog 166 #[u9000_] w fun e w' => e = .returned (.tuple #[]) ∧ Kd.R (Kd.int .u8) 5 w' w0.heap.size (fun k_ => (P0_ k_ ∨ w.heap.size ≤ k_)) u9000_ r ∧ Below w0.heap.size w0 w' ∧ Kept w w' (fun k_ => P0_ k_) := by
 have HO0 := am (show Kd.R (Kd.int .u8) 5 w w0.heap.size (fun k_ => (P0_ k_ ∨ w.heap.size ≤ k_)) u9000_ l0 from Kd.R_mono ho0 (fun k_ hk => (.inl hk)))
 have HK := am (Kept.refl w (fun k_ => P0_ k_))
 have HW0 := am hB.size
 have HB := am hB
 clear hB
 have H := h
 unfold slices_Reverse_byte_byte.f at H
 clear h
 have H' := am H
 clear H
 obtain ⟨Ao2, co2, eo2⟩ := Kd.R_slice HO0.out
 subst eo2
 go_enter Tryz.func166, Tryz.ntmps166
 go_wp2
 go_loopg [2, 3] k (fun kq v2 v3 w' => ∃ (x0_1 : List Int) (x2_1 : Int) (x3_1 : Int), v2 = .int .i64 x2_1 ∧ v3 = .int .i64 x3_1 ∧ Aside0 (slices_Reverse_byte_byte.l0 kq x0_1 x2_1 x3_1 = some r) ∧ Aside0 (kq ≤ k) ∧ Aside0 (Kd.R (Kd.int .u8) 5 w' w0.heap.size (fun k_ => (P0_ k_ ∨ w.heap.size ≤ k_)) (.slice Ao2 l0.length co2) x0_1) ∧ Aside0 (Kept w w' (fun k_ => P0_ k_)) ∧ Aside0 (Below w0.heap.size w0 w'))
 case atStart => exact ⟨(l0), (0), (wrap64 ((l0.length : Int) - 1)), rs, rs, H', ⟨Nat.le_refl _⟩, ⟨kr HO0⟩, ⟨by repeat (first | (with_reducible first | exact HK.out | apply Kept.alloc | apply Kept.drewN | apply Kept.drew) | exact HK.out)⟩, ⟨bl HB⟩⟩
 case round =>
  clear H'
  try clear c1
  try clear p2
  obtain ⟨x0_1, x2_1, x3_1, rfl, rfl, HA, HK1, HO_0, HK, HB⟩ := hrel
  have hl0_1 := (Kd.R_reads' HO_0.out).1
  rw [hl0_1] at HO_0
  (try simp only [hl0_1])
  cases gk with
  | zero => exact absurd HA.out (by simp [slices_Reverse_byte_byte.l0])
  | succ k1 =>
   have H := HA.out
   clear HA
   simp only [slices_Reverse_byte_byte.l0] at H
   by_cases c3 : x2_1 < x3_1
   ·rw [if_pos c3] at H
    have c3b0 := decide_eq_true c3
    clear c3
    by_cases c4 : 0 ≤ x3_1
    case neg => rw [if_neg c4] at H; cases H
    rw [if_pos c4] at H
    have c4b0 := decide_eq_true c4
    clear c4
    by_cases c5 : x3_1 < (x0_1.length : Int)
    case neg => rw [if_neg c5] at H; cases H
    rw [if_pos c5] at H
    have c5b0 := decide_eq_true c5
    (try (have c5h := c5b0; rw [hl0_1] at c5h))
    clear c5
    by_cases c6 : 0 ≤ x2_1
    case neg => rw [if_neg c6] at H; cases H
    rw [if_pos c6] at H
    have c6b0 := decide_eq_true c6
    clear c6
    by_cases c7 : x2_1 < (x0_1.length : Int)
    case neg => rw [if_neg c7] at H; cases H
    rw [if_pos c7] at H
    have c7b0 := decide_eq_true c7
    (try (have c7h := c7b0; rw [hl0_1] at c7h))
    clear c7
    obtain ⟨y116, hy116⟩ : ∃ y_ : List Int, y_ = (x0_1.set (x2_1 : Int).toNat (rd x0_1 x3_1)) := ⟨_, rfl⟩
    first | rw [Option.bind_some, ← hy116] at H | rw [← hy116] at H
    have Ny116 := am hy116
    clear hy116
    obtain ⟨y117, hy117⟩ : ∃ y_ : List Int, y_ = (y116.set (x3_1 : Int).toNat (rd x0_1 x2_1)) := ⟨_, rfl⟩
    first | rw [Option.bind_some, ← hy117] at H | rw [← hy117] at H
    have Ny117 := am hy117
    clear hy117
    have H' := am H
    clear H
    try go_wp2
    replace HO_0 := am (Kd.R_drew HO_0.out)
    replace HK := am (Kept.drew HK.out)
    replace HB := am (below_drew1 HB.out)
    have p114 : 0 ≤ (x3_1 : Int) := of_decide_eq_true (by first | (with_reducible assumption) | assumption)
    have q114 : x3_1 < (x0_1.length : Int) := of_decide_eq_true (by first | (with_reducible assumption) | assumption)
    obtain ⟨ad114, e114, hx114_0⟩ := Kd.at_int (Kd.R_reads' HO_0.out).2.2 x3_1 p114 q114
    cases e114
    replace p114 := eq_true p114
    replace q114 := eq_true q114
    have p115 : 0 ≤ (x2_1 : Int) := of_decide_eq_true (by first | (with_reducible assumption) | assumption)
    have q115 : x2_1 < (x0_1.length : Int) := of_decide_eq_true (by first | (with_reducible assumption) | assumption)
    obtain ⟨ad115, e115, hx115_0⟩ := Kd.at_int (Kd.R_reads' HO_0.out).2.2 x2_1 p115 q115
    obtain rfl : ad114 = ad115 := (by injection e115)
    replace p115 := eq_true p115
    replace q115 := eq_true q115
    have p8 : 0 ≤ (x2_1 : Int) := of_decide_eq_true (by first | (with_reducible assumption) | assumption)
    have q8 : (x2_1 : Int) < ((x0_1.length : Int) : Int) := of_decide_eq_true (by first | (with_reducible assumption) | assumption)
    obtain ⟨go8, co8, eo8, gb8, gl8, cl8, HG8⟩ := Kd.R_form HO_0.out (by omega)
    (first | cases eo8 | (injection eo8 with ea_ en_ ec_; (first | subst ea_ | (injection ea_ with ea_; subst ea_)); subst ec_; clear en_))
    have GB8 := am gb8
    have GG8 := am HG8
    clear gb8 gl8 HG8
    have HMgo8 := am (show (P0_ go8 ∨ w.heap.size ≤ go8) from (HO_0.out.1 _ rfl))
    (first | simp only [add_plain] at hx114_0 | skip)
    (first | simp only [add_plain] at hx115_0 | skip)
    obtain ⟨hx8_0, hf8_0⟩ := Kd.R_celln 0 HO_0.out (x2_1 : Int) p8 q8
    replace p8 := eq_true p8
    replace q8 := eq_true q8
    have HP11 := Kd.R_putn HO_0.out (x2_1 : Int) (rd x0_1 x3_1)
    rw [← Ny116.out] at HP11
    have HQ11 := am HP11
    clear HP11
    have p9 : 0 ≤ (x3_1 : Int) := of_decide_eq_true (by first | (with_reducible assumption) | assumption)
    have q9 : (x3_1 : Int) < ((x0_1.length : Int) : Int) := of_decide_eq_true (by first | (with_reducible assumption) | assumption)
    obtain ⟨hx9_0, hf9_0⟩ := Kd.R_celln 0 HQ11.out (x3_1 : Int) p9 q9
    replace p9 := eq_true p9
    replace q9 := eq_true q9
    have HP12 := Kd.R_putn HQ11.out (x3_1 : Int) (rd x0_1 x2_1)
    rw [← Ny117.out] at HP12
    have HQ12 := am HP12
    clear HP12
    refine start_ (n := 16) (S := fun w' => w'.cell? ⟨go8, (x3_1).toNat, none⟩ = some (.int .u8 (rd x0_1 x3_1)) ∧ w'.cell? ⟨go8, (x2_1).toNat, none⟩ = some (.int .u8 (rd x0_1 x2_1))) (ds := [13, 15]) #[false, false, false, false, false, false, false, false, false, false, false, false, false, false, false, false] (by kernel_rfl) rfl rfl ⟨hx114_0, hx115_0⟩ (fun hHeld => ?_); refine with_tabW slices_Reverse_byte_byte.tab3 slices_Reverse_byte_byte.bits3 (fun HT_ HW_ => ?_)
    generalize wr.drew = w10 at HO_0 HK HB GG8 HQ11 HQ12 hf8_0 hf9_0 hx114_0 hx115_0 hx8_0 hx9_0 hHeld ⊢
    refine purM (i := 0) (N := some 14) #[true, false, false, false, false, false, false, false, false, false, false, false, false, false, false, false] ?_
    refine purM (i := 1) (N := some 15) #[true, true, false, false, false, false, false, false, false, false, false, false, false, false, false, false] ?_
    refine purM (i := 2) (N := some 16) #[true, true, true, false, false, false, false, false, false, false, false, false, false, false, false, false] ?_
    refine purM (i := 3) (N := some 17) #[true, true, true, true, false, false, false, false, false, false, false, false, false, false, false, false] ?_
    refine purM (i := 4) (N := some 18) #[true, true, true, true, true, false, false, false, false, false, false, false, false, false, false, false] ?_
    refine purM (i := 5) (N := some 19) #[true, true, true, true, true, true, false, false, false, false, false, false, false, false, false, false] ?_
    refine purM (i := 6) (N := some 20) #[true, true, true, true, true, true, true, false, false, false, false, false, false, false, false, false] ?_
    refine purM (i := 8) (N := some 22) #[true, true, true, true, true, true, true, false, true, false, false, false, false, false, false, false] ?_
    refine purM (i := 9) (N := some 23) #[true, true, true, true, true, true, true, false, true, true, false, false, false, false, false, false] ?_
    refine purM (i := 10) (N := some 24) #[true, true, true, true, true, true, true, false, true, true, true, false, false, false, false, false] ?_
    refine take_ (i := 7) (N := some 21) (v := ?_) (a' := ?_) #[true, true, true, true, true, true, true, true, true, true, true, false, false, false, false, false] rfl rfl (take_ofW HT_.out HW_.out (by kernel_rfl)) (fun _ _ _ h => h) (Or.inl ⟨by rfl, ?_⟩) hHeld ?_ ?_
    rotate_left
    ·rintro w' ⟨s0, s1⟩
     go_simp
     with_reducible rfl
    rotate_left
    ·simp only [Act.put, List.setIfInBounds_toArray, List.set_cons_zero, List.set_cons_succ, i64_w, i32_w]
     rfl
    refine take_ (i := 11) (N := some 25) (v := ?_) (a' := ?_) #[true, true, true, true, true, true, true, true, true, true, true, true, false, false, false, false] rfl rfl (take_ofW HT_.out HW_.out (by kernel_rfl)) (fun _ _ _ h => h) (Or.inl ⟨by rfl, ?_⟩) hHeld ?_ ?_
    rotate_left
    ·rintro w' ⟨s0, s1⟩
     go_simp
     with_reducible rfl
    rotate_left
    ·simp only [Act.put, List.setIfInBounds_toArray, List.set_cons_zero, List.set_cons_succ, i64_w, i32_w]
     rfl
    refine purM (i := 12) (N := some 26) #[true, true, true, true, true, true, true, true, true, true, true, true, true, false, false, false] ?_
    refine last_ (i := 13) (N := none) #[true, true, true, true, true, true, true, true, true, true, true, true, true, true, false, false] rfl rfl (one_of HT_.out (by kernel_rfl)) (by decide) (fun K hK => ?_)
    refine skip_ (w1 := ?_) (by rfl) rfl ?_ ?_
    rotate_left
    ·go_simp
     rfl
    refine hK.out _ _ ?_
    clear hK K
    refine purM (i := 14) (N := some 27) #[true, true, true, true, true, true, true, true, true, true, true, true, true, true, true, false] ?_
    refine last_ (i := 15) (N := none) #[true, true, true, true, true, true, true, true, true, true, true, true, true, true, true, true] rfl rfl (one_of HT_.out (by kernel_rfl)) (by decide) (fun K hK => ?_)
    refine skip_ (w1 := ?_) (by rfl) rfl ?_ ?_
    rotate_left
    ·go_simp
     rfl
    refine hK.out _ _ ?_
    clear hK K
    refine done_ (done_of HT_.out (by kernel_rfl)) ?_
    try go_wp2
    (try simp only [← hl0_1])
    go_roundg k1
    case measure => have := HK1.out; omega
    case rel => exact ⟨(y117), (wrap64 (x2_1 + 1)), (wrap64 (x3_1 - 1)), rs, rs, H', ⟨by have := HK1.out; omega⟩, ⟨by (try simp only [hl0_1]); (with_reducible repeat (first | apply Kd.R_alloc | apply Kd.R_drewN | apply Kd.R_drew)); exact HQ12.out⟩, ⟨by repeat (first | (with_reducible first | exact HK.out | apply Kept.alloc | apply Kept.drewN | apply Kept.drew | refine Kept.setCell ?_ HMgo8.out _ | refine Kept.setCell ?_ HMgo8.out _) | exact HK.out)⟩, ⟨by repeat (first | (with_reducible first | exact HB.out | apply below_alloc | apply pw_below_drewN | apply below_drew1 | refine below_set ?_ GB8.out | refine below_set ?_ GB8.out) | exact HB.out)⟩⟩
   ·rw [if_neg c3] at H
    have c3b0 := decide_eq_false c3
    clear c3
    obtain rfl := Option.some.inj H
    go_wp2
    first | go_end0 | ((try simp only [Exit.inBlock, Exit.then]); refine bodyPost_ret (results_none rfl _ _ _) rfl ?_)
    exact ⟨rl, (by first | exact (kr HO_0) | (simp only [hl0_1]; exact (kr HO_0))), bl HB, by repeat (first | (with_reducible first | exact HK.out | apply Kept.alloc | apply Kept.drewN | apply Kept.drew) | exact HK.out)⟩
mutual
def decimal_pieces_text.l0 : Nat → List Int → List Int → List Int → Int → Int → Option (ByteArray)
 | 0, _, _, _, _, _ => none
 | k + 1, x0, x3, x14, x15, x16 => if x16 < x15 then (if 0 ≤ x16 then (if x16 < (x14.length : Int) then (decimal_pieces_text.l1 k x0 x3 x16 (rd x14 x16) 0 x14 x15 x16) else (none)) else (none)) else ((slices_Reverse_byte_byte.f k x3).bind fun t121 => (some (strOfNums t121)))
def decimal_pieces_text.l1 : Nat → List Int → List Int → Int → Int → Int → List Int → Int → Int → Option (ByteArray)
 | 0, _, _, _, _, _, _, _, _ => none
 | k + 1, x0, x3, x4, x5, x6, x14, x15, x16 => if x6 < 9 then (if (wrap64 (x4 + 1)) < (x0.length : Int) then (if x3.length < 140737488355328 then (decimal_pieces_text.l1 k x0 (x3 ++ [(IntKind.u64.wrap (48 + (Int.tmod x5 10))) % 256]) x4 (IntKind.u64.wrap (Int.tdiv x5 10)) (wrap64 (x6 + 1)) x14 x15 x16) else (none)) else (if x5 > 0 then (if x3.length < 140737488355328 then (decimal_pieces_text.l1 k x0 (x3 ++ [(IntKind.u64.wrap (48 + (Int.tmod x5 10))) % 256]) x4 (IntKind.u64.wrap (Int.tdiv x5 10)) (wrap64 (x6 + 1)) x14 x15 x16) else (none)) else (decimal_pieces_text.l0 k x0 x3 x14 x15 (wrap64 (x16 + 1))))) else (decimal_pieces_text.l0 k x0 x3 x14 x15 (wrap64 (x16 + 1)))
end
def decimal_pieces_text.f (k : Nat) (l0 : List Int) : Option (ByteArray) := if (l0.length : Int) = 0 then (some (⟨#[48]⟩ : ByteArray)) else (if 0 ≤ (wrap64 (9 * (l0.length : Int))) then (if (wrap64 (9 * (l0.length : Int)) : Int).toNat ≤ 281474976710656 then (decimal_pieces_text.l0 k l0 (([] : List Int)) l0 (l0.length : Int) 0) else (none)) else (none))
theorem decimal_pieces_text.calls (k : Nat) (A0 : Option Addr) (c0 : Nat) (l0 : List Int) (r : ByteArray) (w : World) (hr0 : Kd.C (Kd.int .u64) w A0 l0.length l0) (hc0 : l0.length ≤ c0) (h : decimal_pieces_text.f k l0 = some r) :
  Calls Tryz.prog 144 #[.slice A0 l0.length c0] w fun e w' => e = .returned (.string r) ∧ Below w.heap.size w w' := by
 have HR0 := am hr0
 have HC0 := am hc0
 clear hr0 hc0
 have HB := am (Below.refl w.heap.size w)
 have H := h
 unfold decimal_pieces_text.f at H
 clear h
 by_cases c2 : (l0.length : Int) = 0
 ·rw [if_pos c2] at H
  have c2b0 := beq_iff_eq.mpr c2
  have c2b1 := bne_eq_false_iff_eq.mpr c2
  clear c2
  obtain rfl := Option.some.inj H
  go_enter Tryz.func144, Tryz.ntmps144
  go_wp2
  go_ret
  exact ⟨rl, bl HB⟩
 ·rw [if_neg c2] at H
  have c2b0 := beq_eq_false_iff_ne.mpr c2
  have c2b1 := bne_iff_ne.mpr c2
  have c2b2 : ¬ (l0 = []) := fun h_ => c2 (by rw [h_]; rfl)
  obtain ⟨ji3, hji3⟩ : ∃ j_ : Int, (wrap64 (9 * (l0.length : Int))) = j_ := ⟨_, rfl⟩
  first | rw [hji3] at H | simp only [hji3] at H | skip
  have hji3w : (IntKind.i64.wrap (9 * (l0.length : Int))) = ji3 := (i64_w _).trans hji3
  by_cases c4 : 0 ≤ (ji3)
  case neg => rw [if_neg c4] at H; cases H
  rw [if_pos c4] at H
  have c4b0 := eq_true c4
  have c4b1 := decide_eq_true c4
  clear c4
  by_cases c5 : (ji3 : Int).toNat ≤ 281474976710656
  case neg => rw [if_neg c5] at H; cases H
  rw [if_pos c5] at H
  have c5b0 := eq_true c5
  have c5b1 := decide_eq_true c5
  clear c5
  obtain ⟨y118, hy118⟩ : ∃ y_ : List Int, y_ = (([] : List Int)) := ⟨_, rfl⟩
  first | rw [Option.bind_some, ← hy118] at H | rw [← hy118] at H
  have Ny118 := am hy118
  clear hy118
  have H' := am H
  clear H
  go_enter Tryz.func144, Tryz.ntmps144
  go_wp2_with (first | ((with_reducible refine gd (N := 13) rfl ?_); (try (refine gate_guard (by rfl) ?_; dsimp only)); refine Kd.R_makecap (Kd.int .u8) _ 5 rfl (N := 13) rfl 142 _ _ rfl ji3 rfl rfl Tryz.underlying142 (.int .u8 0) 1 info5 rfl (by decide) (by omega) 0 (ok := fun _ => True) (okp := fun _ => True) rfl (fun _ hk => hk) trivial (of_decide_eq_true (by first | (with_reducible assumption) | assumption)) (Nat.le_trans (Nat.mul_le_mul_right _ (of_decide_eq_true (by first | (with_reducible assumption) | assumption) : ji3.toNat ≤ 281474976710656)) (by omega)) (Below.refl _ _) (Nat.le_refl _) ?_; intro v119 w6 ho7 hb hg_ hnew_; clear hg_ hnew_; (first | rw [← Ny118.out] at ho7 | (simp only [Int.reduceToNat] at ho7; rw [← Ny118.out] at ho7)); have HO120 := am (Kd.R_lower ho7 (below_size (bl HB))); replace HB := bs HB hb; clear hb ho7))
  go_loopg [3, 16] k (fun kq v3 v16 w' => ∃ (x3_1 : List Int) (x16_1 : Int), v16 = .int .i64 x16_1 ∧ Aside0 (decimal_pieces_text.l0 kq l0 x3_1 l0 (l0.length : Int) x16_1 = some r) ∧ Aside0 (kq ≤ k) ∧ Aside0 (Kd.R (Kd.int .u8) 5 w' w.heap.size (fun _ => True) v3 x3_1) ∧ Aside0 (Below w.heap.size w w'))
  case atStart => exact ⟨(y118), (0), rs, H', ⟨Nat.le_refl _⟩, ⟨kr HO120⟩, ⟨bl HB⟩⟩
  case round =>
   clear H'
   (try clear hji3w); (try clear hji3)
   try clear c1
   try clear c2
   try clear c2b0
   try clear c2b1
   try clear c2b2
   try clear p2
   try clear c4
   try clear c4b0
   try clear c4b1
   try clear c5
   try clear c5b0
   try clear c5b1
   try clear p6
   obtain ⟨x3_1, x16_1, rfl, HA, HK1, HO_3, HB⟩ := hrel
   cases gk with
   | zero => exact absurd HA.out (by simp [decimal_pieces_text.l0])
   | succ k1 =>
    have H := HA.out
    clear HA
    simp only [decimal_pieces_text.l0] at H
    by_cases c8 : x16_1 < (l0.length : Int)
    ·rw [if_pos c8] at H
     have c8b0 := decide_eq_true c8
     clear c8
     by_cases c9 : 0 ≤ x16_1
     case neg => rw [if_neg c9] at H; cases H
     rw [if_pos c9] at H
     have c9b0 := decide_eq_true c9
     clear c9
     by_cases c10 : x16_1 < (l0.length : Int)
     case neg => rw [if_neg c10] at H; cases H
     rw [if_pos c10] at H
     have c10b0 := decide_eq_true c10
     clear c10
     have H' := am H
     clear H
     have p122 : 0 ≤ (x16_1 : Int) := of_decide_eq_true (by first | (with_reducible assumption) | assumption)
     have q122 : x16_1 < (l0.length : Int) := of_decide_eq_true (by first | (with_reducible assumption) | assumption)
     obtain ⟨ad122, e122, hx122_0⟩ := Kd.at_int HR0.out x16_1 p122 q122
     cases e122
     replace hx122_0 := (HB.out.cell (World.block_lt_of_cell? w _ hx122_0)).trans hx122_0
     replace p122 := eq_true p122
     replace q122 := eq_true q122
     go_wp2
     go_loopg [3, 5, 6] k1 (fun kq v3 v5 v6 w' => ∃ (x3_2 : List Int) (x5_2 : Int) (x6_2 : Int), v5 = .int .u64 x5_2 ∧ v6 = .int .i64 x6_2 ∧ Aside0 (decimal_pieces_text.l1 kq l0 x3_2 x16_1 x5_2 x6_2 l0 (l0.length : Int) x16_1 = some r) ∧ Aside0 (kq ≤ k1) ∧ Aside0 (Kd.R (Kd.int .u8) 5 w' w.heap.size (fun _ => True) v3 x3_2) ∧ Aside0 (Below w.heap.size w w'))
     case atStart => exact ⟨(x3_1), (rd l0 x16_1), (0), rs, rs, H', ⟨Nat.le_refl _⟩, ⟨kr HO_3⟩, ⟨bl HB⟩⟩
     case round =>
      clear H'
      (try clear hji3w); (try clear hji3)
      try clear c1
      try clear p1
      try clear q1
      try clear hx1
      try clear c2
      try clear c2b0
      try clear c2b1
      try clear c2b2
      try clear p2
      try clear c4
      try clear c4b0
      try clear c4b1
      try clear c5
      try clear c5b0
      try clear c5b1
      try clear p6
      try clear c8
      try clear c8b0
      try clear c9
      try clear c9b0
      try clear c10
      try clear c10b0
      try clear hx122_0
      try clear p122
      try clear p2
      try clear p6
      try clear q122
      obtain ⟨x3_2, x5_2, x6_2, rfl, rfl, HA, HK2, HO_3, HB⟩ := hrel
      cases gk with
      | zero => exact absurd HA.out (by simp [decimal_pieces_text.l1])
      | succ k2 =>
       have H := HA.out
       clear HA
       simp only [decimal_pieces_text.l1] at H
       by_cases c11 : x6_2 < 9
       ·rw [if_pos c11] at H
        have c11b0 := decide_eq_true c11
        clear c11
        by_cases c12 : (wrap64 (x16_1 + 1)) < (l0.length : Int)
        ·rw [if_pos c12] at H
         have c12b0 := decide_eq_true c12
         clear c12
         by_cases c13 : x3_2.length < 140737488355328
         case neg => rw [if_neg c13] at H; cases H
         rw [if_pos c13] at H
         have LMc13 := am c13
         clear c13
         obtain ⟨y123, hy123⟩ : ∃ y_ : List Int, y_ = (x3_2 ++ [(IntKind.u64.wrap (48 + (Int.tmod x5_2 10))) % 256]) := ⟨_, rfl⟩
         first | rw [Option.bind_some, ← hy123] at H | rw [← hy123] at H
         have Ny123 := am hy123
         clear hy123
         have H' := am H
         clear H
         go_wp2_with (first | ((with_reducible refine gate_builtin (b := .append) (xs := #[.tmp 36, .tmp 41]) rfl ?_); (try (refine gate_guard (by rfl) ?_; dsimp only)); at_builtin; refine Kd.R_append (Kd.int .u8) (w0 := w) w.heap.size rfl (.tmp 36) (.tmp 41) 142 5 (.int .u8 0) 1 rfl Tryz.underlying142 info5 rfl (by decide) (by omega) u3 x3_2 ((IntKind.u64.wrap (48 + (Int.tmod x5_2 10))) % 256) [.int .u8 ((IntKind.u64.wrap (48 + (Int.tmod x5_2 10))) % 256)] (fun _ => True) (fun _ => False) rfl rfl ?aP (fun _ hk => hk.elim) ?aF ?aO ?aB ?aS ?aL ?_; (case aP => exact rfl); (case aB => exact (bl HB)); (case aF => exact (fun _ _ => trivial)); (case aO => exact (kr HO_3)); (case aS => exact (below_size (bl HB))); (case aL => have := LMc13.out; omega); intro v124 w14 ho hb hg hat; rw [← Ny123.out] at ho; have n0_ := am (hb); have n1_ := am (ho); clear HB; clear HO_3; have HB := n0_; have HO125 := n1_; clear n0_ n1_; clear ho hb hg hat))
         go_roundg k2
         case measure => have := HK1.out; have := HK2.out; omega
         case rel => exact ⟨(y123), (IntKind.u64.wrap (Int.tdiv x5_2 10)), (wrap64 (x6_2 + 1)), rs, rs, H', ⟨by have := HK1.out; have := HK2.out; omega⟩, ⟨kr HO125⟩, ⟨bl HB⟩⟩
        ·rw [if_neg c12] at H
         have c12b0 := decide_eq_false c12
         clear c12
         by_cases c15 : x5_2 > 0
         ·rw [if_pos c15] at H
          have c15b0 : decide (0 < x5_2) = true := decide_eq_true c15
          clear c15
          by_cases c16 : x3_2.length < 140737488355328
          case neg => rw [if_neg c16] at H; cases H
          rw [if_pos c16] at H
          have LMc16 := am c16
          clear c16
          obtain ⟨y126, hy126⟩ : ∃ y_ : List Int, y_ = (x3_2 ++ [(IntKind.u64.wrap (48 + (Int.tmod x5_2 10))) % 256]) := ⟨_, rfl⟩
          first | rw [Option.bind_some, ← hy126] at H | rw [← hy126] at H | rw [Ny123.out.trans hy126.symm] at H
          have Ny126 := am hy126
          clear hy126
          have H' := am H
          clear H
          go_wp2_with (first | ((with_reducible refine gate_builtin (b := .append) (xs := #[.tmp 36, .tmp 41]) rfl ?_); (try (refine gate_guard (by rfl) ?_; dsimp only)); at_builtin; refine Kd.R_append (Kd.int .u8) (w0 := w) w.heap.size rfl (.tmp 36) (.tmp 41) 142 5 (.int .u8 0) 1 rfl Tryz.underlying142 info5 rfl (by decide) (by omega) u3 x3_2 ((IntKind.u64.wrap (48 + (Int.tmod x5_2 10))) % 256) [.int .u8 ((IntKind.u64.wrap (48 + (Int.tmod x5_2 10))) % 256)] (fun _ => True) (fun _ => False) rfl rfl ?aP (fun _ hk => hk.elim) ?aF ?aO ?aB ?aS ?aL ?_; (case aP => exact rfl); (case aB => exact (bl HB)); (case aF => exact (fun _ _ => trivial)); (case aO => exact (kr HO_3)); (case aS => exact (below_size (bl HB))); (case aL => have := LMc16.out; omega); intro v127 w17 ho hb hg hat; rw [← Ny126.out] at ho; have n0_ := am (hb); have n1_ := am (ho); clear HB; clear HO_3; have HB := n0_; have HO128 := n1_; clear n0_ n1_; clear ho hb hg hat))
          go_roundg k2
          case measure => have := HK1.out; have := HK2.out; omega
          case rel => exact ⟨(y126), (IntKind.u64.wrap (Int.tdiv x5_2 10)), (wrap64 (x6_2 + 1)), rs, rs, H', ⟨by have := HK1.out; have := HK2.out; omega⟩, ⟨kr HO128⟩, ⟨bl HB⟩⟩
         ·rw [if_neg c15] at H
          have c15b0 : decide (0 < x5_2) = false := decide_eq_false c15
          clear c15
          have H' := am H
          clear H
          go_wp2
          go_roundg k2
          case measure => have := HK1.out; have := HK2.out; omega
          case rel => exact ⟨(x3_2), (wrap64 (x16_1 + 1)), rs, H', ⟨by have := HK1.out; have := HK2.out; omega⟩, ⟨kr HO_3⟩, ⟨bl HB⟩⟩
       ·rw [if_neg c11] at H
        have c11b0 := decide_eq_false c11
        clear c11
        have H' := am H
        clear H
        go_wp2
        go_roundg k2
        case measure => have := HK1.out; have := HK2.out; omega
        case rel => exact ⟨(x3_2), (wrap64 (x16_1 + 1)), rs, H', ⟨by have := HK1.out; have := HK2.out; omega⟩, ⟨kr HO_3⟩, ⟨bl HB⟩⟩
    ·rw [if_neg c8] at H
     have c8b0 := decide_eq_false c8
     clear c8
     obtain ⟨t121, A18, H⟩ := bo H
     try dsimp only at H
     obtain rfl := Option.some.inj H
     obtain ⟨Ao19, co19, eo19⟩ := Kd.R_slice HO_3.out
     subst eo19
     go_wp2_with (first | ((with_reducible refine gc (f := 166) rfl ?_); refine goesM (some 47) Tryz.func166 #[.slice Ao19 x3_1.length co19] ?_; (with_reducible refine (slices_Reverse_byte_byte.calls k1 (fun k_ => some k_ = (.slice Ao19 x3_1.length co19 : Value).ownBlock) (.slice Ao19 x3_1.length co19) x3_1 t121 w _ ?s1 ?s2 A18.out).mono ?_); (case s1 => repeat (first | (with_reducible first | exact HB.out | apply below_alloc | apply pw_below_drewN | apply below_drew1) | exact HB.out)); (case s2 => exact Kd.R_tight rfl HO_3.out); rintro e w20 ⟨rfl, hy0, hb, hkp⟩; refine ⟨_, rfl, ?_⟩; replace HO_3 := am (Kd.R_reok rfl hy0 (fun k_ e_ => HO_3.out.1 k_ e_)); replace HB := am (hb); (try clear hb); (try clear hkp); (try clear hy0); have hcv21 := own_string (P := Tryz.prog) Tryz.underlying142 Tryz.underlying5 Tryz.underlying28 (Kd.own_of_R HO_3.out)))
     go_ret
     exact ⟨by first | rfl | (simp [errW_none, errW_some] <;> rfl) | (simp only [← hji3]; first | rfl | (simp [errW_none, errW_some] <;> rfl)) | (simp [*, errW_none, errW_some] <;> rfl), bl HB⟩
def decimal_pieces_compare.l0 : Nat → List Int → List Int → Int → Option (Int)
 | 0, _, _, _ => none
 | k + 1, x0, x1, x5 => if x5 ≥ 0 then (if 0 ≤ x5 then (if x5 < (x0.length : Int) then (if x5 < (x1.length : Int) then (if (rd x0 x5) < (rd x1 x5) then (some (-1)) else (if (rd x0 x5) > (rd x1 x5) then (some 1) else (decimal_pieces_compare.l0 k x0 x1 (wrap64 (x5 - 1))))) else (none)) else (none)) else (none)) else (some 0)
def decimal_pieces_compare.f (k : Nat) (l0 : List Int) (l1 : List Int) : Option (Int) := if (l0.length : Int) = (l1.length : Int) then (decimal_pieces_compare.l0 k l0 l1 (wrap64 ((l0.length : Int) - 1))) else (some (mn 1 (mx (-1) (wrap64 ((l0.length : Int) - (l1.length : Int))))))
theorem decimal_pieces_compare.calls (k : Nat) (A0 : Option Addr) (c0 : Nat) (l0 : List Int) (A1 : Option Addr) (c1 : Nat) (l1 : List Int) (r : Int) (w : World) (hr0 : Kd.C (Kd.int .u64) w A0 l0.length l0) (hc0 : l0.length ≤ c0) (hr1 : Kd.C (Kd.int .u64) w A1 l1.length l1) (hc1 : l1.length ≤ c1) (h : decimal_pieces_compare.f k l0 l1 = some r) :
  Calls Tryz.prog 154 #[.slice A0 l0.length c0, .slice A1 l1.length c1] w fun e w' => e = .returned (.int .i64 r) ∧ Below w.heap.size w w' := by
 have HR0 := am hr0
 have HC0 := am hc0
 clear hr0 hc0
 have HR1 := am hr1
 have HC1 := am hc1
 clear hr1 hc1
 have HB := am (Below.refl w.heap.size w)
 have H := h
 unfold decimal_pieces_compare.f at H
 clear h
 by_cases c3 : (l0.length : Int) = (l1.length : Int)
 ·rw [if_pos c3] at H
  have c3b0 := beq_iff_eq.mpr c3
  have c3b1 := bne_eq_false_iff_eq.mpr c3
  have c3b2 : (l0.length == l1.length) = true := by first | simpa using c3 | (simp at c3 ⊢; omega)
  clear c3
  have H' := am H
  clear H
  go_enter Tryz.func154, Tryz.ntmps154
  go_wp2
  repeat (go_quiet (fail); try go_wp2)
  go_loopg [5] k (fun kq v5 w' => ∃ (x5_1 : Int), v5 = .int .i64 x5_1 ∧ Aside0 (decimal_pieces_compare.l0 kq l0 l1 x5_1 = some r) ∧ Aside0 (kq ≤ k) ∧ Aside0 (Below w.heap.size w w'))
  case atStart => exact ⟨(wrap64 ((l0.length : Int) - 1)), rs, H', ⟨Nat.le_refl _⟩, ⟨bl HB⟩⟩
  case round =>
   clear H'
   try clear c1
   try clear p2
   try clear c3
   try clear c3b0
   try clear c3b1
   try clear c3b2
   obtain ⟨x5_1, rfl, HA, HK1, HB⟩ := hrel
   cases gk with
   | zero => exact absurd HA.out (by simp [decimal_pieces_compare.l0])
   | succ k1 =>
    have H := HA.out
    clear HA
    simp only [decimal_pieces_compare.l0] at H
    by_cases c4 : x5_1 ≥ 0
    ·rw [if_pos c4] at H
     have c4b0 : decide (0 ≤ x5_1) = true := decide_eq_true c4
     clear c4
     by_cases c5 : 0 ≤ x5_1
     case neg => rw [if_neg c5] at H; cases H
     rw [if_pos c5] at H
     have c5b0 := decide_eq_true c5
     clear c5
     by_cases c6 : x5_1 < (l0.length : Int)
     case neg => rw [if_neg c6] at H; cases H
     rw [if_pos c6] at H
     have c6b0 := decide_eq_true c6
     clear c6
     by_cases c7 : x5_1 < (l1.length : Int)
     case neg => rw [if_neg c7] at H; cases H
     rw [if_pos c7] at H
     have c7b0 := decide_eq_true c7
     clear c7
     by_cases c8 : (rd l0 x5_1) < (rd l1 x5_1)
     ·rw [if_pos c8] at H
      have c8b0 := decide_eq_true c8
      clear c8
      obtain rfl := Option.some.inj H
      have p129 : 0 ≤ (x5_1 : Int) := of_decide_eq_true (by first | (with_reducible assumption) | assumption)
      have q129 : x5_1 < (l0.length : Int) := of_decide_eq_true (by first | (with_reducible assumption) | assumption)
      obtain ⟨ad129, e129, hx129_0⟩ := Kd.at_int HR0.out x5_1 p129 q129
      cases e129
      replace hx129_0 := (HB.out.cell (World.block_lt_of_cell? w _ hx129_0)).trans hx129_0
      replace p129 := eq_true p129
      replace q129 := eq_true q129
      have p130 : 0 ≤ (x5_1 : Int) := of_decide_eq_true (by first | (with_reducible assumption) | assumption)
      have q130 : x5_1 < (l1.length : Int) := of_decide_eq_true (by first | (with_reducible assumption) | assumption)
      obtain ⟨ad130, e130, hx130_0⟩ := Kd.at_int HR1.out x5_1 p130 q130
      cases e130
      replace hx130_0 := (HB.out.cell (World.block_lt_of_cell? w _ hx130_0)).trans hx130_0
      replace p130 := eq_true p130
      replace q130 := eq_true q130
      go_wp2
      repeat (go_quiet (fail); try go_wp2)
      go_ret
      exact ⟨rl, bl HB⟩
     ·rw [if_neg c8] at H
      have c8b0 := decide_eq_false c8
      clear c8
      by_cases c9 : (rd l0 x5_1) > (rd l1 x5_1)
      ·rw [if_pos c9] at H
       have c9b0 : decide ((rd l1 x5_1) < (rd l0 x5_1)) = true := decide_eq_true c9
       clear c9
       obtain rfl := Option.some.inj H
       have p129 : 0 ≤ (x5_1 : Int) := of_decide_eq_true (by first | (with_reducible assumption) | assumption)
       have q129 : x5_1 < (l0.length : Int) := of_decide_eq_true (by first | (with_reducible assumption) | assumption)
       obtain ⟨ad129, e129, hx129_0⟩ := Kd.at_int HR0.out x5_1 p129 q129
       cases e129
       replace hx129_0 := (HB.out.cell (World.block_lt_of_cell? w _ hx129_0)).trans hx129_0
       replace p129 := eq_true p129
       replace q129 := eq_true q129
       have p130 : 0 ≤ (x5_1 : Int) := of_decide_eq_true (by first | (with_reducible assumption) | assumption)
       have q130 : x5_1 < (l1.length : Int) := of_decide_eq_true (by first | (with_reducible assumption) | assumption)
       obtain ⟨ad130, e130, hx130_0⟩ := Kd.at_int HR1.out x5_1 p130 q130
       cases e130
       replace hx130_0 := (HB.out.cell (World.block_lt_of_cell? w _ hx130_0)).trans hx130_0
       replace p130 := eq_true p130
       replace q130 := eq_true q130
       have p131 : 0 ≤ (x5_1 : Int) := of_decide_eq_true (by first | (with_reducible assumption) | assumption)
       have q131 : x5_1 < (l0.length : Int) := of_decide_eq_true (by first | (with_reducible assumption) | assumption)
       obtain ⟨ad131, e131, hx131_0⟩ := Kd.at_int HR0.out x5_1 p131 q131
       obtain rfl : ad129 = ad131 := (by injection e131)
       replace hx131_0 := (HB.out.cell (World.block_lt_of_cell? w _ hx131_0)).trans hx131_0
       replace p131 := eq_true p131
       replace q131 := eq_true q131
       have p132 : 0 ≤ (x5_1 : Int) := of_decide_eq_true (by first | (with_reducible assumption) | assumption)
       have q132 : x5_1 < (l1.length : Int) := of_decide_eq_true (by first | (with_reducible assumption) | assumption)
       obtain ⟨ad132, e132, hx132_0⟩ := Kd.at_int HR1.out x5_1 p132 q132
       obtain rfl : ad130 = ad132 := (by injection e132)
       replace hx132_0 := (HB.out.cell (World.block_lt_of_cell? w _ hx132_0)).trans hx132_0
       replace p132 := eq_true p132
       replace q132 := eq_true q132
       go_wp2
       repeat (go_quiet (fail); try go_wp2)
       go_ret
       exact ⟨rl, bl HB⟩
      ·rw [if_neg c9] at H
       have c9b0 : decide ((rd l1 x5_1) < (rd l0 x5_1)) = false := decide_eq_false c9
       clear c9
       have H' := am H
       clear H
       have p129 : 0 ≤ (x5_1 : Int) := of_decide_eq_true (by first | (with_reducible assumption) | assumption)
       have q129 : x5_1 < (l0.length : Int) := of_decide_eq_true (by first | (with_reducible assumption) | assumption)
       obtain ⟨ad129, e129, hx129_0⟩ := Kd.at_int HR0.out x5_1 p129 q129
       cases e129
       replace hx129_0 := (HB.out.cell (World.block_lt_of_cell? w _ hx129_0)).trans hx129_0
       replace p129 := eq_true p129
       replace q129 := eq_true q129
       have p130 : 0 ≤ (x5_1 : Int) := of_decide_eq_true (by first | (with_reducible assumption) | assumption)
       have q130 : x5_1 < (l1.length : Int) := of_decide_eq_true (by first | (with_reducible assumption) | assumption)
       obtain ⟨ad130, e130, hx130_0⟩ := Kd.at_int HR1.out x5_1 p130 q130
       cases e130
       replace hx130_0 := (HB.out.cell (World.block_lt_of_cell? w _ hx130_0)).trans hx130_0
       replace p130 := eq_true p130
       replace q130 := eq_true q130
       have p131 : 0 ≤ (x5_1 : Int) := of_decide_eq_true (by first | (with_reducible assumption) | assumption)
       have q131 : x5_1 < (l0.length : Int) := of_decide_eq_true (by first | (with_reducible assumption) | assumption)
       obtain ⟨ad131, e131, hx131_0⟩ := Kd.at_int HR0.out x5_1 p131 q131
       obtain rfl : ad129 = ad131 := (by injection e131)
       replace hx131_0 := (HB.out.cell (World.block_lt_of_cell? w _ hx131_0)).trans hx131_0
       replace p131 := eq_true p131
       replace q131 := eq_true q131
       have p132 : 0 ≤ (x5_1 : Int) := of_decide_eq_true (by first | (with_reducible assumption) | assumption)
       have q132 : x5_1 < (l1.length : Int) := of_decide_eq_true (by first | (with_reducible assumption) | assumption)
       obtain ⟨ad132, e132, hx132_0⟩ := Kd.at_int HR1.out x5_1 p132 q132
       obtain rfl : ad130 = ad132 := (by injection e132)
       replace hx132_0 := (HB.out.cell (World.block_lt_of_cell? w _ hx132_0)).trans hx132_0
       replace p132 := eq_true p132
       replace q132 := eq_true q132
       go_wp2
       repeat (go_quiet (fail); try go_wp2)
       go_roundg k1
       case measure => have := HK1.out; omega
       case rel => exact ⟨(wrap64 (x5_1 - 1)), rs, H', ⟨by have := HK1.out; omega⟩, ⟨bl HB⟩⟩
    ·rw [if_neg c4] at H
     have c4b0 : decide (0 ≤ x5_1) = false := decide_eq_false c4
     clear c4
     obtain rfl := Option.some.inj H
     go_wp2
     repeat (go_quiet (fail); try go_wp2)
     go_ret
     exact ⟨rl, bl HB⟩
 ·rw [if_neg c3] at H
  have c3b0 := beq_eq_false_iff_ne.mpr c3
  have c3b1 := bne_iff_ne.mpr c3
  have c3b2 : (l0.length == l1.length) = false := by first | simpa using c3 | (simp at c3 ⊢; omega)
  obtain ⟨ji10, hji10⟩ : ∃ j_ : Int, (mx (-1) (wrap64 ((l0.length : Int) - (l1.length : Int)))) = j_ := ⟨_, rfl⟩
  first | rw [hji10] at H | simp only [hji10] at H | skip
  have hji10_ : (if (-1) < (wrap64 ((l0.length : Int) - (l1.length : Int))) then (wrap64 ((l0.length : Int) - (l1.length : Int))) else (-1)) = ji10 := hji10
  obtain ⟨ji11, hji11⟩ : ∃ j_ : Int, (mn 1 (ji10)) = j_ := ⟨_, rfl⟩
  first | rw [hji11] at H | simp only [hji11] at H | skip
  have hji11_ : (if (ji10) < 1 then (ji10) else 1) = ji11 := hji11
  obtain rfl := Option.some.inj H
  go_enter Tryz.func154, Tryz.ntmps154
  go_wp2
  repeat (go_quiet (fail); try go_wp2)
  go_ret
  exact ⟨by first | rfl | (simp [errW_none, errW_some] <;> rfl) | (simp only [← hji10, ← hji11]; first | rfl | (simp [errW_none, errW_some] <;> rfl)) | (simp [*, errW_none, errW_some] <;> rfl), bl HB⟩
mutual
def decimal_pieces_times.l0 : Nat → List Int → List Int → List Int → Int → Int → Option (List Int)
 | 0, _, _, _, _, _ => none
 | k + 1, x1, x5, x17, x18, x19 => if x19 < x18 then (if 0 ≤ x19 then (if x19 < (x17.length : Int) then (decimal_pieces_times.l1 k x1 x5 x19 (rd x17 x19) 0 x17 x18 x19 x1 (x1.length : Int) 0) else (none)) else (none)) else ((decimal_pieces_trim.f k x5).bind fun t159 => (some t159))
def decimal_pieces_times.l1 : Nat → List Int → List Int → Int → Int → Int → List Int → Int → Int → List Int → Int → Int → Option (List Int)
 | 0, _, _, _, _, _, _, _, _, _, _, _ => none
 | k + 1, x1, x5, x6, x7, x8, x17, x18, x19, x24, x25, x26 => if x26 < x25 then (if 0 ≤ x26 then (if x26 < (x24.length : Int) then (if 0 ≤ (wrap64 (x6 + x26)) then (if (wrap64 (x6 + x26)) < (x5.length : Int) then (decimal_pieces_times.l1 k x1 (x5.set ((wrap64 (x6 + x26)) : Int).toNat (Int.tmod (IntKind.u64.wrap (x8 + (IntKind.u64.wrap ((rd x5 (wrap64 (x6 + x26))) + (IntKind.u64.wrap (x7 * (rd x24 x26))))))) 1000000000)) x6 x7 (IntKind.u64.wrap (Int.tdiv (IntKind.u64.wrap (x8 + (IntKind.u64.wrap ((rd x5 (wrap64 (x6 + x26))) + (IntKind.u64.wrap (x7 * (rd x24 x26))))))) 1000000000)) x17 x18 x19 x24 x25 (wrap64 (x26 + 1))) else (none)) else (none)) else (none)) else (none)) else (if 0 ≤ (wrap64 (x6 + (x1.length : Int))) then (if (wrap64 (x6 + (x1.length : Int))) < (x5.length : Int) then (decimal_pieces_times.l0 k x1 (x5.set ((wrap64 (x6 + (x1.length : Int))) : Int).toNat x8) x17 x18 (wrap64 (x19 + 1))) else (none)) else (none))
end
def decimal_pieces_times.f (k : Nat) (l0 : List Int) (l1 : List Int) : Option (List Int) := if 0 ≤ (wrap64 ((l0.length : Int) + (l1.length : Int))) then (if (wrap64 ((l0.length : Int) + (l1.length : Int)) : Int).toNat ≤ 35184372088832 then (decimal_pieces_times.l0 k l1 (List.replicate (wrap64 ((l0.length : Int) + (l1.length : Int)) : Int).toNat 0) l0 (l0.length : Int) 0) else (none)) else (none)
theorem decimal_pieces_times.calls (k : Nat) (A0 : Option Addr) (c0 : Nat) (l0 : List Int) (A1 : Option Addr) (c1 : Nat) (l1 : List Int) (r : List Int) (w : World) (hr0 : Kd.C (Kd.int .u64) w A0 l0.length l0) (hc0 : l0.length ≤ c0) (hr1 : Kd.C (Kd.int .u64) w A1 l1.length l1) (hc1 : l1.length ≤ c1) (h : decimal_pieces_times.f k l0 l1 = some r) :
  Calls Tryz.prog 143 #[.slice A0 l0.length c0, .slice A1 l1.length c1] w fun e w' => ∃ v0_ : Value, e = .returned (v0_) ∧ Kd.R (Kd.int .u64) 112 w' w.heap.size (fun _ => True) v0_ r ∧ Below w.heap.size w w' := by
 have HR0 := am hr0
 have HC0 := am hc0
 clear hr0 hc0
 have HR1 := am hr1
 have HC1 := am hc1
 clear hr1 hc1
 have HB := am (Below.refl w.heap.size w)
 have H := h
 unfold decimal_pieces_times.f at H
 clear h
 obtain ⟨ji3, hji3⟩ : ∃ j_ : Int, (wrap64 ((l0.length : Int) + (l1.length : Int))) = j_ := ⟨_, rfl⟩
 first | rw [hji3] at H | simp only [hji3] at H | skip
 have hji3w : (IntKind.i64.wrap ((l0.length : Int) + (l1.length : Int))) = ji3 := (i64_w _).trans hji3
 by_cases c4 : 0 ≤ (ji3)
 case neg => rw [if_neg c4] at H; cases H
 rw [if_pos c4] at H
 have c4b0 := eq_true c4
 have c4b1 := decide_eq_true c4
 clear c4
 by_cases c5 : (ji3 : Int).toNat ≤ 35184372088832
 case neg => rw [if_neg c5] at H; cases H
 rw [if_pos c5] at H
 have c5b0 := eq_true c5
 have c5b1 := decide_eq_true c5
 clear c5
 obtain ⟨y156, hy156⟩ : ∃ y_ : List Int, y_ = (List.replicate (ji3 : Int).toNat 0) := ⟨_, rfl⟩
 first | rw [Option.bind_some, ← hy156] at H | rw [← hy156] at H
 have Ny156 := am hy156
 clear hy156
 have H' := am H
 clear H
 go_enter Tryz.func143, Tryz.ntmps143
 go_wp2_with (first | ((with_reducible refine gd (N := 16) rfl ?_); refine Kd.R_make (Kd.int .u64) _ 112 rfl (N := 16) rfl 178 _ _ rfl ji3 rfl rfl Tryz.underlying178 (.int .u64 0) 8 info112 rfl (by decide) (by omega) 0 (ok := fun _ => True) (okp := fun _ => True) rfl (fun _ hk => hk) trivial (of_decide_eq_true (by first | (with_reducible assumption) | assumption)) (Nat.le_trans (Nat.mul_le_mul_right _ (of_decide_eq_true (by first | (with_reducible assumption) | assumption) : ji3.toNat ≤ 35184372088832)) (by omega)) (Below.refl _ _) (Nat.le_refl _) ?_; intro v157 w6 ho7 hb hg_ hnew_; clear hg_ hnew_; (first | rw [← Ny156.out] at ho7 | (simp only [Int.reduceToNat] at ho7; rw [← Ny156.out] at ho7)); have HO158 := am (Kd.R_lower ho7 (below_size (bl HB))); replace HB := bs HB hb; clear hb ho7))
 go_loopg [19] k (fun kq v19 w' => ∃ (x5_1 : List Int) (x19_1 : Int), v19 = .int .i64 x19_1 ∧ Aside0 (decimal_pieces_times.l0 kq l1 x5_1 l0 (l0.length : Int) x19_1 = some r) ∧ Aside0 (kq ≤ k) ∧ Aside0 (Kd.R (Kd.int .u64) 112 w' w.heap.size (fun _ => True) v157 x5_1) ∧ Aside0 (Below w.heap.size w w'))
 case atStart => exact ⟨(y156), (0), rs, H', ⟨Nat.le_refl _⟩, ⟨kr HO158⟩, ⟨bl HB⟩⟩
 case round =>
  clear H'
  (try clear hji3w); (try clear hji3)
  try clear c1
  try clear p2
  try clear c4
  try clear c4b0
  try clear c4b1
  try clear c5
  try clear c5b0
  try clear c5b1
  try clear p6
  obtain ⟨x5_1, x19_1, rfl, HA, HK1, HO_5, HB⟩ := hrel
  cases gk with
  | zero => exact absurd HA.out (by simp [decimal_pieces_times.l0])
  | succ k1 =>
   have H := HA.out
   clear HA
   simp only [decimal_pieces_times.l0] at H
   by_cases c8 : x19_1 < (l0.length : Int)
   ·rw [if_pos c8] at H
    have c8b0 := decide_eq_true c8
    clear c8
    by_cases c9 : 0 ≤ x19_1
    case neg => rw [if_neg c9] at H; cases H
    rw [if_pos c9] at H
    have c9b0 := decide_eq_true c9
    clear c9
    by_cases c10 : x19_1 < (l0.length : Int)
    case neg => rw [if_neg c10] at H; cases H
    rw [if_pos c10] at H
    have c10b0 := decide_eq_true c10
    clear c10
    have H' := am H
    clear H
    have p162 : 0 ≤ (x19_1 : Int) := of_decide_eq_true (by first | (with_reducible assumption) | assumption)
    have q162 : x19_1 < (l0.length : Int) := of_decide_eq_true (by first | (with_reducible assumption) | assumption)
    obtain ⟨ad162, e162, hx162_0⟩ := Kd.at_int HR0.out x19_1 p162 q162
    cases e162
    replace hx162_0 := (HB.out.cell (World.block_lt_of_cell? w _ hx162_0)).trans hx162_0
    replace p162 := eq_true p162
    replace q162 := eq_true q162
    go_wp2
    go_loopg [8, 26] k1 (fun kq v8 v26 w' => ∃ (x5_2 : List Int) (x8_2 : Int) (x26_2 : Int), v8 = .int .u64 x8_2 ∧ v26 = .int .i64 x26_2 ∧ Aside0 (decimal_pieces_times.l1 kq l1 x5_2 x19_1 (rd l0 x19_1) x8_2 l0 (l0.length : Int) x19_1 l1 (l1.length : Int) x26_2 = some r) ∧ Aside0 (kq ≤ k1) ∧ Aside0 (Kd.R (Kd.int .u64) 112 w' w.heap.size (fun _ => True) v157 x5_2) ∧ Aside0 (Below w.heap.size w w'))
    case atStart => exact ⟨(x5_1), (0), (0), rs, rs, H', ⟨Nat.le_refl _⟩, ⟨kr HO_5⟩, ⟨bl HB⟩⟩
    case round =>
     clear H'
     (try clear hji3w); (try clear hji3)
     try clear c1
     try clear p1
     try clear q1
     try clear hx1
     try clear p2
     try clear c4
     try clear c4b0
     try clear c4b1
     try clear c5
     try clear c5b0
     try clear c5b1
     try clear p6
     try clear c8
     try clear c8b0
     try clear c9
     try clear c9b0
     try clear c10
     try clear c10b0
     try clear hx162_0
     try clear p162
     try clear p2
     try clear p6
     try clear q162
     obtain ⟨x5_2, x8_2, x26_2, rfl, rfl, HA, HK2, HO_5, HB⟩ := hrel
     cases gk with
     | zero => exact absurd HA.out (by simp [decimal_pieces_times.l1])
     | succ k2 =>
      have H := HA.out
      clear HA
      simp only [decimal_pieces_times.l1] at H
      by_cases c11 : x26_2 < (l1.length : Int)
      ·rw [if_pos c11] at H
       have c11b0 := decide_eq_true c11
       clear c11
       by_cases c12 : 0 ≤ x26_2
       case neg => rw [if_neg c12] at H; cases H
       rw [if_pos c12] at H
       have c12b0 := decide_eq_true c12
       clear c12
       by_cases c13 : x26_2 < (l1.length : Int)
       case neg => rw [if_neg c13] at H; cases H
       rw [if_pos c13] at H
       have c13b0 := decide_eq_true c13
       clear c13
       obtain ⟨ji14, hji14⟩ : ∃ j_ : Int, (wrap64 (x19_1 + x26_2)) = j_ := ⟨_, rfl⟩
       first | rw [hji14] at H | simp only [hji14] at H | skip
       have hji14w : (IntKind.i64.wrap (x19_1 + x26_2)) = ji14 := (i64_w _).trans hji14
       by_cases c15 : 0 ≤ (ji14)
       case neg => rw [if_neg c15] at H; cases H
       rw [if_pos c15] at H
       have c15b0 := decide_eq_true c15
       clear c15
       by_cases c16 : (ji14) < (x5_2.length : Int)
       case neg => rw [if_neg c16] at H; cases H
       rw [if_pos c16] at H
       have c16b0 := decide_eq_true c16
       clear c16
       obtain ⟨y165, hy165⟩ : ∃ y_ : List Int, y_ = (x5_2.set ((ji14) : Int).toNat (Int.tmod (IntKind.u64.wrap (x8_2 + (IntKind.u64.wrap ((rd x5_2 (ji14)) + (IntKind.u64.wrap ((rd l0 x19_1) * (rd l1 x26_2))))))) 1000000000)) := ⟨_, rfl⟩
       first | rw [Option.bind_some, ← hy165] at H | rw [← hy165] at H
       have Ny165 := am hy165
       clear hy165
       have H' := am H
       clear H
       have p163 : 0 ≤ (x26_2 : Int) := of_decide_eq_true (by first | (with_reducible assumption) | assumption)
       have q163 : x26_2 < (l1.length : Int) := of_decide_eq_true (by first | (with_reducible assumption) | assumption)
       obtain ⟨ad163, e163, hx163_0⟩ := Kd.at_int HR1.out x26_2 p163 q163
       cases e163
       replace hx163_0 := (HB.out.cell (World.block_lt_of_cell? w _ hx163_0)).trans hx163_0
       replace p163 := eq_true p163
       replace q163 := eq_true q163
       obtain ⟨Ao18, co18, eo18⟩ := Kd.R_slice HO_5.out
       subst eo18
       have p164 : 0 ≤ ((ji14) : Int) := of_decide_eq_true (by first | (with_reducible assumption) | assumption)
       have q164 : (ji14) < (x5_2.length : Int) := of_decide_eq_true (by first | (with_reducible assumption) | assumption)
       obtain ⟨ad164, e164, hx164_0⟩ := Kd.at_int (Kd.R_reads' HO_5.out).2.2 (ji14) p164 q164
       cases e164
       replace p164 := eq_true p164
       replace q164 := eq_true q164
       have p17 : 0 ≤ ((ji14) : Int) := of_decide_eq_true (by first | (with_reducible assumption) | assumption)
       have q17 : ((ji14) : Int) < ((x5_2.length : Int) : Int) := of_decide_eq_true (by first | (with_reducible assumption) | assumption)
       obtain ⟨go17, co17, eo17, gb17, gl17, cl17, HG17⟩ := Kd.R_form HO_5.out (by omega)
       (first | cases eo17 | (injection eo17 with ea_ en_ ec_; (first | subst ea_ | (injection ea_ with ea_; subst ea_)); subst ec_; clear en_))
       have GB17 := am gb17
       have GG17 := am HG17
       clear gb17 gl17 HG17
       (first | simp only [add_plain] at hx164_0 | skip)
       obtain ⟨hx17_0, hf17_0⟩ := Kd.R_celln 0 HO_5.out ((ji14) : Int) p17 q17
       replace p17 := eq_true p17
       replace q17 := eq_true q17
       have HP19 := Kd.R_putg HO_5.out ((ji14) : Int) (Int.tmod (IntKind.u64.wrap (x8_2 + (IntKind.u64.wrap ((rd x5_2 (ji14)) + (IntKind.u64.wrap ((rd l0 x19_1) * (rd l1 x26_2))))))) 1000000000)
       go_wp2_with (first | ((with_reducible refine gate_store (t := 112) (p := 49) rfl ?_); refine store_event (t := 112) (p := 49) (v := ?vo_w20) (w1 := (wr.setCell ⟨go17, ((ji14) : Int).toNat, none⟩ (.int .u64 (Int.tmod (IntKind.u64.wrap (x8_2 + (IntKind.u64.wrap ((rd x5_2 (ji14)) + (IntKind.u64.wrap ((rd l0 x19_1) * (rd l1 x26_2))))))) 1000000000)))) ?hg ?ho ?hn ?hr ?_; (case ho => rfl); (case hg => rfl); (case hn => rfl); (case hr => first | (go_simp; done) | (go_simp; rfl)); intro w20 hw; have hg : wr.grownBy w20 (some go17) := (by rw [hw]; exact HP19.2); have hp_ : Kd.R (Kd.int .u64) 112 w20 w.heap.size (fun _ => True) (.slice (some ⟨go17, 0, none⟩) x5_2.length co18) y165 := (by rw [hw, Ny165.out]; exact HP19.1); clear HP19; replace HO_5 := am (hp_); replace HB := am ((by rw [hw]; exact below_set (HB.out) GB17.out : Below w.heap.size w w20)); clear hg hw hp_))
       go_roundg k2
       case measure => have := HK1.out; have := HK2.out; omega
       case rel => exact ⟨(y165), (IntKind.u64.wrap (Int.tdiv (IntKind.u64.wrap (x8_2 + (IntKind.u64.wrap ((rd x5_2 (ji14)) + (IntKind.u64.wrap ((rd l0 x19_1) * (rd l1 x26_2))))))) 1000000000)), (wrap64 (x26_2 + 1)), (by first | rfl | (simp; done) | (simp only [← hji14] <;> (first | rfl | simp)) | (simp [*]; done)), rs, H', ⟨by have := HK1.out; have := HK2.out; omega⟩, ⟨kr HO_5⟩, ⟨bl HB⟩⟩
      ·rw [if_neg c11] at H
       have c11b0 := decide_eq_false c11
       clear c11
       obtain ⟨ji21, hji21⟩ : ∃ j_ : Int, (wrap64 (x19_1 + (l1.length : Int))) = j_ := ⟨_, rfl⟩
       first | rw [hji21] at H | simp only [hji21] at H | skip
       have hji21w : (IntKind.i64.wrap (x19_1 + (l1.length : Int))) = ji21 := (i64_w _).trans hji21
       by_cases c22 : 0 ≤ (ji21)
       case neg => rw [if_neg c22] at H; cases H
       rw [if_pos c22] at H
       have c22b0 := decide_eq_true c22
       clear c22
       by_cases c23 : (ji21) < (x5_2.length : Int)
       case neg => rw [if_neg c23] at H; cases H
       rw [if_pos c23] at H
       have c23b0 := decide_eq_true c23
       clear c23
       obtain ⟨y166, hy166⟩ : ∃ y_ : List Int, y_ = (x5_2.set ((ji21) : Int).toNat x8_2) := ⟨_, rfl⟩
       first | rw [Option.bind_some, ← hy166] at H | rw [← hy166] at H
       have Ny166 := am hy166
       clear hy166
       have H' := am H
       clear H
       have p24 : 0 ≤ ((ji21) : Int) := of_decide_eq_true (by first | (with_reducible assumption) | assumption)
       have q24 : ((ji21) : Int) < ((x5_2.length : Int) : Int) := of_decide_eq_true (by first | (with_reducible assumption) | assumption)
       obtain ⟨go24, co24, eo24, gb24, gl24, cl24, HG24⟩ := Kd.R_form HO_5.out (by omega)
       (first | cases eo24 | (injection eo24 with ea_ en_ ec_; (first | subst ea_ | (injection ea_ with ea_; subst ea_)); subst ec_; clear en_))
       have GB24 := am gb24
       have GG24 := am HG24
       clear gb24 gl24 HG24
       obtain ⟨hx24_0, hf24_0⟩ := Kd.R_celln 0 HO_5.out ((ji21) : Int) p24 q24
       replace p24 := eq_true p24
       replace q24 := eq_true q24
       have HP25 := Kd.R_putg HO_5.out ((ji21) : Int) x8_2
       go_wp2_with (first | ((with_reducible refine gate_store (t := 112) (p := 59) rfl ?_); refine store_event (t := 112) (p := 59) (v := ?vo_w26) (w1 := (wr.setCell ⟨go24, ((ji21) : Int).toNat, none⟩ (.int .u64 x8_2))) ?hg ?ho ?hn ?hr ?_; (case ho => rfl); (case hg => rfl); (case hn => rfl); (case hr => first | (go_simp; done) | (go_simp; rfl)); intro w26 hw; have hg : wr.grownBy w26 (some go24) := (by rw [hw]; exact HP25.2); have hp_ : Kd.R (Kd.int .u64) 112 w26 w.heap.size (fun _ => True) (.slice (some ⟨go24, 0, none⟩) x5_2.length co24) y166 := (by rw [hw, Ny166.out]; exact HP25.1); clear HP25; replace HO_5 := am (hp_); replace HB := am ((by rw [hw]; exact below_set (HB.out) GB24.out : Below w.heap.size w w26)); clear hg hw hp_))
       go_roundg k2
       case measure => have := HK1.out; have := HK2.out; omega
       case rel => exact ⟨(y166), (wrap64 (x19_1 + 1)), rs, H', ⟨by have := HK1.out; have := HK2.out; omega⟩, ⟨kr HO_5⟩, ⟨bl HB⟩⟩
   ·rw [if_neg c8] at H
    have c8b0 := decide_eq_false c8
    clear c8
    obtain ⟨t159, A27, H⟩ := bo H
    try dsimp only at H
    obtain rfl := Option.some.inj H
    obtain ⟨Ao28, co28, eo28⟩ := Kd.R_slice HO_5.out
    subst eo28
    go_wp2_with (first | ((with_reducible refine gc (f := 158) rfl ?_); refine goesM (some 62) Tryz.func158 #[.slice Ao28 x5_1.length co28] ?_; (with_reducible refine (decimal_pieces_trim.calls k1 (fun k_ => some k_ = (.slice Ao28 x5_1.length co28 : Value).ownBlock) (.slice Ao28 x5_1.length co28) x5_1 t159 w _ ?s1 ?s2 A27.out).mono ?_); (case s1 => repeat (first | (with_reducible first | exact HB.out | apply below_alloc | apply pw_below_drewN | apply below_drew1) | exact HB.out)); (case s2 => exact Kd.R_tight rfl HO_5.out); rintro e w29 ⟨v160, rfl, ho0, hb, hkp⟩; refine ⟨_, rfl, ?_⟩; have n0_ := am (Kd.R_mono (ok' := fun k_ => True) ho0 (fun k_ hk_ => trivial)); have n1_ := am (hb); clear HB; clear HO_5; have HO161 := n0_; have HB := n1_; clear n0_ n1_; (try clear hb); (try clear hkp); (try clear ho0)))
    go_ret
    exact ⟨_, by first | rfl | (simp [errW_none, errW_some] <;> rfl) | (simp only [← hji3]; first | rfl | (simp [errW_none, errW_some] <;> rfl)) | (simp [*, errW_none, errW_some] <;> rfl), kr HO161, bl HB⟩
def decimal_pieces_scaled.f (k : Nat) (l0 : List Int) (a1 : Int) : Option (List Int) := (decimal_pieces_trim.f k (([a1] : List Int))).bind fun t170 => ((decimal_pieces_times.f k l0 t170).bind fun t173 => (some t173))
theorem decimal_pieces_scaled.calls (k : Nat) (A0 : Option Addr) (c0 : Nat) (l0 : List Int) (a1 : Int) (r : List Int) (w : World) (hr0 : Kd.C (Kd.int .u64) w A0 l0.length l0) (hc0 : l0.length ≤ c0) (h : decimal_pieces_scaled.f k l0 a1 = some r) :
  Calls Tryz.prog 180 #[.slice A0 l0.length c0, .int .u64 a1] w fun e w' => ∃ v0_ : Value, e = .returned (v0_) ∧ Kd.R (Kd.int .u64) 112 w' w.heap.size (fun _ => True) v0_ r ∧ Below w.heap.size w w' := by
 have HR0 := am hr0
 have HC0 := am hc0
 clear hr0 hc0
 have HB := am (Below.refl w.heap.size w)
 have H := h
 unfold decimal_pieces_scaled.f at H
 clear h
 obtain ⟨y167, hy167⟩ : ∃ y_ : List Int, y_ = (([a1] : List Int)) := ⟨_, rfl⟩
 first | rw [Option.bind_some, ← hy167] at H | rw [← hy167] at H
 have Ny167 := am hy167
 clear hy167
 obtain ⟨t170, A3, H⟩ := bo H
 try dsimp only at H
 obtain ⟨t173, A4, H⟩ := bo H
 try dsimp only at H
 obtain rfl := Option.some.inj H
 go_enter Tryz.func180, Tryz.ntmps180
 go_wp2_with (first | ((with_reducible refine gd (N := 7) rfl ?_); refine Kd.R_lit (Kd.int .u64) _ 112 ?hg (N := 7) ?hd (xs := ([a1] : List Int)) (inner := [.int .u64 a1]) (ok := fun _ => True) (okp := fun _ => True) ?hr ?hp (fun _ hk => hk) trivial (Below.refl _ _) (Nat.le_refl _) (by simp) ?_; (case hd => rfl); (case hg => rfl); (case hr => first | (go_simp; done) | (go_simp; rfl)); (case hp => exact (Reps.one (show Kd.M (Kd.int .u64) _ _ _ a1 [.int .u64 a1] from rfl) (Reps.none _ _))); intro v168 w5 ho6 hb hg_ hnew_; clear hg_ hnew_; (first | rw [← Ny167.out] at ho6 | (simp only [Int.reduceToNat] at ho6; rw [← Ny167.out] at ho6)); have HO169 := am (Kd.R_lower ho6 (below_size (bl HB))); replace HB := bs HB hb; clear hb ho6; obtain ⟨Ao7, co7, eo7⟩ := Kd.R_slice HO169.out; subst eo7) | ((with_reducible refine gc (f := 158) rfl ?_); refine goesM (some 8) Tryz.func158 #[.slice Ao7 y167.length co7] ?_; (with_reducible refine (decimal_pieces_trim.calls k (fun k_ => some k_ = (.slice Ao7 y167.length co7 : Value).ownBlock) (.slice Ao7 y167.length co7) y167 t170 w _ ?s1 ?s2 A3.out).mono ?_); (case s1 => repeat (first | (with_reducible first | exact HB.out | apply below_alloc | apply pw_below_drewN | apply below_drew1) | exact HB.out)); (case s2 => exact Kd.R_tight rfl HO169.out); rintro e w8 ⟨v171, rfl, ho0, hb, hkp⟩; refine ⟨_, rfl, ?_⟩; have n0_ := am (Kd.R_mono (ok' := fun k_ => True) ho0 (fun k_ hk_ => trivial)); have n1_ := am (hb); clear HB; clear HO169; have HO172 := n0_; have HB := n1_; clear n0_ n1_; (try clear hb); (try clear hkp); (try clear ho0); obtain ⟨Ao9, co9, eo9⟩ := Kd.R_slice HO172.out; subst eo9) | ((with_reducible refine gc (f := 143) rfl ?_); refine goesM (some 9) Tryz.func143 #[.slice A0 l0.length c0, .slice Ao9 t170.length co9] ?_; (with_reducible refine (decimal_pieces_times.calls k _ _ l0 _ _ t170 t173 _ ?s1 ?s2 ?s3 ?s4 A4.out).mono ?_); (case s1 => exact cb HR0 HB); (case s2 => exact HC0.out); (case s3 => exact cR HO172); (case s4 => exact (Kd.R_reads' HO172.out).2.1); rintro e w10 ⟨v174, rfl, ho0, hb⟩; refine ⟨_, rfl, ?_⟩; have HO175 := am (Kd.R_lower (Kd.R_new' ho0 (Kd.R_lt (kr HO172))) (below_size (bl HB))); replace HO172 := am (Kd.R_elder' (kr HO172) (Kd.R_base ho0) hb); replace HB := bs HB hb; (try clear hb); (try clear ho0)))
 go_ret
 exact ⟨_, rl, by (with_reducible repeat (first | apply Kd.R_alloc | apply Kd.R_drewN | apply Kd.R_drew)); exact Kd.R_mono HO175.out (fun _ hk => trivial), bl HB⟩
mutual
def decimal_pieces_divide.l0 : Nat → List Int → Int → List Int → List Int → Int → Option (List Int × List Int)
 | 0, _, _, _, _, _ => none
 | k + 1, x0, x6, x7, x8, x9 => if (x7.length : Int) ≤ (x0.length : Int) then (if x7.length < 17592186044416 then (decimal_pieces_divide.l0 k x0 x6 (x7 ++ [0]) x8 x9) else (none)) else (if 0 ≤ (wrap64 ((x7.length : Int) - x9)) then (if (wrap64 ((x7.length : Int) - x9) : Int).toNat ≤ 35184372088832 then (decimal_pieces_divide.l1 k x6 x7 x8 x9 (List.replicate (wrap64 ((x7.length : Int) - x9) : Int).toNat 0) (wrap64 ((wrap64 ((x7.length : Int) - x9)) - 1))) else (none)) else (none))
def decimal_pieces_divide.l1 : Nat → Int → List Int → List Int → Int → List Int → Int → Option (List Int × List Int)
 | 0, _, _, _, _, _, _ => none
 | k + 1, x6, x7, x8, x9, x10, x11 => if x11 ≥ 0 then (if 0 ≤ (wrap64 (x11 + x9)) then (if (wrap64 (x11 + x9)) < (x7.length : Int) then (if 0 ≤ (wrap64 ((wrap64 (x11 + x9)) - 1)) then (if (wrap64 ((wrap64 (x11 + x9)) - 1)) < (x7.length : Int) then (if 0 ≤ (wrap64 (x9 - 1)) then (if (wrap64 (x9 - 1)) < (x8.length : Int) then (if (rd x8 (wrap64 (x9 - 1))) = 0 then (none) else (decimal_pieces_divide.l2 k x6 x7 x8 x9 x10 x11 (IntKind.u64.wrap (Int.tdiv (IntKind.u64.wrap ((IntKind.u64.wrap ((rd x7 (wrap64 (x11 + x9))) * 1000000000)) + (rd x7 (wrap64 ((wrap64 (x11 + x9)) - 1))))) (rd x8 (wrap64 (x9 - 1))))) (Int.tmod (IntKind.u64.wrap ((IntKind.u64.wrap ((rd x7 (wrap64 (x11 + x9))) * 1000000000)) + (rd x7 (wrap64 ((wrap64 (x11 + x9)) - 1))))) (rd x8 (wrap64 (x9 - 1)))))) else (none)) else (none)) else (none)) else (none)) else (none)) else (none)) else ((decimal_pieces_trim.f k x7).bind fun t192 => ((decimal_pieces_small.f k t192 x6).bind fun bt195 => ((decimal_pieces_trim.f k x10).bind fun t199 => (some (t199, bt195.1)))))
def decimal_pieces_divide.j3 : Nat → Int → List Int → List Int → Int → List Int → Int → Int → Option (List Int × List Int)
 | 0, _, _, _, _, _, _, _ => none
 | k + 1, x6, x7, x8, x9, x10, x11, x13 => (decimal_pieces_take.f k x7 x8 x13 x11).bind fun bt210 => (if bt210.1 = true then ((decimal_pieces_back.f k bt210.2 x8 x11).bind fun t212 => (if 0 ≤ x11 then (if x11 < (x10.length : Int) then (decimal_pieces_divide.l1 k x6 t212 x8 x9 (x10.set (x11 : Int).toNat (IntKind.u64.wrap (x13 - 1))) (wrap64 (x11 - 1))) else (none)) else (none))) else (if 0 ≤ x11 then (if x11 < (x10.length : Int) then (decimal_pieces_divide.l1 k x6 bt210.2 x8 x9 (x10.set (x11 : Int).toNat x13) (wrap64 (x11 - 1))) else (none)) else (none)))
def decimal_pieces_divide.l2 : Nat → Int → List Int → List Int → Int → List Int → Int → Int → Int → Option (List Int × List Int)
 | 0, _, _, _, _, _, _, _, _ => none
 | k + 1, x6, x7, x8, x9, x10, x11, x13, x14 => if x13 ≥ 1000000000 then (if 0 ≤ (wrap64 (x9 - 1)) then (if (wrap64 (x9 - 1)) < (x8.length : Int) then (decimal_pieces_divide.l2 k x6 x7 x8 x9 x10 x11 (IntKind.u64.wrap (x13 - 1)) (IntKind.u64.wrap (x14 + (rd x8 (wrap64 (x9 - 1)))))) else (none)) else (none)) else (if x14 < 1000000000 then (if 0 ≤ (wrap64 (x9 - 2)) then (if (wrap64 (x9 - 2)) < (x8.length : Int) then (if 0 ≤ (wrap64 ((wrap64 (x11 + x9)) - 2)) then (if (wrap64 ((wrap64 (x11 + x9)) - 2)) < (x7.length : Int) then (if (IntKind.u64.wrap (x13 * (rd x8 (wrap64 (x9 - 2))))) > (IntKind.u64.wrap ((IntKind.u64.wrap (x14 * 1000000000)) + (rd x7 (wrap64 ((wrap64 (x11 + x9)) - 2))))) then (if 0 ≤ (wrap64 (x9 - 1)) then (if (wrap64 (x9 - 1)) < (x8.length : Int) then (decimal_pieces_divide.l2 k x6 x7 x8 x9 x10 x11 (IntKind.u64.wrap (x13 - 1)) (IntKind.u64.wrap (x14 + (rd x8 (wrap64 (x9 - 1)))))) else (none)) else (none)) else (decimal_pieces_divide.j3 k x6 x7 x8 x9 x10 x11 x13)) else (none)) else (none)) else (none)) else (none)) else (decimal_pieces_divide.j3 k x6 x7 x8 x9 x10 x11 x13))
end
def decimal_pieces_divide.f (k : Nat) (l0 : List Int) (l1 : List Int) : Option (List Int × List Int) := if 0 ≤ (wrap64 ((l1.length : Int) - 1)) then (if (wrap64 ((l1.length : Int) - 1)) < (l1.length : Int) then (if (IntKind.u64.wrap ((rd l1 (wrap64 ((l1.length : Int) - 1))) + 1)) = 0 then (none) else ((decimal_pieces_scaled.f k l0 (IntKind.u64.wrap (Int.tdiv (1000000000 : Int) (IntKind.u64.wrap ((rd l1 (wrap64 ((l1.length : Int) - 1))) + 1))))).bind fun t177 => (if t177.length < 17592186044416 then ((decimal_pieces_scaled.f k l1 (IntKind.u64.wrap (Int.tdiv (1000000000 : Int) (IntKind.u64.wrap ((rd l1 (wrap64 ((l1.length : Int) - 1))) + 1))))).bind fun t183 => (decimal_pieces_divide.l0 k l0 (IntKind.u64.wrap (Int.tdiv (1000000000 : Int) (IntKind.u64.wrap ((rd l1 (wrap64 ((l1.length : Int) - 1))) + 1)))) (t177 ++ [0]) t183 (t183.length : Int))) else (none)))) else (none)) else (none)
theorem decimal_pieces_divide.calls (k : Nat) (A0 : Option Addr) (c0 : Nat) (l0 : List Int) (A1 : Option Addr) (c1 : Nat) (l1 : List Int) (r1 : List Int) (r2 : List Int) (w : World) (hr0 : Kd.C (Kd.int .u64) w A0 l0.length l0) (hc0 : l0.length ≤ c0) (hr1 : Kd.C (Kd.int .u64) w A1 l1.length l1) (hc1 : l1.length ≤ c1) (h : decimal_pieces_divide.f k l0 l1 = some (r1, r2)) :
  Calls Tryz.prog 156 #[.slice A0 l0.length c0, .slice A1 l1.length c1] w fun e w' => ∃ v0_ v1_ : Value, e = .returned (.tuple #[v0_, v1_]) ∧ Kd.R (Kd.int .u64) 112 w' w.heap.size (fun k_ => some k_ ≠ (v1_ : Value).ownBlock) v0_ r1 ∧ Kd.R (Kd.int .u64) 112 w' w.heap.size (fun k_ => some k_ ≠ (v0_ : Value).ownBlock) v1_ r2 ∧ Below w.heap.size w w' := by
 have HR0 := am hr0
 have HC0 := am hc0
 clear hr0 hc0
 have HR1 := am hr1
 have HC1 := am hc1
 clear hr1 hc1
 have HB := am (Below.refl w.heap.size w)
 have H := h
 unfold decimal_pieces_divide.f at H
 clear h
 obtain ⟨ji3, hji3⟩ : ∃ j_ : Int, (wrap64 ((l1.length : Int) - 1)) = j_ := ⟨_, rfl⟩
 first | rw [hji3] at H | simp only [hji3] at H | skip
 have hji3w : (IntKind.i64.wrap ((l1.length : Int) - 1)) = ji3 := (i64_w _).trans hji3
 by_cases c4 : 0 ≤ (ji3)
 case neg => rw [if_neg c4] at H; cases H
 rw [if_pos c4] at H
 have c4b0 := decide_eq_true c4
 clear c4
 by_cases c5 : (ji3) < (l1.length : Int)
 case neg => rw [if_neg c5] at H; cases H
 rw [if_pos c5] at H
 have c5b0 := decide_eq_true c5
 clear c5
 by_cases c6 : (IntKind.u64.wrap ((rd l1 (ji3)) + 1)) = 0
 case pos => rw [if_pos c6] at H; cases H
 rw [if_neg c6] at H
 have c6b0 := beq_eq_false_iff_ne.mpr c6
 have c6b1 := bne_iff_ne.mpr c6
 obtain ⟨t177, A7, H⟩ := bo H
 try dsimp only at H
 by_cases c8 : t177.length < 17592186044416
 case neg => rw [if_neg c8] at H; cases H
 rw [if_pos c8] at H
 have LMc8 := am c8
 clear c8
 obtain ⟨y180, hy180⟩ : ∃ y_ : List Int, y_ = (t177 ++ [0]) := ⟨_, rfl⟩
 first | rw [Option.bind_some, ← hy180] at H | rw [← hy180] at H
 have Ny180 := am hy180
 clear hy180
 obtain ⟨t183, A9, H⟩ := bo H
 try dsimp only at H
 have H' := am H
 clear H
 have p176 : 0 ≤ ((ji3) : Int) := of_decide_eq_true (by first | (with_reducible assumption) | assumption)
 have q176 : (ji3) < (l1.length : Int) := of_decide_eq_true (by first | (with_reducible assumption) | assumption)
 obtain ⟨ad176, e176, hx176_0⟩ := Kd.at_int HR1.out (ji3) p176 q176
 cases e176
 replace p176 := eq_true p176
 replace q176 := eq_true q176
 go_enter Tryz.func156, Tryz.ntmps156
 go_wp2_with (first | (go_at_call 180; (with_reducible refine (decimal_pieces_scaled.calls k _ _ l0 (IntKind.u64.wrap (Int.tdiv (1000000000 : Int) (IntKind.u64.wrap ((rd l1 (ji3)) + 1)))) t177 _ ?s1 ?s2 A7.out).mono ?_); (case s1 => exact cr HR0); (case s2 => exact HC0.out); rintro e w10 ⟨v178, rfl, ho0, hb⟩; have HO179 := am (Kd.R_lower ho0 (below_size (bl HB))); replace HB := bs HB hb; (try clear hb); (try clear ho0)) | ((with_reducible refine gate_builtin (b := .append) (xs := #[.tmp 27, .tmp 28]) rfl ?_); at_builtin; refine Kd.R_append (Kd.int .u64) (w0 := w) w.heap.size rfl (.tmp 27) (.tmp 28) 178 112 (.int .u64 0) 8 rfl Tryz.underlying178 info112 rfl (by decide) (by omega) v178 t177 0 [.int .u64 0] (fun _ => True) (fun _ => False) rfl rfl ?aP (fun _ hk => hk.elim) ?aF ?aO ?aB ?aS ?aL ?_; (case aP => exact rfl); (case aB => exact (bl HB)); (case aF => exact (fun _ _ => trivial)); (case aO => exact (kr HO179)); (case aS => exact (below_size (bl HB))); (case aL => have := LMc8.out; omega); intro v181 w11 ho hb hg hat; rw [← Ny180.out] at ho; have n0_ := am (hb); have n1_ := am (ho); clear HB; clear HO179; have HB := n0_; have HO182 := n1_; clear n0_ n1_; clear ho hb hg hat) | (go_at_call 180; (with_reducible refine (decimal_pieces_scaled.calls k _ _ l1 (IntKind.u64.wrap (Int.tdiv (1000000000 : Int) (IntKind.u64.wrap ((rd l1 (ji3)) + 1)))) t183 _ ?s1 ?s2 A9.out).mono ?_); (case s1 => exact cb HR1 HB); (case s2 => exact HC1.out); rintro e w12 ⟨v184, rfl, ho0, hb⟩; have HO185 := am (Kd.R_lower (Kd.R_new' ho0 (Kd.R_lt (kr HO182))) (below_size (bl HB))); replace HO182 := am (Kd.R_elder' (kr HO182) (Kd.R_base ho0) hb); replace HB := bs HB hb; (try clear hb); (try clear ho0); obtain ⟨Ao13, co13, eo13⟩ := Kd.R_slice HO185.out; subst eo13))
 repeat (go_quiet (first | (go_at_call 180; (with_reducible refine (decimal_pieces_scaled.calls k _ _ l0 (IntKind.u64.wrap (Int.tdiv (1000000000 : Int) (IntKind.u64.wrap ((rd l1 (ji3)) + 1)))) t177 _ ?s1 ?s2 A7.out).mono ?_); (case s1 => exact cr HR0); (case s2 => exact HC0.out); rintro e w10 ⟨v178, rfl, ho0, hb⟩; have HO179 := am (Kd.R_lower ho0 (below_size (bl HB))); replace HB := bs HB hb; (try clear hb); (try clear ho0)) | ((with_reducible refine gate_builtin (b := .append) (xs := #[.tmp 27, .tmp 28]) rfl ?_); at_builtin; refine Kd.R_append (Kd.int .u64) (w0 := w) w.heap.size rfl (.tmp 27) (.tmp 28) 178 112 (.int .u64 0) 8 rfl Tryz.underlying178 info112 rfl (by decide) (by omega) v178 t177 0 [.int .u64 0] (fun _ => True) (fun _ => False) rfl rfl ?aP (fun _ hk => hk.elim) ?aF ?aO ?aB ?aS ?aL ?_; (case aP => exact rfl); (case aB => exact (bl HB)); (case aF => exact (fun _ _ => trivial)); (case aO => exact (kr HO179)); (case aS => exact (below_size (bl HB))); (case aL => have := LMc8.out; omega); intro v181 w11 ho hb hg hat; rw [← Ny180.out] at ho; have n0_ := am (hb); have n1_ := am (ho); clear HB; clear HO179; have HB := n0_; have HO182 := n1_; clear n0_ n1_; clear ho hb hg hat) | (go_at_call 180; (with_reducible refine (decimal_pieces_scaled.calls k _ _ l1 (IntKind.u64.wrap (Int.tdiv (1000000000 : Int) (IntKind.u64.wrap ((rd l1 (ji3)) + 1)))) t183 _ ?s1 ?s2 A9.out).mono ?_); (case s1 => exact cb HR1 HB); (case s2 => exact HC1.out); rintro e w12 ⟨v184, rfl, ho0, hb⟩; have HO185 := am (Kd.R_lower (Kd.R_new' ho0 (Kd.R_lt (kr HO182))) (below_size (bl HB))); replace HO182 := am (Kd.R_elder' (kr HO182) (Kd.R_base ho0) hb); replace HB := bs HB hb; (try clear hb); (try clear ho0); obtain ⟨Ao13, co13, eo13⟩ := Kd.R_slice HO185.out; subst eo13)); try go_wp2_with (first | (go_at_call 180; (with_reducible refine (decimal_pieces_scaled.calls k _ _ l0 (IntKind.u64.wrap (Int.tdiv (1000000000 : Int) (IntKind.u64.wrap ((rd l1 (ji3)) + 1)))) t177 _ ?s1 ?s2 A7.out).mono ?_); (case s1 => exact cr HR0); (case s2 => exact HC0.out); rintro e w10 ⟨v178, rfl, ho0, hb⟩; have HO179 := am (Kd.R_lower ho0 (below_size (bl HB))); replace HB := bs HB hb; (try clear hb); (try clear ho0)) | ((with_reducible refine gate_builtin (b := .append) (xs := #[.tmp 27, .tmp 28]) rfl ?_); at_builtin; refine Kd.R_append (Kd.int .u64) (w0 := w) w.heap.size rfl (.tmp 27) (.tmp 28) 178 112 (.int .u64 0) 8 rfl Tryz.underlying178 info112 rfl (by decide) (by omega) v178 t177 0 [.int .u64 0] (fun _ => True) (fun _ => False) rfl rfl ?aP (fun _ hk => hk.elim) ?aF ?aO ?aB ?aS ?aL ?_; (case aP => exact rfl); (case aB => exact (bl HB)); (case aF => exact (fun _ _ => trivial)); (case aO => exact (kr HO179)); (case aS => exact (below_size (bl HB))); (case aL => have := LMc8.out; omega); intro v181 w11 ho hb hg hat; rw [← Ny180.out] at ho; have n0_ := am (hb); have n1_ := am (ho); clear HB; clear HO179; have HB := n0_; have HO182 := n1_; clear n0_ n1_; clear ho hb hg hat) | (go_at_call 180; (with_reducible refine (decimal_pieces_scaled.calls k _ _ l1 (IntKind.u64.wrap (Int.tdiv (1000000000 : Int) (IntKind.u64.wrap ((rd l1 (ji3)) + 1)))) t183 _ ?s1 ?s2 A9.out).mono ?_); (case s1 => exact cb HR1 HB); (case s2 => exact HC1.out); rintro e w12 ⟨v184, rfl, ho0, hb⟩; have HO185 := am (Kd.R_lower (Kd.R_new' ho0 (Kd.R_lt (kr HO182))) (below_size (bl HB))); replace HO182 := am (Kd.R_elder' (kr HO182) (Kd.R_base ho0) hb); replace HB := bs HB hb; (try clear hb); (try clear ho0); obtain ⟨Ao13, co13, eo13⟩ := Kd.R_slice HO185.out; subst eo13)))
 go_loopg [7] k (fun kq v7 w' => ∃ (x7_1 : List Int), Aside0 (decimal_pieces_divide.l0 kq l0 (IntKind.u64.wrap (Int.tdiv (1000000000 : Int) (IntKind.u64.wrap ((rd l1 (ji3)) + 1)))) x7_1 t183 (t183.length : Int) = some (r1, r2)) ∧ Aside0 (kq ≤ k) ∧ Aside0 (Kd.R (Kd.int .u64) 112 w' w.heap.size (fun k_ => some k_ ≠ ((.slice Ao13 t183.length co13) : Value).ownBlock) v7 x7_1) ∧ Aside0 (Kd.R (Kd.int .u64) 112 w' w.heap.size (fun k_ => some k_ ≠ (v7 : Value).ownBlock) (.slice Ao13 t183.length co13) t183) ∧ Aside0 (Below w.heap.size w w'))
 case atStart => exact ⟨(y180), H', ⟨Nat.le_refl _⟩, ⟨by (with_reducible repeat (first | apply Kd.R_alloc | apply Kd.R_drewN | apply Kd.R_drew)); exact Kd.R_mono HO182.out (fun _ hk => hk.2)⟩, ⟨by (with_reducible repeat (first | apply Kd.R_alloc | apply Kd.R_drewN | apply Kd.R_drew)); exact Kd.R_mono HO185.out (fun _ hk => hk.2)⟩, ⟨bl HB⟩⟩
 case round =>
  clear H'
  (try clear hji3w); (try clear hji3)
  try clear c1
  try clear p1
  try clear q1
  try clear hx1
  try clear p2
  try clear c4
  try clear c4b0
  try clear c5
  try clear c5b0
  try clear c6
  try clear c6b0
  try clear c6b1
  try clear p6
  try clear c8
  try clear hx176_0
  try clear p176
  try clear q176
  obtain ⟨x7_1, HA, HK1, HO_7, HO_8, HB⟩ := hrel
  cases gk with
  | zero => exact absurd HA.out (by simp [decimal_pieces_divide.l0])
  | succ k1 =>
   have H := HA.out
   clear HA
   simp only [decimal_pieces_divide.l0] at H
   by_cases c14 : (x7_1.length : Int) ≤ (l0.length : Int)
   ·rw [if_pos c14] at H
    have c14b0 := decide_eq_true c14
    have c14b1 : decide (x7_1.length ≤ l0.length) = true := decide_eq_true (Int.ofNat_le.mp c14)
    clear c14
    by_cases c15 : x7_1.length < 17592186044416
    case neg => rw [if_neg c15] at H; cases H
    rw [if_pos c15] at H
    have LMc15 := am c15
    clear c15
    obtain ⟨y186, hy186⟩ : ∃ y_ : List Int, y_ = (x7_1 ++ [0]) := ⟨_, rfl⟩
    first | rw [Option.bind_some, ← hy186] at H | rw [← hy186] at H
    have Ny186 := am hy186
    clear hy186
    have H' := am H
    clear H
    obtain ⟨Ao16, co16, eo16⟩ := Kd.R_slice HO_7.out
    subst eo16
    go_wp2_with (first | ((with_reducible refine gate_builtin (b := .append) (xs := #[.tmp 40, .tmp 41]) rfl ?_); at_builtin; refine Kd.R_append (Kd.int .u64) (w0 := w) w.heap.size rfl (.tmp 40) (.tmp 41) 178 112 (.int .u64 0) 8 rfl Tryz.underlying178 info112 rfl (by decide) (by omega) (.slice Ao16 x7_1.length co16) x7_1 0 [.int .u64 0] (fun k_ => some k_ ≠ (.slice Ao13 t183.length co13 : Value).ownBlock) (fun _ => False) rfl rfl ?aP (fun _ hk => hk.elim) ?aF ?aO ?aB ?aS ?aL ?_; (case aP => exact rfl); (case aB => exact (bl HB)); (case aF => exact (fun k_ hk => Kd.fresh' (Kd.R_lt (kr HO_8)) k_ hk)); (case aO => exact (kr HO_7)); (case aS => exact (below_size (bl HB))); (case aL => have := LMc15.out; omega); intro v187 w17 ho hb hg hat; rw [← Ny186.out] at ho; have n0_ := am (Kd.R_after (ok := (fun _ => True)) (by (with_reducible repeat (first | apply Kd.R_alloc | apply Kd.R_drewN | apply Kd.R_drew)); exact Kd.R_mono HO_8.out (fun _ hk => ⟨trivial, hk⟩)) hg hat); have n1_ := am (hb); have n2_ := am (ho); clear HO_8; clear HB; clear HO_7; have HO_8 := n0_; have HB := n1_; have HO188 := n2_; clear n0_ n1_ n2_; clear ho hb hg hat))
    repeat (go_quiet (first | ((with_reducible refine gate_builtin (b := .append) (xs := #[.tmp 40, .tmp 41]) rfl ?_); at_builtin; refine Kd.R_append (Kd.int .u64) (w0 := w) w.heap.size rfl (.tmp 40) (.tmp 41) 178 112 (.int .u64 0) 8 rfl Tryz.underlying178 info112 rfl (by decide) (by omega) (.slice Ao16 x7_1.length co16) x7_1 0 [.int .u64 0] (fun k_ => some k_ ≠ (.slice Ao13 t183.length co13 : Value).ownBlock) (fun _ => False) rfl rfl ?aP (fun _ hk => hk.elim) ?aF ?aO ?aB ?aS ?aL ?_; (case aP => exact rfl); (case aB => exact (bl HB)); (case aF => exact (fun k_ hk => Kd.fresh' (Kd.R_lt (kr HO_8)) k_ hk)); (case aO => exact (kr HO_7)); (case aS => exact (below_size (bl HB))); (case aL => have := LMc15.out; omega); intro v187 w17 ho hb hg hat; rw [← Ny186.out] at ho; have n0_ := am (Kd.R_after (ok := (fun _ => True)) (by (with_reducible repeat (first | apply Kd.R_alloc | apply Kd.R_drewN | apply Kd.R_drew)); exact Kd.R_mono HO_8.out (fun _ hk => ⟨trivial, hk⟩)) hg hat); have n1_ := am (hb); have n2_ := am (ho); clear HO_8; clear HB; clear HO_7; have HO_8 := n0_; have HB := n1_; have HO188 := n2_; clear n0_ n1_ n2_; clear ho hb hg hat)); try go_wp2_with (first | ((with_reducible refine gate_builtin (b := .append) (xs := #[.tmp 40, .tmp 41]) rfl ?_); at_builtin; refine Kd.R_append (Kd.int .u64) (w0 := w) w.heap.size rfl (.tmp 40) (.tmp 41) 178 112 (.int .u64 0) 8 rfl Tryz.underlying178 info112 rfl (by decide) (by omega) (.slice Ao16 x7_1.length co16) x7_1 0 [.int .u64 0] (fun k_ => some k_ ≠ (.slice Ao13 t183.length co13 : Value).ownBlock) (fun _ => False) rfl rfl ?aP (fun _ hk => hk.elim) ?aF ?aO ?aB ?aS ?aL ?_; (case aP => exact rfl); (case aB => exact (bl HB)); (case aF => exact (fun k_ hk => Kd.fresh' (Kd.R_lt (kr HO_8)) k_ hk)); (case aO => exact (kr HO_7)); (case aS => exact (below_size (bl HB))); (case aL => have := LMc15.out; omega); intro v187 w17 ho hb hg hat; rw [← Ny186.out] at ho; have n0_ := am (Kd.R_after (ok := (fun _ => True)) (by (with_reducible repeat (first | apply Kd.R_alloc | apply Kd.R_drewN | apply Kd.R_drew)); exact Kd.R_mono HO_8.out (fun _ hk => ⟨trivial, hk⟩)) hg hat); have n1_ := am (hb); have n2_ := am (ho); clear HO_8; clear HB; clear HO_7; have HO_8 := n0_; have HB := n1_; have HO188 := n2_; clear n0_ n1_ n2_; clear ho hb hg hat)))
    go_roundg k1
    case measure => have := HK1.out; omega
    case rel => exact ⟨(y186), H', ⟨by have := HK1.out; omega⟩, ⟨kr HO188⟩, ⟨by (with_reducible repeat (first | apply Kd.R_alloc | apply Kd.R_drewN | apply Kd.R_drew)); exact Kd.R_mono HO_8.out (fun _ hk => hk.2)⟩, ⟨bl HB⟩⟩
   ·rw [if_neg c14] at H
    have c14b0 := decide_eq_false c14
    have c14b1 : decide (x7_1.length ≤ l0.length) = false := decide_eq_false (fun h => c14 (Int.ofNat_le.mpr h))
    clear c14
    obtain ⟨ji18, hji18⟩ : ∃ j_ : Int, (wrap64 ((x7_1.length : Int) - (t183.length : Int))) = j_ := ⟨_, rfl⟩
    first | rw [hji18] at H | simp only [hji18] at H | skip
    have hji18w : (IntKind.i64.wrap ((x7_1.length : Int) - (t183.length : Int))) = ji18 := (i64_w _).trans hji18
    by_cases c19 : 0 ≤ (ji18)
    case neg => rw [if_neg c19] at H; cases H
    rw [if_pos c19] at H
    have c19b0 := eq_true c19
    have c19b1 := decide_eq_true c19
    clear c19
    by_cases c20 : (ji18 : Int).toNat ≤ 35184372088832
    case neg => rw [if_neg c20] at H; cases H
    rw [if_pos c20] at H
    have c20b0 := eq_true c20
    have c20b1 := decide_eq_true c20
    clear c20
    obtain ⟨y189, hy189⟩ : ∃ y_ : List Int, y_ = (List.replicate (ji18 : Int).toNat 0) := ⟨_, rfl⟩
    first | rw [Option.bind_some, ← hy189] at H | rw [← hy189] at H
    have Ny189 := am hy189
    clear hy189
    have H' := am H
    clear H
    obtain ⟨Ao21, co21, eo21⟩ := Kd.R_slice HO_7.out
    subst eo21
    go_wp2_with (first | ((with_reducible refine gd (N := 47) rfl ?_); refine Kd.R_make (Kd.int .u64) _ 112 rfl (N := 47) rfl 178 _ _ rfl ji18 rfl rfl Tryz.underlying178 (.int .u64 0) 8 info112 rfl (by decide) (by omega) 0 (ok := fun _ => True) (okp := fun _ => True) rfl (fun _ hk => hk) trivial (of_decide_eq_true (by first | (with_reducible assumption) | assumption)) (Nat.le_trans (Nat.mul_le_mul_right _ (of_decide_eq_true (by first | (with_reducible assumption) | assumption) : ji18.toNat ≤ 35184372088832)) (by omega)) (Below.refl _ _) (Nat.le_refl _) ?_; intro v190 w22 ho23 hb hg_ hnew_; clear hg_ hnew_; (first | rw [← Ny189.out] at ho23 | (simp only [Int.reduceToNat] at ho23; rw [← Ny189.out] at ho23)); have HO191 := am (Kd.R_lower (Kd.R_new' (Kd.R_new' ho23 (Kd.R_lt (kr HO_7))) (Kd.R_lt (kr HO_8))) (below_size (bl HB))); replace HO_7 := am (Kd.R_elder' (kr HO_7) (Kd.R_base ho23) hb); replace HO_8 := am (Kd.R_elder' (kr HO_8) (Kd.R_base ho23) hb); replace HB := bs HB hb; clear hb ho23))
    repeat (go_quiet (first | ((with_reducible refine gd (N := 47) rfl ?_); refine Kd.R_make (Kd.int .u64) _ 112 rfl (N := 47) rfl 178 _ _ rfl ji18 rfl rfl Tryz.underlying178 (.int .u64 0) 8 info112 rfl (by decide) (by omega) 0 (ok := fun _ => True) (okp := fun _ => True) rfl (fun _ hk => hk) trivial (of_decide_eq_true (by first | (with_reducible assumption) | assumption)) (Nat.le_trans (Nat.mul_le_mul_right _ (of_decide_eq_true (by first | (with_reducible assumption) | assumption) : ji18.toNat ≤ 35184372088832)) (by omega)) (Below.refl _ _) (Nat.le_refl _) ?_; intro v190 w22 ho23 hb hg_ hnew_; clear hg_ hnew_; (first | rw [← Ny189.out] at ho23 | (simp only [Int.reduceToNat] at ho23; rw [← Ny189.out] at ho23)); have HO191 := am (Kd.R_lower (Kd.R_new' (Kd.R_new' ho23 (Kd.R_lt (kr HO_7))) (Kd.R_lt (kr HO_8))) (below_size (bl HB))); replace HO_7 := am (Kd.R_elder' (kr HO_7) (Kd.R_base ho23) hb); replace HO_8 := am (Kd.R_elder' (kr HO_8) (Kd.R_base ho23) hb); replace HB := bs HB hb; clear hb ho23)); try go_wp2_with (first | ((with_reducible refine gd (N := 47) rfl ?_); refine Kd.R_make (Kd.int .u64) _ 112 rfl (N := 47) rfl 178 _ _ rfl ji18 rfl rfl Tryz.underlying178 (.int .u64 0) 8 info112 rfl (by decide) (by omega) 0 (ok := fun _ => True) (okp := fun _ => True) rfl (fun _ hk => hk) trivial (of_decide_eq_true (by first | (with_reducible assumption) | assumption)) (Nat.le_trans (Nat.mul_le_mul_right _ (of_decide_eq_true (by first | (with_reducible assumption) | assumption) : ji18.toNat ≤ 35184372088832)) (by omega)) (Below.refl _ _) (Nat.le_refl _) ?_; intro v190 w22 ho23 hb hg_ hnew_; clear hg_ hnew_; (first | rw [← Ny189.out] at ho23 | (simp only [Int.reduceToNat] at ho23; rw [← Ny189.out] at ho23)); have HO191 := am (Kd.R_lower (Kd.R_new' (Kd.R_new' ho23 (Kd.R_lt (kr HO_7))) (Kd.R_lt (kr HO_8))) (below_size (bl HB))); replace HO_7 := am (Kd.R_elder' (kr HO_7) (Kd.R_base ho23) hb); replace HO_8 := am (Kd.R_elder' (kr HO_8) (Kd.R_base ho23) hb); replace HB := bs HB hb; clear hb ho23)))
    go_loopg [11] k1 (fun kq v11 w' => ∃ (x7_2 : List Int) (x10_2 : List Int) (x11_2 : Int), v11 = .int .i64 x11_2 ∧ Aside0 (decimal_pieces_divide.l1 kq (IntKind.u64.wrap (Int.tdiv (1000000000 : Int) (IntKind.u64.wrap ((rd l1 (ji3)) + 1)))) x7_2 t183 (t183.length : Int) x10_2 x11_2 = some (r1, r2)) ∧ Aside0 (kq ≤ k1) ∧ Aside0 (Kd.R (Kd.int .u64) 112 w' w.heap.size (fun k_ => some k_ ≠ ((.slice Ao13 t183.length co13) : Value).ownBlock ∧ some k_ ≠ (v190 : Value).ownBlock) (.slice Ao21 x7_1.length co21) x7_2) ∧ Aside0 (Kd.R (Kd.int .u64) 112 w' w.heap.size (fun k_ => some k_ ≠ ((.slice Ao21 x7_1.length co21) : Value).ownBlock ∧ some k_ ≠ (v190 : Value).ownBlock) (.slice Ao13 t183.length co13) t183) ∧ Aside0 (Kd.R (Kd.int .u64) 112 w' w.heap.size (fun k_ => some k_ ≠ ((.slice Ao21 x7_1.length co21) : Value).ownBlock ∧ some k_ ≠ ((.slice Ao13 t183.length co13) : Value).ownBlock) v190 x10_2) ∧ Aside0 (Below w.heap.size w w'))
    case atStart => exact ⟨(x7_1), (y189), (wrap64 ((ji18) - 1)), (by first | rfl | (simp; done) | (simp only [← hji18] <;> (first | rfl | simp)) | (simp [*]; done)), H', ⟨Nat.le_refl _⟩, ⟨kr HO_7⟩, ⟨kr HO_8⟩, ⟨by (with_reducible repeat (first | apply Kd.R_alloc | apply Kd.R_drewN | apply Kd.R_drew)); exact Kd.R_mono HO191.out (fun _ hk => ⟨hk.1.2, hk.2⟩)⟩, ⟨bl HB⟩⟩
    case round =>
     clear H'
     (try clear hji18w); (try clear hji18); (try clear hji3w); (try clear hji3)
     try clear c1
     try clear p1
     try clear q1
     try clear hx1
     try clear c2
     try clear p2
     try clear c4
     try clear c4b0
     try clear c5
     try clear c5b0
     try clear c6
     try clear c6b0
     try clear c6b1
     try clear p6
     try clear c8
     try clear c14
     try clear c14b0
     try clear c14b1
     try clear c15
     try clear p17
     try clear q17
     try clear hx17
     try clear c19
     try clear c19b0
     try clear c19b1
     try clear c20
     try clear c20b0
     try clear c20b1
     try clear hx176_0
     try clear p1
     try clear p176
     try clear p2
     try clear p6
     try clear q1
     try clear q176
     obtain ⟨x7_2, x10_2, x11_2, rfl, HA, HK2, HO_7, HO_8, HO_10, HB⟩ := hrel
     have hl7_2 := (Kd.R_reads' HO_7.out).1
     rw [hl7_2] at HO_7
     (try simp only [hl7_2])
     (try simp only [hl7_2] at HO_8)
     (try simp only [hl7_2] at HO_10)
     cases gk with
     | zero => exact absurd HA.out (by simp [decimal_pieces_divide.l1])
     | succ k2 =>
      have H := HA.out
      clear HA
      simp only [decimal_pieces_divide.l1] at H
      by_cases c24 : x11_2 ≥ 0
      ·rw [if_pos c24] at H
       have c24b0 : decide (0 ≤ x11_2) = true := decide_eq_true c24
       clear c24
       obtain ⟨ji25, hji25⟩ : ∃ j_ : Int, (wrap64 (x11_2 + (t183.length : Int))) = j_ := ⟨_, rfl⟩
       first | rw [hji25] at H | simp only [hji25] at H | skip
       have hji25w : (IntKind.i64.wrap (x11_2 + (t183.length : Int))) = ji25 := (i64_w _).trans hji25
       by_cases c26 : 0 ≤ (ji25)
       case neg => rw [if_neg c26] at H; cases H
       rw [if_pos c26] at H
       have c26b0 := decide_eq_true c26
       clear c26
       by_cases c27 : (ji25) < (x7_2.length : Int)
       case neg => rw [if_neg c27] at H; cases H
       rw [if_pos c27] at H
       have c27b0 := decide_eq_true c27
       (try (have c27h := c27b0; rw [hl7_2] at c27h))
       clear c27
       obtain ⟨ji28, hji28⟩ : ∃ j_ : Int, (wrap64 ((ji25) - 1)) = j_ := ⟨_, rfl⟩
       first | rw [hji28] at H | simp only [hji28] at H | skip
       have hji28w : (IntKind.i64.wrap ((ji25) - 1)) = ji28 := (i64_w _).trans hji28
       by_cases c29 : 0 ≤ (ji28)
       case neg => rw [if_neg c29] at H; cases H
       rw [if_pos c29] at H
       have c29b0 := decide_eq_true c29
       clear c29
       by_cases c30 : (ji28) < (x7_2.length : Int)
       case neg => rw [if_neg c30] at H; cases H
       rw [if_pos c30] at H
       have c30b0 := decide_eq_true c30
       (try (have c30h := c30b0; rw [hl7_2] at c30h))
       clear c30
       obtain ⟨ji31, hji31⟩ : ∃ j_ : Int, (wrap64 ((t183.length : Int) - 1)) = j_ := ⟨_, rfl⟩
       first | rw [hji31] at H | simp only [hji31] at H | skip
       have hji31w : (IntKind.i64.wrap ((t183.length : Int) - 1)) = ji31 := (i64_w _).trans hji31
       by_cases c32 : 0 ≤ (ji31)
       case neg => rw [if_neg c32] at H; cases H
       rw [if_pos c32] at H
       have c32b0 := decide_eq_true c32
       clear c32
       by_cases c33 : (ji31) < (t183.length : Int)
       case neg => rw [if_neg c33] at H; cases H
       rw [if_pos c33] at H
       have c33b0 := decide_eq_true c33
       (try (have c33h := c33b0; rw [hl7_2] at c33h))
       clear c33
       by_cases c34 : (rd t183 (ji31)) = 0
       case pos => rw [if_pos c34] at H; cases H
       rw [if_neg c34] at H
       have c34b0 := beq_eq_false_iff_ne.mpr c34
       have c34b1 := bne_iff_ne.mpr c34
       have HC35 := am H
       clear H
       have p202 : 0 ≤ ((ji25) : Int) := of_decide_eq_true (by first | (with_reducible assumption) | assumption)
       have q202 : (ji25) < (x7_2.length : Int) := of_decide_eq_true (by first | (with_reducible assumption) | assumption)
       obtain ⟨ad202, e202, hx202_0⟩ := Kd.at_int (Kd.R_reads' HO_7.out).2.2 (ji25) p202 q202
       cases e202
       replace p202 := eq_true p202
       replace q202 := eq_true q202
       have p203 : 0 ≤ ((ji28) : Int) := of_decide_eq_true (by first | (with_reducible assumption) | assumption)
       have q203 : (ji28) < (x7_2.length : Int) := of_decide_eq_true (by first | (with_reducible assumption) | assumption)
       obtain ⟨ad203, e203, hx203_0⟩ := Kd.at_int (Kd.R_reads' HO_7.out).2.2 (ji28) p203 q203
       obtain rfl : ad202 = ad203 := (by injection e203)
       replace p203 := eq_true p203
       replace q203 := eq_true q203
       have p204 : 0 ≤ ((ji31) : Int) := of_decide_eq_true (by first | (with_reducible assumption) | assumption)
       have q204 : (ji31) < (t183.length : Int) := of_decide_eq_true (by first | (with_reducible assumption) | assumption)
       obtain ⟨ad204, e204, hx204_0⟩ := Kd.at_int (Kd.R_reads' HO_8.out).2.2 (ji31) p204 q204
       cases e204
       replace p204 := eq_true p204
       replace q204 := eq_true q204
       have p205 : 0 ≤ ((ji31) : Int) := of_decide_eq_true (by first | (with_reducible assumption) | assumption)
       have q205 : (ji31) < (t183.length : Int) := of_decide_eq_true (by first | (with_reducible assumption) | assumption)
       obtain ⟨ad205, e205, hx205_0⟩ := Kd.at_int (Kd.R_reads' HO_8.out).2.2 (ji31) p205 q205
       obtain rfl : ad204 = ad205 := (by injection e205)
       replace p205 := eq_true p205
       replace q205 := eq_true q205
       go_upto_block 4 with (fail)
       repeat (go_quiet (fail); go_upto_block 4 with (fail))
       go_cut [13] (fun v13 wc => ∃ (kq : Nat) (x13_34 : Int), v13 = .int .u64 x13_34 ∧ Aside0 (decimal_pieces_divide.j3 kq (IntKind.u64.wrap (Int.tdiv (1000000000 : Int) (IntKind.u64.wrap ((rd l1 (ji3)) + 1)))) x7_2 t183 (t183.length : Int) x10_2 x11_2 x13_34 = some (r1, r2)) ∧ Aside0 (kq ≤ k2) ∧ Aside0 (Kd.R (Kd.int .u64) 112 wc w.heap.size (fun k_ => some k_ ≠ ((.slice (some ad204) t183.length co13) : Value).ownBlock ∧ some k_ ≠ (v190 : Value).ownBlock) (.slice (some ad202) x7_2.length co21) x7_2) ∧ Aside0 (Kd.R (Kd.int .u64) 112 wc w.heap.size (fun k_ => some k_ ≠ ((.slice (some ad202) x7_2.length co21) : Value).ownBlock ∧ some k_ ≠ (v190 : Value).ownBlock) (.slice (some ad204) t183.length co13) t183) ∧ Aside0 (Kd.R (Kd.int .u64) 112 wc w.heap.size (fun k_ => some k_ ≠ ((.slice (some ad202) x7_2.length co21) : Value).ownBlock ∧ some k_ ≠ ((.slice (some ad204) t183.length co13) : Value).ownBlock) v190 x10_2) ∧ Aside0 (Below w.heap.size w wc))
       case first =>
        have H := HC35.out
        clear HC35
        have H' := am H
        clear H
        go_wp2
        repeat (go_quiet (fail); try go_wp2)
        go_loopg [13, 14] k2 (fun kq v13 v14 w' => ∃ (x13_3 : Int) (x14_3 : Int), v13 = .int .u64 x13_3 ∧ v14 = .int .u64 x14_3 ∧ Aside0 (decimal_pieces_divide.l2 kq (IntKind.u64.wrap (Int.tdiv (1000000000 : Int) (IntKind.u64.wrap ((rd l1 (ji3)) + 1)))) x7_2 t183 (t183.length : Int) x10_2 x11_2 x13_3 x14_3 = some (r1, r2)) ∧ Aside0 (kq ≤ k2) ∧ Aside0 (Kd.R (Kd.int .u64) 112 w' w.heap.size (fun k_ => some k_ ≠ ((.slice (some ad204) t183.length co13) : Value).ownBlock ∧ some k_ ≠ (v190 : Value).ownBlock) (.slice (some ad202) x7_2.length co21) x7_2) ∧ Aside0 (Kd.R (Kd.int .u64) 112 w' w.heap.size (fun k_ => some k_ ≠ ((.slice (some ad202) x7_2.length co21) : Value).ownBlock ∧ some k_ ≠ (v190 : Value).ownBlock) (.slice (some ad204) t183.length co13) t183) ∧ Aside0 (Kd.R (Kd.int .u64) 112 w' w.heap.size (fun k_ => some k_ ≠ ((.slice (some ad202) x7_2.length co21) : Value).ownBlock ∧ some k_ ≠ ((.slice (some ad204) t183.length co13) : Value).ownBlock) v190 x10_2) ∧ Aside0 (Below w.heap.size w w'))
        case atStart => exact ⟨(IntKind.u64.wrap (Int.tdiv (IntKind.u64.wrap ((IntKind.u64.wrap ((rd x7_2 (ji25)) * 1000000000)) + (rd x7_2 (ji28)))) (rd t183 (ji31)))), (Int.tmod (IntKind.u64.wrap ((IntKind.u64.wrap ((rd x7_2 (ji25)) * 1000000000)) + (rd x7_2 (ji28)))) (rd t183 (ji31))), (by first | rfl | (simp; done) | (simp only [← hji25, ← hji28, ← hji31] <;> (first | rfl | simp)) | (simp [*]; done)), (by first | rfl | (simp; done) | (simp only [← hji25, ← hji28, ← hji31] <;> (first | rfl | simp)) | (simp [*]; done)), H', ⟨Nat.le_refl _⟩, ⟨by (try simp only [hl7_2]); (with_reducible repeat (first | apply Kd.R_alloc | apply Kd.R_drewN | apply Kd.R_drew)); exact HO_7.out⟩, ⟨by (try simp only [hl7_2]); (with_reducible repeat (first | apply Kd.R_alloc | apply Kd.R_drewN | apply Kd.R_drew)); exact HO_8.out⟩, ⟨by (try simp only [hl7_2]); (with_reducible repeat (first | apply Kd.R_alloc | apply Kd.R_drewN | apply Kd.R_drew)); exact HO_10.out⟩, ⟨bl HB⟩⟩
        case round =>
         clear H'
         (try clear hji18w); (try clear hji18); (try clear hji25w); (try clear hji25); (try clear hji28w); (try clear hji28); (try clear hji3w); (try clear hji3); (try clear hji31w); (try clear hji31)
         try clear c1
         try clear p1
         try clear q1
         try clear hx1
         try clear c2
         try clear p2
         try clear q2
         try clear hx2
         try clear c3
         try clear c4
         try clear c4b0
         try clear c5
         try clear c5b0
         try clear c6
         try clear c6b0
         try clear c6b1
         try clear p6
         try clear c8
         try clear c14
         try clear c14b0
         try clear c14b1
         try clear c15
         try clear p17
         try clear q17
         try clear hx17
         try clear c19
         try clear c19b0
         try clear c19b1
         try clear c20
         try clear c20b0
         try clear c20b1
         try clear p20
         try clear q20
         try clear hx20
         try clear c24
         try clear c24b0
         try clear c26
         try clear c26b0
         try clear c27
         try clear c27b0
         try clear c29
         try clear c29b0
         try clear c30
         try clear c30b0
         try clear c32
         try clear c32b0
         try clear c33
         try clear c33b0
         try clear c34
         try clear c34b0
         try clear c34b1
         try clear hx176_0
         try clear hx202_0
         try clear hx203_0
         try clear hx204_0
         try clear hx205_0
         try clear p1
         try clear p17
         try clear p176
         try clear p2
         try clear p202
         try clear p203
         try clear p204
         try clear p205
         try clear p6
         try clear q1
         try clear q17
         try clear q176
         try clear q202
         try clear q203
         try clear q204
         try clear q205
         obtain ⟨x13_3, x14_3, rfl, rfl, HA, HK3, HO_7, HO_8, HO_10, HB⟩ := hrel
         cases gk with
         | zero => exact absurd HA.out (by simp [decimal_pieces_divide.l2])
         | succ k3 =>
          have H := HA.out
          clear HA
          simp only [decimal_pieces_divide.l2] at H
          by_cases c36 : x13_3 ≥ 1000000000
          ·rw [if_pos c36] at H
           have c36b0 : decide (1000000000 ≤ x13_3) = true := decide_eq_true c36
           clear c36
           (first | rw [c36b0] | (simp only [i64_w, i32_w]; rw [c36b0]) | skip)
           (try clear hji31w); (try clear hji31)
           obtain ⟨ji37, hji37⟩ : ∃ j_ : Int, (wrap64 ((t183.length : Int) - 1)) = j_ := ⟨_, rfl⟩
           first | rw [hji37] at H | simp only [hji37] at H | skip
           have hji37w : (IntKind.i64.wrap ((t183.length : Int) - 1)) = ji37 := (i64_w _).trans hji37
           by_cases c38 : 0 ≤ (ji37)
           case neg => rw [if_neg c38] at H; cases H
           rw [if_pos c38] at H
           have c38b0 := decide_eq_true c38
           clear c38
           by_cases c39 : (ji37) < (t183.length : Int)
           case neg => rw [if_neg c39] at H; cases H
           rw [if_pos c39] at H
           have c39b0 := decide_eq_true c39
           (try (have c39h := c39b0; rw [hl7_2] at c39h))
           clear c39
           have H' := am H
           clear H
           have p206 : 0 ≤ ((ji37) : Int) := of_decide_eq_true (by first | (with_reducible assumption) | assumption)
           have q206 : (ji37) < (t183.length : Int) := of_decide_eq_true (by first | (with_reducible assumption) | assumption)
           obtain ⟨ad206, e206, hx206_0⟩ := Kd.at_int (Kd.R_reads' HO_8.out).2.2 (ji37) p206 q206
           obtain rfl : ad204 = ad206 := (by injection e206)
           replace p206 := eq_true p206
           replace q206 := eq_true q206
           go_wp2
           repeat (go_quiet (fail); try go_wp2)
           go_roundg k3
           case measure => have := HK1.out; have := HK2.out; have := HK3.out; omega
           case rel => exact ⟨(IntKind.u64.wrap (x13_3 - 1)), (IntKind.u64.wrap (x14_3 + (rd t183 (ji37)))), rs, (by first | rfl | (simp; done) | (simp only [← hji37] <;> (first | rfl | simp)) | (simp [*]; done)), H', ⟨by have := HK1.out; have := HK2.out; have := HK3.out; omega⟩, ⟨by (try simp only [hl7_2]); (with_reducible repeat (first | apply Kd.R_alloc | apply Kd.R_drewN | apply Kd.R_drew)); exact HO_7.out⟩, ⟨by (try simp only [hl7_2]); (with_reducible repeat (first | apply Kd.R_alloc | apply Kd.R_drewN | apply Kd.R_drew)); exact HO_8.out⟩, ⟨by (try simp only [hl7_2]); (with_reducible repeat (first | apply Kd.R_alloc | apply Kd.R_drewN | apply Kd.R_drew)); exact HO_10.out⟩, ⟨bl HB⟩⟩
          ·rw [if_neg c36] at H
           have c36b0 : decide (1000000000 ≤ x13_3) = false := decide_eq_false c36
           clear c36
           (first | rw [c36b0] | (simp only [i64_w, i32_w]; rw [c36b0]) | skip)
           by_cases c40 : x14_3 < 1000000000
           ·rw [if_pos c40] at H
            have c40b0 := decide_eq_true c40
            clear c40
            obtain ⟨ji41, hji41⟩ : ∃ j_ : Int, (wrap64 ((t183.length : Int) - 2)) = j_ := ⟨_, rfl⟩
            first | rw [hji41] at H | simp only [hji41] at H | skip
            have hji41w : (IntKind.i64.wrap ((t183.length : Int) - 2)) = ji41 := (i64_w _).trans hji41
            by_cases c42 : 0 ≤ (ji41)
            case neg => rw [if_neg c42] at H; cases H
            rw [if_pos c42] at H
            have c42b0 := decide_eq_true c42
            clear c42
            by_cases c43 : (ji41) < (t183.length : Int)
            case neg => rw [if_neg c43] at H; cases H
            rw [if_pos c43] at H
            have c43b0 := decide_eq_true c43
            (try (have c43h := c43b0; rw [hl7_2] at c43h))
            clear c43
            obtain ⟨ji44, hji44⟩ : ∃ j_ : Int, (wrap64 ((wrap64 (x11_2 + (t183.length : Int))) - 2)) = j_ := ⟨_, rfl⟩
            first | rw [hji44] at H | simp only [hji44] at H | skip
            have hji44w : (IntKind.i64.wrap ((wrap64 (x11_2 + (t183.length : Int))) - 2)) = ji44 := (i64_w _).trans hji44
            by_cases c45 : 0 ≤ (ji44)
            case neg => rw [if_neg c45] at H; cases H
            rw [if_pos c45] at H
            have c45b0 := decide_eq_true c45
            clear c45
            by_cases c46 : (ji44) < (x7_2.length : Int)
            case neg => rw [if_neg c46] at H; cases H
            rw [if_pos c46] at H
            have c46b0 := decide_eq_true c46
            (try (have c46h := c46b0; rw [hl7_2] at c46h))
            clear c46
            by_cases c47 : (IntKind.u64.wrap (x13_3 * (rd t183 (ji41)))) > (IntKind.u64.wrap ((IntKind.u64.wrap (x14_3 * 1000000000)) + (rd x7_2 (ji44))))
            ·rw [if_pos c47] at H
             have c47b0 : decide ((IntKind.u64.wrap ((IntKind.u64.wrap (x14_3 * 1000000000)) + (rd x7_2 (ji44)))) < (IntKind.u64.wrap (x13_3 * (rd t183 (ji41))))) = true := decide_eq_true c47
             clear c47
             (try clear hji31w); (try clear hji31)
             (try clear hji37w); (try clear hji37)
             obtain ⟨ji48, hji48⟩ : ∃ j_ : Int, (wrap64 ((t183.length : Int) - 1)) = j_ := ⟨_, rfl⟩
             first | rw [hji48] at H | simp only [hji48] at H | skip
             have hji48w : (IntKind.i64.wrap ((t183.length : Int) - 1)) = ji48 := (i64_w _).trans hji48
             by_cases c49 : 0 ≤ (ji48)
             case neg => rw [if_neg c49] at H; cases H
             rw [if_pos c49] at H
             have c49b0 := decide_eq_true c49
             clear c49
             by_cases c50 : (ji48) < (t183.length : Int)
             case neg => rw [if_neg c50] at H; cases H
             rw [if_pos c50] at H
             have c50b0 := decide_eq_true c50
             (try (have c50h := c50b0; rw [hl7_2] at c50h))
             clear c50
             have H' := am H
             clear H
             have p207 : 0 ≤ ((ji41) : Int) := of_decide_eq_true (by first | (with_reducible assumption) | assumption)
             have q207 : (ji41) < (t183.length : Int) := of_decide_eq_true (by first | (with_reducible assumption) | assumption)
             obtain ⟨ad207, e207, hx207_0⟩ := Kd.at_int (Kd.R_reads' HO_8.out).2.2 (ji41) p207 q207
             obtain rfl : ad204 = ad207 := (by injection e207)
             replace p207 := eq_true p207
             replace q207 := eq_true q207
             have p208 : 0 ≤ ((ji44) : Int) := of_decide_eq_true (by first | (with_reducible assumption) | assumption)
             have q208 : (ji44) < (x7_2.length : Int) := of_decide_eq_true (by first | (with_reducible assumption) | assumption)
             obtain ⟨ad208, e208, hx208_0⟩ := Kd.at_int (Kd.R_reads' HO_7.out).2.2 (ji44) p208 q208
             obtain rfl : ad202 = ad208 := (by injection e208)
             replace p208 := eq_true p208
             replace q208 := eq_true q208
             have p209 : 0 ≤ ((ji48) : Int) := of_decide_eq_true (by first | (with_reducible assumption) | assumption)
             have q209 : (ji48) < (t183.length : Int) := of_decide_eq_true (by first | (with_reducible assumption) | assumption)
             obtain ⟨ad209, e209, hx209_0⟩ := Kd.at_int (Kd.R_reads' HO_8.out).2.2 (ji48) p209 q209
             obtain rfl : ad204 = ad209 := (by injection e209)
             replace p209 := eq_true p209
             replace q209 := eq_true q209
             go_wp2
             repeat (go_quiet (fail); try go_wp2)
             go_roundg k3
             case measure => have := HK1.out; have := HK2.out; have := HK3.out; omega
             case rel => exact ⟨(IntKind.u64.wrap (x13_3 - 1)), (IntKind.u64.wrap (x14_3 + (rd t183 (ji48)))), rs, (by first | rfl | (simp; done) | (simp only [← hji48] <;> (first | rfl | simp)) | (simp [*]; done)), H', ⟨by have := HK1.out; have := HK2.out; have := HK3.out; omega⟩, ⟨by (try simp only [hl7_2]); (with_reducible repeat (first | apply Kd.R_alloc | apply Kd.R_drewN | apply Kd.R_drew)); exact HO_7.out⟩, ⟨by (try simp only [hl7_2]); (with_reducible repeat (first | apply Kd.R_alloc | apply Kd.R_drewN | apply Kd.R_drew)); exact HO_8.out⟩, ⟨by (try simp only [hl7_2]); (with_reducible repeat (first | apply Kd.R_alloc | apply Kd.R_drewN | apply Kd.R_drew)); exact HO_10.out⟩, ⟨bl HB⟩⟩
            ·rw [if_neg c47] at H
             have c47b0 : decide ((IntKind.u64.wrap ((IntKind.u64.wrap (x14_3 * 1000000000)) + (rd x7_2 (ji44)))) < (IntKind.u64.wrap (x13_3 * (rd t183 (ji41))))) = false := decide_eq_false c47
             clear c47
             have H' := am H
             clear H
             have p207 : 0 ≤ ((ji41) : Int) := of_decide_eq_true (by first | (with_reducible assumption) | assumption)
             have q207 : (ji41) < (t183.length : Int) := of_decide_eq_true (by first | (with_reducible assumption) | assumption)
             obtain ⟨ad207, e207, hx207_0⟩ := Kd.at_int (Kd.R_reads' HO_8.out).2.2 (ji41) p207 q207
             obtain rfl : ad204 = ad207 := (by injection e207)
             replace p207 := eq_true p207
             replace q207 := eq_true q207
             have p208 : 0 ≤ ((ji44) : Int) := of_decide_eq_true (by first | (with_reducible assumption) | assumption)
             have q208 : (ji44) < (x7_2.length : Int) := of_decide_eq_true (by first | (with_reducible assumption) | assumption)
             obtain ⟨ad208, e208, hx208_0⟩ := Kd.at_int (Kd.R_reads' HO_7.out).2.2 (ji44) p208 q208
             obtain rfl : ad202 = ad208 := (by injection e208)
             replace p208 := eq_true p208
             replace q208 := eq_true q208
             go_wp2
             repeat (go_quiet (fail); try go_wp2)
             go_meet
             case rel => exact ⟨_, (x13_3), rs, H', ⟨by have := HK1.out; have := HK2.out; have := HK3.out; first | omega | exact Nat.le_refl _⟩, ⟨by (try simp only [hl7_2]); (with_reducible repeat (first | apply Kd.R_alloc | apply Kd.R_drewN | apply Kd.R_drew)); exact HO_7.out⟩, ⟨by (try simp only [hl7_2]); (with_reducible repeat (first | apply Kd.R_alloc | apply Kd.R_drewN | apply Kd.R_drew)); exact HO_8.out⟩, ⟨by (try simp only [hl7_2]); (with_reducible repeat (first | apply Kd.R_alloc | apply Kd.R_drewN | apply Kd.R_drew)); exact HO_10.out⟩, ⟨bl HB⟩⟩
           ·rw [if_neg c40] at H
            have c40b0 := decide_eq_false c40
            clear c40
            have H' := am H
            clear H
            go_wp2
            repeat (go_quiet (fail); try go_wp2)
            go_meet
            case rel => exact ⟨_, (x13_3), rs, H', ⟨by have := HK1.out; have := HK2.out; have := HK3.out; first | omega | exact Nat.le_refl _⟩, ⟨by (try simp only [hl7_2]); (with_reducible repeat (first | apply Kd.R_alloc | apply Kd.R_drewN | apply Kd.R_drew)); exact HO_7.out⟩, ⟨by (try simp only [hl7_2]); (with_reducible repeat (first | apply Kd.R_alloc | apply Kd.R_drewN | apply Kd.R_drew)); exact HO_8.out⟩, ⟨by (try simp only [hl7_2]); (with_reducible repeat (first | apply Kd.R_alloc | apply Kd.R_drewN | apply Kd.R_drew)); exact HO_10.out⟩, ⟨bl HB⟩⟩
       case rest =>
        clear HC35
        (try clear hji18w); (try clear hji18); (try clear hji25w); (try clear hji25); (try clear hji28w); (try clear hji28); (try clear hji3w); (try clear hji3); (try clear hji31w); (try clear hji31); (try clear hji37w); (try clear hji37); (try clear hji41w); (try clear hji41); (try clear hji44w); (try clear hji44); (try clear hji48w); (try clear hji48)
        try clear c1
        try clear p1
        try clear q1
        try clear hx1
        try clear c2
        try clear p2
        try clear q2
        try clear hx2
        try clear c3
        try clear c4
        try clear c4b0
        try clear c5
        try clear c5b0
        try clear c6
        try clear c6b0
        try clear c6b1
        try clear p6
        try clear c8
        try clear c14
        try clear c14b0
        try clear c14b1
        try clear c15
        try clear p17
        try clear q17
        try clear hx17
        try clear c19
        try clear c19b0
        try clear c19b1
        try clear c20
        try clear c20b0
        try clear c20b1
        try clear p20
        try clear q20
        try clear hx20
        try clear c24
        try clear c24b0
        try clear c26
        try clear c26b0
        try clear c27
        try clear c27b0
        try clear c29
        try clear c29b0
        try clear c30
        try clear c30b0
        try clear c32
        try clear c32b0
        try clear c33
        try clear c33b0
        try clear c34
        try clear c34b0
        try clear c34b1
        try clear c36
        try clear c36b0
        try clear c38
        try clear c38b0
        try clear c39
        try clear c39b0
        try clear c40
        try clear c40b0
        try clear c42
        try clear c42b0
        try clear c43
        try clear c43b0
        try clear c45
        try clear c45b0
        try clear c46
        try clear c46b0
        try clear c47
        try clear c47b0
        try clear c49
        try clear c49b0
        try clear c50
        try clear c50b0
        try clear hx176_0
        try clear hx202_0
        try clear hx203_0
        try clear hx204_0
        try clear hx205_0
        try clear hx206_0
        try clear hx207_0
        try clear hx208_0
        try clear hx209_0
        try clear p1
        try clear p17
        try clear p176
        try clear p2
        try clear p20
        try clear p202
        try clear p203
        try clear p204
        try clear p205
        try clear p206
        try clear p207
        try clear p208
        try clear p209
        try clear p6
        try clear q1
        try clear q17
        try clear q176
        try clear q2
        try clear q20
        try clear q202
        try clear q203
        try clear q204
        try clear q205
        try clear q206
        try clear q207
        try clear q208
        try clear q209
        obtain ⟨kq, x13_34, rfl, HA, HJ34, HO_7, HO_8, HO_10, HB⟩ := hcut
        cases kq with
        | zero => exact absurd HA.out (by simp [decimal_pieces_divide.j3])
        | succ kj34 =>
         have H := HA.out
         clear HA
         simp only [decimal_pieces_divide.j3] at H
         obtain ⟨⟨t210, t211⟩, A51, H⟩ := bo H
         try dsimp only at H
         by_cases c52 : t210 = true
         ·subst c52
          rw [if_pos rfl] at H
          obtain ⟨t212, A53, H⟩ := bo H
          try dsimp only at H
          by_cases c54 : 0 ≤ x11_2
          case neg => rw [if_neg c54] at H; cases H
          rw [if_pos c54] at H
          have c54b0 := decide_eq_true c54
          clear c54
          by_cases c55 : x11_2 < (x10_2.length : Int)
          case neg => rw [if_neg c55] at H; cases H
          rw [if_pos c55] at H
          have c55b0 := decide_eq_true c55
          (try (have c55h := c55b0; rw [hl7_2] at c55h))
          clear c55
          obtain ⟨y213, hy213⟩ : ∃ y_ : List Int, y_ = (x10_2.set (x11_2 : Int).toNat (IntKind.u64.wrap (x13_34 - 1))) := ⟨_, rfl⟩
          first | rw [Option.bind_some, ← hy213] at H | rw [← hy213] at H
          have Ny213 := am hy213
          clear hy213
          have H' := am H
          clear H
          go_wp2_with (first | (go_at_call 159; (with_reducible refine (decimal_pieces_take.calls kj34 (fun k_ => some k_ = (.slice (some ad202) x7_2.length co21 : Value).ownBlock) (.slice (some ad202) x7_2.length co21) x7_2 _ _ t183 x13_34 x11_2 true t211 w _ ?s1 ?s2 ?s3 ?s4 A51.out).mono ?_); (case s1 => repeat (first | (with_reducible first | exact HB.out | apply below_alloc | apply pw_below_drewN | apply below_drew1) | exact HB.out)); (case s2 => exact Kd.R_tight rfl HO_7.out); (case s3 => exact Kd.C_kept_own (HO_8.out) (fun k_ hk_ hs_ => (hk_.1) hs_)); (case s4 => exact (Kd.R_reads' HO_8.out).2.1); rintro e w57 ⟨rfl, hy0, hb, hkp⟩; replace HO_7 := am (Kd.R_reok rfl hy0 (fun k_ e_ => HO_7.out.1 k_ e_)); replace HO_8 := am (Kd.R_mono (ok' := fun k_ => some k_ ≠ (.slice (some ad202) x7_2.length co21 : Value).ownBlock ∧ some k_ ≠ (v190 : Value).ownBlock) (Kd.R_keptB (HO_8.out) hkp (fun k_ hk_ hs_ => (hk_.1) hs_)) (fun k_ hk_ => ⟨hk_.1.1, hk_.1.2⟩)); replace HO_10 := am (Kd.R_mono (ok' := fun k_ => some k_ ≠ (.slice (some ad202) x7_2.length co21 : Value).ownBlock ∧ some k_ ≠ (.slice (some ad204) t183.length co13 : Value).ownBlock) (Kd.R_keptB (HO_10.out) hkp (fun k_ hk_ hs_ => (hk_.1) hs_)) (fun k_ hk_ => ⟨hk_.1.1, hk_.1.2⟩)); replace HB := am (hb); (try clear hb); (try clear hkp); (try clear hy0)) | (go_at_call 157; (with_reducible refine (decimal_pieces_back.calls kj34 (fun k_ => some k_ = (.slice (some ad202) x7_2.length co21 : Value).ownBlock) (.slice (some ad202) x7_2.length co21) t211 _ _ t183 x11_2 t212 w _ ?s1 ?s2 ?s3 ?s4 A53.out).mono ?_); (case s1 => repeat (first | (with_reducible first | exact HB.out | apply below_alloc | apply pw_below_drewN | apply below_drew1) | exact HB.out)); (case s2 => exact Kd.R_tight rfl HO_7.out); (case s3 => exact Kd.C_kept_own (HO_8.out) (fun k_ hk_ hs_ => (hk_.1) hs_)); (case s4 => exact (Kd.R_reads' HO_8.out).2.1); rintro e w58 ⟨rfl, hy0, hb, hkp⟩; replace HO_7 := am (Kd.R_reok rfl hy0 (fun k_ e_ => HO_7.out.1 k_ e_)); replace HO_8 := am (Kd.R_mono (ok' := fun k_ => some k_ ≠ (.slice (some ad202) x7_2.length co21 : Value).ownBlock ∧ some k_ ≠ (v190 : Value).ownBlock) (Kd.R_keptB (HO_8.out) hkp (fun k_ hk_ hs_ => (hk_.1) hs_)) (fun k_ hk_ => ⟨hk_.1.1, hk_.1.2⟩)); replace HO_10 := am (Kd.R_mono (ok' := fun k_ => some k_ ≠ (.slice (some ad202) x7_2.length co21 : Value).ownBlock ∧ some k_ ≠ (.slice (some ad204) t183.length co13 : Value).ownBlock) (Kd.R_keptB (HO_10.out) hkp (fun k_ hk_ hs_ => (hk_.1) hs_)) (fun k_ hk_ => ⟨hk_.1.1, hk_.1.2⟩)); replace HB := am (hb); (try clear hb); (try clear hkp); (try clear hy0); have p56 : 0 ≤ (x11_2 : Int) := of_decide_eq_true (by first | (with_reducible assumption) | assumption); have q56 : (x11_2 : Int) < ((x10_2.length : Int) : Int) := of_decide_eq_true (by first | (with_reducible assumption) | assumption); obtain ⟨go56, co56, eo56, gb56, gl56, cl56, HG56⟩ := Kd.R_form HO_10.out (by omega); (first | cases eo56 | (injection eo56 with ea_ en_ ec_; (first | subst ea_ | (injection ea_ with ea_; subst ea_)); subst ec_; clear en_)); have GB56 := am gb56; have GG56 := am HG56; clear gb56 gl56 HG56; obtain ⟨hx56_0, hf56_0⟩ := Kd.R_celln 0 HO_10.out (x11_2 : Int) p56 q56; replace p56 := eq_true p56; replace q56 := eq_true q56; obtain ⟨hy59_, hz59_⟩ := Kd.R_celln 0 HO_10.out (x11_2 : Int) (of_decide_eq_true (by first | (with_reducible assumption) | assumption)) (of_decide_eq_true (by first | (with_reducible assumption) | assumption)); have HP59 := Kd.R_putg HO_10.out (x11_2 : Int) (IntKind.u64.wrap (x13_34 - 1))) | ((with_reducible refine gate_store (t := 112) (p := 135) rfl ?_); (try (rw [drewN_self w58]; generalize hq_ : World.drewN w58 _ = w58; (try (replace hx56_0 := cell_move_ hq_ hx56_0; replace hf56_0 := froz_move_ hq_ hf56_0)); have n0_ := am (Kd.R_at hq_ HO_7.out); have n1_ := am (Kd.R_at hq_ HO_8.out); have n2_ := am (Kd.R_at hq_ HO_10.out); have n3_ := am (below_at hq_ HB.out); clear hq_ HO_7 HO_8 HO_10 HB; have HO_7 := n0_; have HO_8 := n1_; have HO_10 := n2_; have HB := n3_; clear n0_ n1_ n2_ n3_; (try (obtain ⟨hy59_, hz59_⟩ := Kd.R_celln 0 HO_10.out (x11_2 : Int) (of_decide_eq_true (by first | (with_reducible assumption) | assumption)) (of_decide_eq_true (by first | (with_reducible assumption) | assumption)))); (try (have HP59 := Kd.R_putg HO_10.out (x11_2 : Int) (IntKind.u64.wrap (x13_34 - 1)))))); refine store_event (t := 112) (p := 135) (v := ?vo_w60) (w1 := (w58.setCell ⟨go56, (x11_2 : Int).toNat, none⟩ (.int .u64 (IntKind.u64.wrap (x13_34 - 1))))) ?hg ?ho ?hn ?hr ?_; (case ho => rfl); (case hg => rfl); (case hn => rfl); (case hr => first | (go_simp; done) | (go_simp; rfl)); intro w60 hw; have hg : w58.grownBy w60 (some go56) := (by rw [hw]; exact HP59.2); have hp_ : Kd.R (Kd.int .u64) 112 w60 w.heap.size (fun k_ => some k_ ≠ (.slice (some ad202) x7_2.length co21 : Value).ownBlock ∧ some k_ ≠ (.slice (some ad204) t183.length co13 : Value).ownBlock) (.slice (some ⟨go56, 0, none⟩) x10_2.length co56) y213 := (by rw [hw, Ny213.out]; exact HP59.1); clear HP59; replace HO_7 := am (Kd.R_after (v := (.slice (some ⟨go56, 0, none⟩) x10_2.length co56)) (v1 := (.slice (some ⟨go56, 0, none⟩) x10_2.length co56)) (ok := (fun k_ => some k_ ≠ (.slice (some ad204) t183.length co13 : Value).ownBlock)) (kr HO_7) hg (.inl rfl)); replace HO_8 := am (Kd.R_after (v := (.slice (some ⟨go56, 0, none⟩) x10_2.length co56)) (v1 := (.slice (some ⟨go56, 0, none⟩) x10_2.length co56)) (ok := (fun k_ => some k_ ≠ (.slice (some ad202) x7_2.length co21 : Value).ownBlock)) (kr HO_8) hg (.inl rfl)); replace HO_10 := am (hp_); replace HB := am ((by rw [hw]; exact below_set (HB.out) GB56.out : Below w.heap.size w w60)); clear hg hw hp_))
          repeat (go_quiet (first | (go_at_call 159; (with_reducible refine (decimal_pieces_take.calls kj34 (fun k_ => some k_ = (.slice (some ad202) x7_2.length co21 : Value).ownBlock) (.slice (some ad202) x7_2.length co21) x7_2 _ _ t183 x13_34 x11_2 true t211 w _ ?s1 ?s2 ?s3 ?s4 A51.out).mono ?_); (case s1 => repeat (first | (with_reducible first | exact HB.out | apply below_alloc | apply pw_below_drewN | apply below_drew1) | exact HB.out)); (case s2 => exact Kd.R_tight rfl HO_7.out); (case s3 => exact Kd.C_kept_own (HO_8.out) (fun k_ hk_ hs_ => (hk_.1) hs_)); (case s4 => exact (Kd.R_reads' HO_8.out).2.1); rintro e w57 ⟨rfl, hy0, hb, hkp⟩; replace HO_7 := am (Kd.R_reok rfl hy0 (fun k_ e_ => HO_7.out.1 k_ e_)); replace HO_8 := am (Kd.R_mono (ok' := fun k_ => some k_ ≠ (.slice (some ad202) x7_2.length co21 : Value).ownBlock ∧ some k_ ≠ (v190 : Value).ownBlock) (Kd.R_keptB (HO_8.out) hkp (fun k_ hk_ hs_ => (hk_.1) hs_)) (fun k_ hk_ => ⟨hk_.1.1, hk_.1.2⟩)); replace HO_10 := am (Kd.R_mono (ok' := fun k_ => some k_ ≠ (.slice (some ad202) x7_2.length co21 : Value).ownBlock ∧ some k_ ≠ (.slice (some ad204) t183.length co13 : Value).ownBlock) (Kd.R_keptB (HO_10.out) hkp (fun k_ hk_ hs_ => (hk_.1) hs_)) (fun k_ hk_ => ⟨hk_.1.1, hk_.1.2⟩)); replace HB := am (hb); (try clear hb); (try clear hkp); (try clear hy0)) | (go_at_call 157; (with_reducible refine (decimal_pieces_back.calls kj34 (fun k_ => some k_ = (.slice (some ad202) x7_2.length co21 : Value).ownBlock) (.slice (some ad202) x7_2.length co21) t211 _ _ t183 x11_2 t212 w _ ?s1 ?s2 ?s3 ?s4 A53.out).mono ?_); (case s1 => repeat (first | (with_reducible first | exact HB.out | apply below_alloc | apply pw_below_drewN | apply below_drew1) | exact HB.out)); (case s2 => exact Kd.R_tight rfl HO_7.out); (case s3 => exact Kd.C_kept_own (HO_8.out) (fun k_ hk_ hs_ => (hk_.1) hs_)); (case s4 => exact (Kd.R_reads' HO_8.out).2.1); rintro e w58 ⟨rfl, hy0, hb, hkp⟩; replace HO_7 := am (Kd.R_reok rfl hy0 (fun k_ e_ => HO_7.out.1 k_ e_)); replace HO_8 := am (Kd.R_mono (ok' := fun k_ => some k_ ≠ (.slice (some ad202) x7_2.length co21 : Value).ownBlock ∧ some k_ ≠ (v190 : Value).ownBlock) (Kd.R_keptB (HO_8.out) hkp (fun k_ hk_ hs_ => (hk_.1) hs_)) (fun k_ hk_ => ⟨hk_.1.1, hk_.1.2⟩)); replace HO_10 := am (Kd.R_mono (ok' := fun k_ => some k_ ≠ (.slice (some ad202) x7_2.length co21 : Value).ownBlock ∧ some k_ ≠ (.slice (some ad204) t183.length co13 : Value).ownBlock) (Kd.R_keptB (HO_10.out) hkp (fun k_ hk_ hs_ => (hk_.1) hs_)) (fun k_ hk_ => ⟨hk_.1.1, hk_.1.2⟩)); replace HB := am (hb); (try clear hb); (try clear hkp); (try clear hy0); have p56 : 0 ≤ (x11_2 : Int) := of_decide_eq_true (by first | (with_reducible assumption) | assumption); have q56 : (x11_2 : Int) < ((x10_2.length : Int) : Int) := of_decide_eq_true (by first | (with_reducible assumption) | assumption); obtain ⟨go56, co56, eo56, gb56, gl56, cl56, HG56⟩ := Kd.R_form HO_10.out (by omega); (first | cases eo56 | (injection eo56 with ea_ en_ ec_; (first | subst ea_ | (injection ea_ with ea_; subst ea_)); subst ec_; clear en_)); have GB56 := am gb56; have GG56 := am HG56; clear gb56 gl56 HG56; obtain ⟨hx56_0, hf56_0⟩ := Kd.R_celln 0 HO_10.out (x11_2 : Int) p56 q56; replace p56 := eq_true p56; replace q56 := eq_true q56; obtain ⟨hy59_, hz59_⟩ := Kd.R_celln 0 HO_10.out (x11_2 : Int) (of_decide_eq_true (by first | (with_reducible assumption) | assumption)) (of_decide_eq_true (by first | (with_reducible assumption) | assumption)); have HP59 := Kd.R_putg HO_10.out (x11_2 : Int) (IntKind.u64.wrap (x13_34 - 1))) | ((with_reducible refine gate_store (t := 112) (p := 135) rfl ?_); (try (rw [drewN_self w58]; generalize hq_ : World.drewN w58 _ = w58; (try (replace hx56_0 := cell_move_ hq_ hx56_0; replace hf56_0 := froz_move_ hq_ hf56_0)); have n0_ := am (Kd.R_at hq_ HO_7.out); have n1_ := am (Kd.R_at hq_ HO_8.out); have n2_ := am (Kd.R_at hq_ HO_10.out); have n3_ := am (below_at hq_ HB.out); clear hq_ HO_7 HO_8 HO_10 HB; have HO_7 := n0_; have HO_8 := n1_; have HO_10 := n2_; have HB := n3_; clear n0_ n1_ n2_ n3_; (try (obtain ⟨hy59_, hz59_⟩ := Kd.R_celln 0 HO_10.out (x11_2 : Int) (of_decide_eq_true (by first | (with_reducible assumption) | assumption)) (of_decide_eq_true (by first | (with_reducible assumption) | assumption)))); (try (have HP59 := Kd.R_putg HO_10.out (x11_2 : Int) (IntKind.u64.wrap (x13_34 - 1)))))); refine store_event (t := 112) (p := 135) (v := ?vo_w60) (w1 := (w58.setCell ⟨go56, (x11_2 : Int).toNat, none⟩ (.int .u64 (IntKind.u64.wrap (x13_34 - 1))))) ?hg ?ho ?hn ?hr ?_; (case ho => rfl); (case hg => rfl); (case hn => rfl); (case hr => first | (go_simp; done) | (go_simp; rfl)); intro w60 hw; have hg : w58.grownBy w60 (some go56) := (by rw [hw]; exact HP59.2); have hp_ : Kd.R (Kd.int .u64) 112 w60 w.heap.size (fun k_ => some k_ ≠ (.slice (some ad202) x7_2.length co21 : Value).ownBlock ∧ some k_ ≠ (.slice (some ad204) t183.length co13 : Value).ownBlock) (.slice (some ⟨go56, 0, none⟩) x10_2.length co56) y213 := (by rw [hw, Ny213.out]; exact HP59.1); clear HP59; replace HO_7 := am (Kd.R_after (v := (.slice (some ⟨go56, 0, none⟩) x10_2.length co56)) (v1 := (.slice (some ⟨go56, 0, none⟩) x10_2.length co56)) (ok := (fun k_ => some k_ ≠ (.slice (some ad204) t183.length co13 : Value).ownBlock)) (kr HO_7) hg (.inl rfl)); replace HO_8 := am (Kd.R_after (v := (.slice (some ⟨go56, 0, none⟩) x10_2.length co56)) (v1 := (.slice (some ⟨go56, 0, none⟩) x10_2.length co56)) (ok := (fun k_ => some k_ ≠ (.slice (some ad202) x7_2.length co21 : Value).ownBlock)) (kr HO_8) hg (.inl rfl)); replace HO_10 := am (hp_); replace HB := am ((by rw [hw]; exact below_set (HB.out) GB56.out : Below w.heap.size w w60)); clear hg hw hp_)); try go_wp2_with (first | (go_at_call 159; (with_reducible refine (decimal_pieces_take.calls kj34 (fun k_ => some k_ = (.slice (some ad202) x7_2.length co21 : Value).ownBlock) (.slice (some ad202) x7_2.length co21) x7_2 _ _ t183 x13_34 x11_2 true t211 w _ ?s1 ?s2 ?s3 ?s4 A51.out).mono ?_); (case s1 => repeat (first | (with_reducible first | exact HB.out | apply below_alloc | apply pw_below_drewN | apply below_drew1) | exact HB.out)); (case s2 => exact Kd.R_tight rfl HO_7.out); (case s3 => exact Kd.C_kept_own (HO_8.out) (fun k_ hk_ hs_ => (hk_.1) hs_)); (case s4 => exact (Kd.R_reads' HO_8.out).2.1); rintro e w57 ⟨rfl, hy0, hb, hkp⟩; replace HO_7 := am (Kd.R_reok rfl hy0 (fun k_ e_ => HO_7.out.1 k_ e_)); replace HO_8 := am (Kd.R_mono (ok' := fun k_ => some k_ ≠ (.slice (some ad202) x7_2.length co21 : Value).ownBlock ∧ some k_ ≠ (v190 : Value).ownBlock) (Kd.R_keptB (HO_8.out) hkp (fun k_ hk_ hs_ => (hk_.1) hs_)) (fun k_ hk_ => ⟨hk_.1.1, hk_.1.2⟩)); replace HO_10 := am (Kd.R_mono (ok' := fun k_ => some k_ ≠ (.slice (some ad202) x7_2.length co21 : Value).ownBlock ∧ some k_ ≠ (.slice (some ad204) t183.length co13 : Value).ownBlock) (Kd.R_keptB (HO_10.out) hkp (fun k_ hk_ hs_ => (hk_.1) hs_)) (fun k_ hk_ => ⟨hk_.1.1, hk_.1.2⟩)); replace HB := am (hb); (try clear hb); (try clear hkp); (try clear hy0)) | (go_at_call 157; (with_reducible refine (decimal_pieces_back.calls kj34 (fun k_ => some k_ = (.slice (some ad202) x7_2.length co21 : Value).ownBlock) (.slice (some ad202) x7_2.length co21) t211 _ _ t183 x11_2 t212 w _ ?s1 ?s2 ?s3 ?s4 A53.out).mono ?_); (case s1 => repeat (first | (with_reducible first | exact HB.out | apply below_alloc | apply pw_below_drewN | apply below_drew1) | exact HB.out)); (case s2 => exact Kd.R_tight rfl HO_7.out); (case s3 => exact Kd.C_kept_own (HO_8.out) (fun k_ hk_ hs_ => (hk_.1) hs_)); (case s4 => exact (Kd.R_reads' HO_8.out).2.1); rintro e w58 ⟨rfl, hy0, hb, hkp⟩; replace HO_7 := am (Kd.R_reok rfl hy0 (fun k_ e_ => HO_7.out.1 k_ e_)); replace HO_8 := am (Kd.R_mono (ok' := fun k_ => some k_ ≠ (.slice (some ad202) x7_2.length co21 : Value).ownBlock ∧ some k_ ≠ (v190 : Value).ownBlock) (Kd.R_keptB (HO_8.out) hkp (fun k_ hk_ hs_ => (hk_.1) hs_)) (fun k_ hk_ => ⟨hk_.1.1, hk_.1.2⟩)); replace HO_10 := am (Kd.R_mono (ok' := fun k_ => some k_ ≠ (.slice (some ad202) x7_2.length co21 : Value).ownBlock ∧ some k_ ≠ (.slice (some ad204) t183.length co13 : Value).ownBlock) (Kd.R_keptB (HO_10.out) hkp (fun k_ hk_ hs_ => (hk_.1) hs_)) (fun k_ hk_ => ⟨hk_.1.1, hk_.1.2⟩)); replace HB := am (hb); (try clear hb); (try clear hkp); (try clear hy0); have p56 : 0 ≤ (x11_2 : Int) := of_decide_eq_true (by first | (with_reducible assumption) | assumption); have q56 : (x11_2 : Int) < ((x10_2.length : Int) : Int) := of_decide_eq_true (by first | (with_reducible assumption) | assumption); obtain ⟨go56, co56, eo56, gb56, gl56, cl56, HG56⟩ := Kd.R_form HO_10.out (by omega); (first | cases eo56 | (injection eo56 with ea_ en_ ec_; (first | subst ea_ | (injection ea_ with ea_; subst ea_)); subst ec_; clear en_)); have GB56 := am gb56; have GG56 := am HG56; clear gb56 gl56 HG56; obtain ⟨hx56_0, hf56_0⟩ := Kd.R_celln 0 HO_10.out (x11_2 : Int) p56 q56; replace p56 := eq_true p56; replace q56 := eq_true q56; obtain ⟨hy59_, hz59_⟩ := Kd.R_celln 0 HO_10.out (x11_2 : Int) (of_decide_eq_true (by first | (with_reducible assumption) | assumption)) (of_decide_eq_true (by first | (with_reducible assumption) | assumption)); have HP59 := Kd.R_putg HO_10.out (x11_2 : Int) (IntKind.u64.wrap (x13_34 - 1))) | ((with_reducible refine gate_store (t := 112) (p := 135) rfl ?_); (try (rw [drewN_self w58]; generalize hq_ : World.drewN w58 _ = w58; (try (replace hx56_0 := cell_move_ hq_ hx56_0; replace hf56_0 := froz_move_ hq_ hf56_0)); have n0_ := am (Kd.R_at hq_ HO_7.out); have n1_ := am (Kd.R_at hq_ HO_8.out); have n2_ := am (Kd.R_at hq_ HO_10.out); have n3_ := am (below_at hq_ HB.out); clear hq_ HO_7 HO_8 HO_10 HB; have HO_7 := n0_; have HO_8 := n1_; have HO_10 := n2_; have HB := n3_; clear n0_ n1_ n2_ n3_; (try (obtain ⟨hy59_, hz59_⟩ := Kd.R_celln 0 HO_10.out (x11_2 : Int) (of_decide_eq_true (by first | (with_reducible assumption) | assumption)) (of_decide_eq_true (by first | (with_reducible assumption) | assumption)))); (try (have HP59 := Kd.R_putg HO_10.out (x11_2 : Int) (IntKind.u64.wrap (x13_34 - 1)))))); refine store_event (t := 112) (p := 135) (v := ?vo_w60) (w1 := (w58.setCell ⟨go56, (x11_2 : Int).toNat, none⟩ (.int .u64 (IntKind.u64.wrap (x13_34 - 1))))) ?hg ?ho ?hn ?hr ?_; (case ho => rfl); (case hg => rfl); (case hn => rfl); (case hr => first | (go_simp; done) | (go_simp; rfl)); intro w60 hw; have hg : w58.grownBy w60 (some go56) := (by rw [hw]; exact HP59.2); have hp_ : Kd.R (Kd.int .u64) 112 w60 w.heap.size (fun k_ => some k_ ≠ (.slice (some ad202) x7_2.length co21 : Value).ownBlock ∧ some k_ ≠ (.slice (some ad204) t183.length co13 : Value).ownBlock) (.slice (some ⟨go56, 0, none⟩) x10_2.length co56) y213 := (by rw [hw, Ny213.out]; exact HP59.1); clear HP59; replace HO_7 := am (Kd.R_after (v := (.slice (some ⟨go56, 0, none⟩) x10_2.length co56)) (v1 := (.slice (some ⟨go56, 0, none⟩) x10_2.length co56)) (ok := (fun k_ => some k_ ≠ (.slice (some ad204) t183.length co13 : Value).ownBlock)) (kr HO_7) hg (.inl rfl)); replace HO_8 := am (Kd.R_after (v := (.slice (some ⟨go56, 0, none⟩) x10_2.length co56)) (v1 := (.slice (some ⟨go56, 0, none⟩) x10_2.length co56)) (ok := (fun k_ => some k_ ≠ (.slice (some ad202) x7_2.length co21 : Value).ownBlock)) (kr HO_8) hg (.inl rfl)); replace HO_10 := am (hp_); replace HB := am ((by rw [hw]; exact below_set (HB.out) GB56.out : Below w.heap.size w w60)); clear hg hw hp_)))
          (try simp only [← hl7_2])
          go_roundg kj34
          case measure => have := HK1.out; have := HK2.out; have := HJ34.out; omega
          case rel => exact ⟨(t212), (y213), (wrap64 (x11_2 - 1)), rs, H', ⟨by have := HK1.out; have := HK2.out; have := HJ34.out; omega⟩, ⟨by (try simp only [hl7_2]); (with_reducible repeat (first | apply Kd.R_alloc | apply Kd.R_drewN | apply Kd.R_drew)); exact HO_7.out⟩, ⟨by (try simp only [hl7_2]); (with_reducible repeat (first | apply Kd.R_alloc | apply Kd.R_drewN | apply Kd.R_drew)); exact HO_8.out⟩, ⟨by (try simp only [hl7_2]); (with_reducible repeat (first | apply Kd.R_alloc | apply Kd.R_drewN | apply Kd.R_drew)); exact HO_10.out⟩, ⟨bl HB⟩⟩
         ·replace c52 := Bool.eq_false_iff.mpr c52
          subst c52
          rw [if_neg (show ¬ (false = true) by decide)] at H
          by_cases c61 : 0 ≤ x11_2
          case neg => rw [if_neg c61] at H; cases H
          rw [if_pos c61] at H
          have c61b0 := decide_eq_true c61
          clear c61
          by_cases c62 : x11_2 < (x10_2.length : Int)
          case neg => rw [if_neg c62] at H; cases H
          rw [if_pos c62] at H
          have c62b0 := decide_eq_true c62
          (try (have c62h := c62b0; rw [hl7_2] at c62h))
          clear c62
          obtain ⟨y214, hy214⟩ : ∃ y_ : List Int, y_ = (x10_2.set (x11_2 : Int).toNat x13_34) := ⟨_, rfl⟩
          first | rw [Option.bind_some, ← hy214] at H | rw [← hy214] at H
          have Ny214 := am hy214
          clear hy214
          have H' := am H
          clear H
          go_wp2_with (first | (go_at_call 159; (with_reducible refine (decimal_pieces_take.calls kj34 (fun k_ => some k_ = (.slice (some ad202) x7_2.length co21 : Value).ownBlock) (.slice (some ad202) x7_2.length co21) x7_2 _ _ t183 x13_34 x11_2 false t211 w _ ?s1 ?s2 ?s3 ?s4 A51.out).mono ?_); (case s1 => repeat (first | (with_reducible first | exact HB.out | apply below_alloc | apply pw_below_drewN | apply below_drew1) | exact HB.out)); (case s2 => exact Kd.R_tight rfl HO_7.out); (case s3 => exact Kd.C_kept_own (HO_8.out) (fun k_ hk_ hs_ => (hk_.1) hs_)); (case s4 => exact (Kd.R_reads' HO_8.out).2.1); rintro e w64 ⟨rfl, hy0, hb, hkp⟩; replace HO_7 := am (Kd.R_reok rfl hy0 (fun k_ e_ => HO_7.out.1 k_ e_)); replace HO_8 := am (Kd.R_mono (ok' := fun k_ => some k_ ≠ (.slice (some ad202) x7_2.length co21 : Value).ownBlock ∧ some k_ ≠ (v190 : Value).ownBlock) (Kd.R_keptB (HO_8.out) hkp (fun k_ hk_ hs_ => (hk_.1) hs_)) (fun k_ hk_ => ⟨hk_.1.1, hk_.1.2⟩)); replace HO_10 := am (Kd.R_mono (ok' := fun k_ => some k_ ≠ (.slice (some ad202) x7_2.length co21 : Value).ownBlock ∧ some k_ ≠ (.slice (some ad204) t183.length co13 : Value).ownBlock) (Kd.R_keptB (HO_10.out) hkp (fun k_ hk_ hs_ => (hk_.1) hs_)) (fun k_ hk_ => ⟨hk_.1.1, hk_.1.2⟩)); replace HB := am (hb); (try clear hb); (try clear hkp); (try clear hy0); have p63 : 0 ≤ (x11_2 : Int) := of_decide_eq_true (by first | (with_reducible assumption) | assumption); have q63 : (x11_2 : Int) < ((x10_2.length : Int) : Int) := of_decide_eq_true (by first | (with_reducible assumption) | assumption); obtain ⟨go63, co63, eo63, gb63, gl63, cl63, HG63⟩ := Kd.R_form HO_10.out (by omega); (first | cases eo63 | (injection eo63 with ea_ en_ ec_; (first | subst ea_ | (injection ea_ with ea_; subst ea_)); subst ec_; clear en_)); have GB63 := am gb63; have GG63 := am HG63; clear gb63 gl63 HG63; obtain ⟨hx63_0, hf63_0⟩ := Kd.R_celln 0 HO_10.out (x11_2 : Int) p63 q63; replace p63 := eq_true p63; replace q63 := eq_true q63; obtain ⟨hy65_, hz65_⟩ := Kd.R_celln 0 HO_10.out (x11_2 : Int) (of_decide_eq_true (by first | (with_reducible assumption) | assumption)) (of_decide_eq_true (by first | (with_reducible assumption) | assumption)); have HP65 := Kd.R_putg HO_10.out (x11_2 : Int) x13_34) | ((with_reducible refine gate_store (t := 112) (p := 135) rfl ?_); (try (rw [drewN_self w64]; generalize hq_ : World.drewN w64 _ = w64; (try (replace hx56_0 := cell_move_ hq_ hx56_0; replace hf56_0 := froz_move_ hq_ hf56_0)); (try (replace hx63_0 := cell_move_ hq_ hx63_0; replace hf63_0 := froz_move_ hq_ hf63_0)); have n0_ := am (Kd.R_at hq_ HO_7.out); have n1_ := am (Kd.R_at hq_ HO_8.out); have n2_ := am (Kd.R_at hq_ HO_10.out); have n3_ := am (below_at hq_ HB.out); clear hq_ HO_7 HO_8 HO_10 HB; have HO_7 := n0_; have HO_8 := n1_; have HO_10 := n2_; have HB := n3_; clear n0_ n1_ n2_ n3_; (try (obtain ⟨hy65_, hz65_⟩ := Kd.R_celln 0 HO_10.out (x11_2 : Int) (of_decide_eq_true (by first | (with_reducible assumption) | assumption)) (of_decide_eq_true (by first | (with_reducible assumption) | assumption)))); (try (have HP65 := Kd.R_putg HO_10.out (x11_2 : Int) x13_34)))); refine store_event (t := 112) (p := 135) (v := ?vo_w66) (w1 := (w64.setCell ⟨go63, (x11_2 : Int).toNat, none⟩ (.int .u64 x13_34))) ?hg ?ho ?hn ?hr ?_; (case ho => rfl); (case hg => rfl); (case hn => rfl); (case hr => first | (go_simp; done) | (go_simp; rfl)); intro w66 hw; have hg : w64.grownBy w66 (some go63) := (by rw [hw]; exact HP65.2); have hp_ : Kd.R (Kd.int .u64) 112 w66 w.heap.size (fun k_ => some k_ ≠ (.slice (some ad202) x7_2.length co21 : Value).ownBlock ∧ some k_ ≠ (.slice (some ad204) t183.length co13 : Value).ownBlock) (.slice (some ⟨go63, 0, none⟩) x10_2.length co63) y214 := (by rw [hw, Ny214.out]; exact HP65.1); clear HP65; replace HO_7 := am (Kd.R_after (v := (.slice (some ⟨go63, 0, none⟩) x10_2.length co63)) (v1 := (.slice (some ⟨go63, 0, none⟩) x10_2.length co63)) (ok := (fun k_ => some k_ ≠ (.slice (some ad204) t183.length co13 : Value).ownBlock)) (kr HO_7) hg (.inl rfl)); replace HO_8 := am (Kd.R_after (v := (.slice (some ⟨go63, 0, none⟩) x10_2.length co63)) (v1 := (.slice (some ⟨go63, 0, none⟩) x10_2.length co63)) (ok := (fun k_ => some k_ ≠ (.slice (some ad202) x7_2.length co21 : Value).ownBlock)) (kr HO_8) hg (.inl rfl)); replace HO_10 := am (hp_); replace HB := am ((by rw [hw]; exact below_set (HB.out) GB63.out : Below w.heap.size w w66)); clear hg hw hp_))
          repeat (go_quiet (first | (go_at_call 159; (with_reducible refine (decimal_pieces_take.calls kj34 (fun k_ => some k_ = (.slice (some ad202) x7_2.length co21 : Value).ownBlock) (.slice (some ad202) x7_2.length co21) x7_2 _ _ t183 x13_34 x11_2 false t211 w _ ?s1 ?s2 ?s3 ?s4 A51.out).mono ?_); (case s1 => repeat (first | (with_reducible first | exact HB.out | apply below_alloc | apply pw_below_drewN | apply below_drew1) | exact HB.out)); (case s2 => exact Kd.R_tight rfl HO_7.out); (case s3 => exact Kd.C_kept_own (HO_8.out) (fun k_ hk_ hs_ => (hk_.1) hs_)); (case s4 => exact (Kd.R_reads' HO_8.out).2.1); rintro e w64 ⟨rfl, hy0, hb, hkp⟩; replace HO_7 := am (Kd.R_reok rfl hy0 (fun k_ e_ => HO_7.out.1 k_ e_)); replace HO_8 := am (Kd.R_mono (ok' := fun k_ => some k_ ≠ (.slice (some ad202) x7_2.length co21 : Value).ownBlock ∧ some k_ ≠ (v190 : Value).ownBlock) (Kd.R_keptB (HO_8.out) hkp (fun k_ hk_ hs_ => (hk_.1) hs_)) (fun k_ hk_ => ⟨hk_.1.1, hk_.1.2⟩)); replace HO_10 := am (Kd.R_mono (ok' := fun k_ => some k_ ≠ (.slice (some ad202) x7_2.length co21 : Value).ownBlock ∧ some k_ ≠ (.slice (some ad204) t183.length co13 : Value).ownBlock) (Kd.R_keptB (HO_10.out) hkp (fun k_ hk_ hs_ => (hk_.1) hs_)) (fun k_ hk_ => ⟨hk_.1.1, hk_.1.2⟩)); replace HB := am (hb); (try clear hb); (try clear hkp); (try clear hy0); have p63 : 0 ≤ (x11_2 : Int) := of_decide_eq_true (by first | (with_reducible assumption) | assumption); have q63 : (x11_2 : Int) < ((x10_2.length : Int) : Int) := of_decide_eq_true (by first | (with_reducible assumption) | assumption); obtain ⟨go63, co63, eo63, gb63, gl63, cl63, HG63⟩ := Kd.R_form HO_10.out (by omega); (first | cases eo63 | (injection eo63 with ea_ en_ ec_; (first | subst ea_ | (injection ea_ with ea_; subst ea_)); subst ec_; clear en_)); have GB63 := am gb63; have GG63 := am HG63; clear gb63 gl63 HG63; obtain ⟨hx63_0, hf63_0⟩ := Kd.R_celln 0 HO_10.out (x11_2 : Int) p63 q63; replace p63 := eq_true p63; replace q63 := eq_true q63; obtain ⟨hy65_, hz65_⟩ := Kd.R_celln 0 HO_10.out (x11_2 : Int) (of_decide_eq_true (by first | (with_reducible assumption) | assumption)) (of_decide_eq_true (by first | (with_reducible assumption) | assumption)); have HP65 := Kd.R_putg HO_10.out (x11_2 : Int) x13_34) | ((with_reducible refine gate_store (t := 112) (p := 135) rfl ?_); (try (rw [drewN_self w64]; generalize hq_ : World.drewN w64 _ = w64; (try (replace hx56_0 := cell_move_ hq_ hx56_0; replace hf56_0 := froz_move_ hq_ hf56_0)); (try (replace hx63_0 := cell_move_ hq_ hx63_0; replace hf63_0 := froz_move_ hq_ hf63_0)); have n0_ := am (Kd.R_at hq_ HO_7.out); have n1_ := am (Kd.R_at hq_ HO_8.out); have n2_ := am (Kd.R_at hq_ HO_10.out); have n3_ := am (below_at hq_ HB.out); clear hq_ HO_7 HO_8 HO_10 HB; have HO_7 := n0_; have HO_8 := n1_; have HO_10 := n2_; have HB := n3_; clear n0_ n1_ n2_ n3_; (try (obtain ⟨hy65_, hz65_⟩ := Kd.R_celln 0 HO_10.out (x11_2 : Int) (of_decide_eq_true (by first | (with_reducible assumption) | assumption)) (of_decide_eq_true (by first | (with_reducible assumption) | assumption)))); (try (have HP65 := Kd.R_putg HO_10.out (x11_2 : Int) x13_34)))); refine store_event (t := 112) (p := 135) (v := ?vo_w66) (w1 := (w64.setCell ⟨go63, (x11_2 : Int).toNat, none⟩ (.int .u64 x13_34))) ?hg ?ho ?hn ?hr ?_; (case ho => rfl); (case hg => rfl); (case hn => rfl); (case hr => first | (go_simp; done) | (go_simp; rfl)); intro w66 hw; have hg : w64.grownBy w66 (some go63) := (by rw [hw]; exact HP65.2); have hp_ : Kd.R (Kd.int .u64) 112 w66 w.heap.size (fun k_ => some k_ ≠ (.slice (some ad202) x7_2.length co21 : Value).ownBlock ∧ some k_ ≠ (.slice (some ad204) t183.length co13 : Value).ownBlock) (.slice (some ⟨go63, 0, none⟩) x10_2.length co63) y214 := (by rw [hw, Ny214.out]; exact HP65.1); clear HP65; replace HO_7 := am (Kd.R_after (v := (.slice (some ⟨go63, 0, none⟩) x10_2.length co63)) (v1 := (.slice (some ⟨go63, 0, none⟩) x10_2.length co63)) (ok := (fun k_ => some k_ ≠ (.slice (some ad204) t183.length co13 : Value).ownBlock)) (kr HO_7) hg (.inl rfl)); replace HO_8 := am (Kd.R_after (v := (.slice (some ⟨go63, 0, none⟩) x10_2.length co63)) (v1 := (.slice (some ⟨go63, 0, none⟩) x10_2.length co63)) (ok := (fun k_ => some k_ ≠ (.slice (some ad202) x7_2.length co21 : Value).ownBlock)) (kr HO_8) hg (.inl rfl)); replace HO_10 := am (hp_); replace HB := am ((by rw [hw]; exact below_set (HB.out) GB63.out : Below w.heap.size w w66)); clear hg hw hp_)); try go_wp2_with (first | (go_at_call 159; (with_reducible refine (decimal_pieces_take.calls kj34 (fun k_ => some k_ = (.slice (some ad202) x7_2.length co21 : Value).ownBlock) (.slice (some ad202) x7_2.length co21) x7_2 _ _ t183 x13_34 x11_2 false t211 w _ ?s1 ?s2 ?s3 ?s4 A51.out).mono ?_); (case s1 => repeat (first | (with_reducible first | exact HB.out | apply below_alloc | apply pw_below_drewN | apply below_drew1) | exact HB.out)); (case s2 => exact Kd.R_tight rfl HO_7.out); (case s3 => exact Kd.C_kept_own (HO_8.out) (fun k_ hk_ hs_ => (hk_.1) hs_)); (case s4 => exact (Kd.R_reads' HO_8.out).2.1); rintro e w64 ⟨rfl, hy0, hb, hkp⟩; replace HO_7 := am (Kd.R_reok rfl hy0 (fun k_ e_ => HO_7.out.1 k_ e_)); replace HO_8 := am (Kd.R_mono (ok' := fun k_ => some k_ ≠ (.slice (some ad202) x7_2.length co21 : Value).ownBlock ∧ some k_ ≠ (v190 : Value).ownBlock) (Kd.R_keptB (HO_8.out) hkp (fun k_ hk_ hs_ => (hk_.1) hs_)) (fun k_ hk_ => ⟨hk_.1.1, hk_.1.2⟩)); replace HO_10 := am (Kd.R_mono (ok' := fun k_ => some k_ ≠ (.slice (some ad202) x7_2.length co21 : Value).ownBlock ∧ some k_ ≠ (.slice (some ad204) t183.length co13 : Value).ownBlock) (Kd.R_keptB (HO_10.out) hkp (fun k_ hk_ hs_ => (hk_.1) hs_)) (fun k_ hk_ => ⟨hk_.1.1, hk_.1.2⟩)); replace HB := am (hb); (try clear hb); (try clear hkp); (try clear hy0); have p63 : 0 ≤ (x11_2 : Int) := of_decide_eq_true (by first | (with_reducible assumption) | assumption); have q63 : (x11_2 : Int) < ((x10_2.length : Int) : Int) := of_decide_eq_true (by first | (with_reducible assumption) | assumption); obtain ⟨go63, co63, eo63, gb63, gl63, cl63, HG63⟩ := Kd.R_form HO_10.out (by omega); (first | cases eo63 | (injection eo63 with ea_ en_ ec_; (first | subst ea_ | (injection ea_ with ea_; subst ea_)); subst ec_; clear en_)); have GB63 := am gb63; have GG63 := am HG63; clear gb63 gl63 HG63; obtain ⟨hx63_0, hf63_0⟩ := Kd.R_celln 0 HO_10.out (x11_2 : Int) p63 q63; replace p63 := eq_true p63; replace q63 := eq_true q63; obtain ⟨hy65_, hz65_⟩ := Kd.R_celln 0 HO_10.out (x11_2 : Int) (of_decide_eq_true (by first | (with_reducible assumption) | assumption)) (of_decide_eq_true (by first | (with_reducible assumption) | assumption)); have HP65 := Kd.R_putg HO_10.out (x11_2 : Int) x13_34) | ((with_reducible refine gate_store (t := 112) (p := 135) rfl ?_); (try (rw [drewN_self w64]; generalize hq_ : World.drewN w64 _ = w64; (try (replace hx56_0 := cell_move_ hq_ hx56_0; replace hf56_0 := froz_move_ hq_ hf56_0)); (try (replace hx63_0 := cell_move_ hq_ hx63_0; replace hf63_0 := froz_move_ hq_ hf63_0)); have n0_ := am (Kd.R_at hq_ HO_7.out); have n1_ := am (Kd.R_at hq_ HO_8.out); have n2_ := am (Kd.R_at hq_ HO_10.out); have n3_ := am (below_at hq_ HB.out); clear hq_ HO_7 HO_8 HO_10 HB; have HO_7 := n0_; have HO_8 := n1_; have HO_10 := n2_; have HB := n3_; clear n0_ n1_ n2_ n3_; (try (obtain ⟨hy65_, hz65_⟩ := Kd.R_celln 0 HO_10.out (x11_2 : Int) (of_decide_eq_true (by first | (with_reducible assumption) | assumption)) (of_decide_eq_true (by first | (with_reducible assumption) | assumption)))); (try (have HP65 := Kd.R_putg HO_10.out (x11_2 : Int) x13_34)))); refine store_event (t := 112) (p := 135) (v := ?vo_w66) (w1 := (w64.setCell ⟨go63, (x11_2 : Int).toNat, none⟩ (.int .u64 x13_34))) ?hg ?ho ?hn ?hr ?_; (case ho => rfl); (case hg => rfl); (case hn => rfl); (case hr => first | (go_simp; done) | (go_simp; rfl)); intro w66 hw; have hg : w64.grownBy w66 (some go63) := (by rw [hw]; exact HP65.2); have hp_ : Kd.R (Kd.int .u64) 112 w66 w.heap.size (fun k_ => some k_ ≠ (.slice (some ad202) x7_2.length co21 : Value).ownBlock ∧ some k_ ≠ (.slice (some ad204) t183.length co13 : Value).ownBlock) (.slice (some ⟨go63, 0, none⟩) x10_2.length co63) y214 := (by rw [hw, Ny214.out]; exact HP65.1); clear HP65; replace HO_7 := am (Kd.R_after (v := (.slice (some ⟨go63, 0, none⟩) x10_2.length co63)) (v1 := (.slice (some ⟨go63, 0, none⟩) x10_2.length co63)) (ok := (fun k_ => some k_ ≠ (.slice (some ad204) t183.length co13 : Value).ownBlock)) (kr HO_7) hg (.inl rfl)); replace HO_8 := am (Kd.R_after (v := (.slice (some ⟨go63, 0, none⟩) x10_2.length co63)) (v1 := (.slice (some ⟨go63, 0, none⟩) x10_2.length co63)) (ok := (fun k_ => some k_ ≠ (.slice (some ad202) x7_2.length co21 : Value).ownBlock)) (kr HO_8) hg (.inl rfl)); replace HO_10 := am (hp_); replace HB := am ((by rw [hw]; exact below_set (HB.out) GB63.out : Below w.heap.size w w66)); clear hg hw hp_)))
          (try simp only [← hl7_2])
          go_roundg kj34
          case measure => have := HK1.out; have := HK2.out; have := HJ34.out; omega
          case rel => exact ⟨(t211), (y214), (wrap64 (x11_2 - 1)), rs, H', ⟨by have := HK1.out; have := HK2.out; have := HJ34.out; omega⟩, ⟨by (try simp only [hl7_2]); (with_reducible repeat (first | apply Kd.R_alloc | apply Kd.R_drewN | apply Kd.R_drew)); exact HO_7.out⟩, ⟨by (try simp only [hl7_2]); (with_reducible repeat (first | apply Kd.R_alloc | apply Kd.R_drewN | apply Kd.R_drew)); exact HO_8.out⟩, ⟨by (try simp only [hl7_2]); (with_reducible repeat (first | apply Kd.R_alloc | apply Kd.R_drewN | apply Kd.R_drew)); exact HO_10.out⟩, ⟨bl HB⟩⟩
      ·rw [if_neg c24] at H
       have c24b0 : decide (0 ≤ x11_2) = false := decide_eq_false c24
       clear c24
       obtain ⟨t192, A67, H⟩ := bo H
       try dsimp only at H
       obtain ⟨⟨t195, t196⟩, A68, H⟩ := bo H
       try dsimp only at H
       obtain ⟨t199, A69, H⟩ := bo H
       try dsimp only at H
       simp only [Option.some.injEq, Prod.mk.injEq] at H
       obtain ⟨rfl, rfl⟩ := H
       go_wp2_with (first | (go_at_call 158; (with_reducible refine (decimal_pieces_trim.calls k2 (fun k_ => some k_ = (.slice Ao21 x7_2.length co21 : Value).ownBlock) (.slice Ao21 x7_2.length co21) x7_2 t192 w _ ?s1 ?s2 A67.out).mono ?_); (case s1 => repeat (first | (with_reducible first | exact HB.out | apply below_alloc | apply pw_below_drewN | apply below_drew1) | exact HB.out)); (case s2 => exact Kd.R_tight rfl HO_7.out); rintro e w70 ⟨v193, rfl, ho0, hb, hkp⟩; have n0_ := am (Kd.R_mono (ok' := fun k_ => some k_ ≠ (v190 : Value).ownBlock ∧ some k_ ≠ (v193 : Value).ownBlock) (Kd.R_keptB (HO_8.out) hkp (fun k_ hk_ hs_ => (hk_.1) hs_)) (fun k_ hk_ => ⟨hk_.1.2, fun e_ => Or.elim (ho0.1 k_ e_.symm) (fun hs_ => hk_.2.1 hs_) (fun hn_ => Nat.not_le.2 hk_.2.2 hn_)⟩)); have n1_ := am (Kd.R_mono (ok' := fun k_ => some k_ ≠ (.slice Ao13 t183.length co13 : Value).ownBlock ∧ some k_ ≠ (v193 : Value).ownBlock) (Kd.R_keptB (HO_10.out) hkp (fun k_ hk_ hs_ => (hk_.1) hs_)) (fun k_ hk_ => ⟨hk_.1.2, fun e_ => Or.elim (ho0.1 k_ e_.symm) (fun hs_ => hk_.2.1 hs_) (fun hn_ => Nat.not_le.2 hk_.2.2 hn_)⟩)); have n2_ := am (Kd.R_mono (ok' := fun k_ => some k_ ≠ (.slice Ao13 t183.length co13 : Value).ownBlock ∧ some k_ ≠ (v190 : Value).ownBlock) ho0 (fun k_ hk_ => ⟨Or.elim hk_ (fun hs_ => fun e_ => (((HO_8.out).1 k_ e_.symm).1) hs_) (fun hn_ => (Kd.fresh' (Kd.R_lt (kr HO_8)) k_ hn_)), Or.elim hk_ (fun hs_ => fun e_ => (((HO_10.out).1 k_ e_.symm).1) hs_) (fun hn_ => (Kd.fresh' (Kd.R_lt (kr HO_10)) k_ hn_))⟩)); have n3_ := am (hb); clear HO_8; clear HO_10; clear HB; clear HO_7; have HO_8 := n0_; have HO_10 := n1_; have HO194 := n2_; have HB := n3_; clear n0_ n1_ n2_ n3_; (try clear hb); (try clear hkp); (try clear ho0); obtain ⟨Ao71, co71, eo71⟩ := Kd.R_slice HO194.out; subst eo71) | (go_at_call 155; (with_reducible refine (decimal_pieces_small.calls k2 _ _ t192 (IntKind.u64.wrap (Int.tdiv (1000000000 : Int) (IntKind.u64.wrap ((rd l1 (ji3)) + 1)))) t195 t196 _ ?s1 ?s2 A68.out).mono ?_); (case s1 => exact cR HO194); (case s2 => exact (Kd.R_reads' HO194.out).2.1); rintro e w72 ⟨v197, rfl, ho0, hb⟩; have HO198 := am (Kd.R_lower (Kd.R_new' (Kd.R_new' (Kd.R_new' ho0 (Kd.R_lt (kr HO_8))) (Kd.R_lt (kr HO_10))) (Kd.R_lt (kr HO194))) (below_size (bl HB))); replace HO_8 := am (Kd.R_elder' (kr HO_8) (Kd.R_base ho0) hb); replace HO_10 := am (Kd.R_elder' (kr HO_10) (Kd.R_base ho0) hb); replace HO194 := am (Kd.R_elder' (kr HO194) (Kd.R_base ho0) hb); replace HB := bs HB hb; (try clear hb); (try clear ho0); obtain ⟨Ao73, co73, eo73⟩ := Kd.R_slice HO_10.out; subst eo73) | (go_at_call 158; (with_reducible refine (decimal_pieces_trim.calls k2 (fun k_ => some k_ = (.slice Ao73 x10_2.length co73 : Value).ownBlock) (.slice Ao73 x10_2.length co73) x10_2 t199 w _ ?s1 ?s2 A69.out).mono ?_); (case s1 => repeat (first | (with_reducible first | exact HB.out | apply below_alloc | apply pw_below_drewN | apply below_drew1) | exact HB.out)); (case s2 => exact Kd.R_tight rfl HO_10.out); rintro e w74 ⟨v200, rfl, ho0, hb, hkp⟩; have n0_ := am (Kd.R_mono (ok' := fun k_ => some k_ ≠ (.slice Ao71 t192.length co71 : Value).ownBlock ∧ some k_ ≠ (v197 : Value).ownBlock ∧ some k_ ≠ (v200 : Value).ownBlock) (Kd.R_keptB (HO_8.out) hkp (fun k_ hk_ hs_ => (hk_.1.1) hs_)) (fun k_ hk_ => ⟨hk_.1.1.2, hk_.1.2, fun e_ => Or.elim (ho0.1 k_ e_.symm) (fun hs_ => hk_.2.1 hs_) (fun hn_ => Nat.not_le.2 hk_.2.2 hn_)⟩)); have n1_ := am (Kd.R_mono (ok' := fun k_ => some k_ ≠ (.slice Ao13 t183.length co13 : Value).ownBlock ∧ some k_ ≠ (v197 : Value).ownBlock ∧ some k_ ≠ (v200 : Value).ownBlock) (Kd.R_keptB (HO194.out) hkp (fun k_ hk_ hs_ => (hk_.1.2) hs_)) (fun k_ hk_ => ⟨hk_.1.1.1, hk_.1.2, fun e_ => Or.elim (ho0.1 k_ e_.symm) (fun hs_ => hk_.2.1 hs_) (fun hn_ => Nat.not_le.2 hk_.2.2 hn_)⟩)); have n2_ := am (Kd.R_mono (ok' := fun k_ => some k_ ≠ (.slice Ao13 t183.length co13 : Value).ownBlock ∧ some k_ ≠ (.slice Ao71 t192.length co71 : Value).ownBlock ∧ some k_ ≠ (v200 : Value).ownBlock) (Kd.R_keptB (HO198.out) hkp (fun k_ hk_ hs_ => (hk_.1.2) hs_)) (fun k_ hk_ => ⟨hk_.1.1.1.2, hk_.1.2, fun e_ => Or.elim (ho0.1 k_ e_.symm) (fun hs_ => hk_.2.1 hs_) (fun hn_ => Nat.not_le.2 hk_.2.2 hn_)⟩)); have n3_ := am (Kd.R_mono (ok' := fun k_ => some k_ ≠ (.slice Ao13 t183.length co13 : Value).ownBlock ∧ some k_ ≠ (.slice Ao71 t192.length co71 : Value).ownBlock ∧ some k_ ≠ (v197 : Value).ownBlock) ho0 (fun k_ hk_ => ⟨Or.elim hk_ (fun hs_ => fun e_ => (((HO_8.out).1 k_ e_.symm).1.1) hs_) (fun hn_ => (Kd.fresh' (Kd.R_lt (kr HO_8)) k_ hn_)), Or.elim hk_ (fun hs_ => fun e_ => (((HO194.out).1 k_ e_.symm).1.2) hs_) (fun hn_ => (Kd.fresh' (Kd.R_lt (kr HO194)) k_ hn_)), Or.elim hk_ (fun hs_ => fun e_ => (((HO198.out).1 k_ e_.symm).1.2) hs_) (fun hn_ => (Kd.fresh' (Kd.R_lt (kr HO198)) k_ hn_))⟩)); have n4_ := am (hb); clear HO_8; clear HO194; clear HO198; clear HB; clear HO_10; have HO_8 := n0_; have HO194 := n1_; have HO198 := n2_; have HO201 := n3_; have HB := n4_; clear n0_ n1_ n2_ n3_ n4_; (try clear hb); (try clear hkp); (try clear ho0)))
       repeat (go_quiet (first | (go_at_call 158; (with_reducible refine (decimal_pieces_trim.calls k2 (fun k_ => some k_ = (.slice Ao21 x7_2.length co21 : Value).ownBlock) (.slice Ao21 x7_2.length co21) x7_2 t192 w _ ?s1 ?s2 A67.out).mono ?_); (case s1 => repeat (first | (with_reducible first | exact HB.out | apply below_alloc | apply pw_below_drewN | apply below_drew1) | exact HB.out)); (case s2 => exact Kd.R_tight rfl HO_7.out); rintro e w70 ⟨v193, rfl, ho0, hb, hkp⟩; have n0_ := am (Kd.R_mono (ok' := fun k_ => some k_ ≠ (v190 : Value).ownBlock ∧ some k_ ≠ (v193 : Value).ownBlock) (Kd.R_keptB (HO_8.out) hkp (fun k_ hk_ hs_ => (hk_.1) hs_)) (fun k_ hk_ => ⟨hk_.1.2, fun e_ => Or.elim (ho0.1 k_ e_.symm) (fun hs_ => hk_.2.1 hs_) (fun hn_ => Nat.not_le.2 hk_.2.2 hn_)⟩)); have n1_ := am (Kd.R_mono (ok' := fun k_ => some k_ ≠ (.slice Ao13 t183.length co13 : Value).ownBlock ∧ some k_ ≠ (v193 : Value).ownBlock) (Kd.R_keptB (HO_10.out) hkp (fun k_ hk_ hs_ => (hk_.1) hs_)) (fun k_ hk_ => ⟨hk_.1.2, fun e_ => Or.elim (ho0.1 k_ e_.symm) (fun hs_ => hk_.2.1 hs_) (fun hn_ => Nat.not_le.2 hk_.2.2 hn_)⟩)); have n2_ := am (Kd.R_mono (ok' := fun k_ => some k_ ≠ (.slice Ao13 t183.length co13 : Value).ownBlock ∧ some k_ ≠ (v190 : Value).ownBlock) ho0 (fun k_ hk_ => ⟨Or.elim hk_ (fun hs_ => fun e_ => (((HO_8.out).1 k_ e_.symm).1) hs_) (fun hn_ => (Kd.fresh' (Kd.R_lt (kr HO_8)) k_ hn_)), Or.elim hk_ (fun hs_ => fun e_ => (((HO_10.out).1 k_ e_.symm).1) hs_) (fun hn_ => (Kd.fresh' (Kd.R_lt (kr HO_10)) k_ hn_))⟩)); have n3_ := am (hb); clear HO_8; clear HO_10; clear HB; clear HO_7; have HO_8 := n0_; have HO_10 := n1_; have HO194 := n2_; have HB := n3_; clear n0_ n1_ n2_ n3_; (try clear hb); (try clear hkp); (try clear ho0); obtain ⟨Ao71, co71, eo71⟩ := Kd.R_slice HO194.out; subst eo71) | (go_at_call 155; (with_reducible refine (decimal_pieces_small.calls k2 _ _ t192 (IntKind.u64.wrap (Int.tdiv (1000000000 : Int) (IntKind.u64.wrap ((rd l1 (ji3)) + 1)))) t195 t196 _ ?s1 ?s2 A68.out).mono ?_); (case s1 => exact cR HO194); (case s2 => exact (Kd.R_reads' HO194.out).2.1); rintro e w72 ⟨v197, rfl, ho0, hb⟩; have HO198 := am (Kd.R_lower (Kd.R_new' (Kd.R_new' (Kd.R_new' ho0 (Kd.R_lt (kr HO_8))) (Kd.R_lt (kr HO_10))) (Kd.R_lt (kr HO194))) (below_size (bl HB))); replace HO_8 := am (Kd.R_elder' (kr HO_8) (Kd.R_base ho0) hb); replace HO_10 := am (Kd.R_elder' (kr HO_10) (Kd.R_base ho0) hb); replace HO194 := am (Kd.R_elder' (kr HO194) (Kd.R_base ho0) hb); replace HB := bs HB hb; (try clear hb); (try clear ho0); obtain ⟨Ao73, co73, eo73⟩ := Kd.R_slice HO_10.out; subst eo73) | (go_at_call 158; (with_reducible refine (decimal_pieces_trim.calls k2 (fun k_ => some k_ = (.slice Ao73 x10_2.length co73 : Value).ownBlock) (.slice Ao73 x10_2.length co73) x10_2 t199 w _ ?s1 ?s2 A69.out).mono ?_); (case s1 => repeat (first | (with_reducible first | exact HB.out | apply below_alloc | apply pw_below_drewN | apply below_drew1) | exact HB.out)); (case s2 => exact Kd.R_tight rfl HO_10.out); rintro e w74 ⟨v200, rfl, ho0, hb, hkp⟩; have n0_ := am (Kd.R_mono (ok' := fun k_ => some k_ ≠ (.slice Ao71 t192.length co71 : Value).ownBlock ∧ some k_ ≠ (v197 : Value).ownBlock ∧ some k_ ≠ (v200 : Value).ownBlock) (Kd.R_keptB (HO_8.out) hkp (fun k_ hk_ hs_ => (hk_.1.1) hs_)) (fun k_ hk_ => ⟨hk_.1.1.2, hk_.1.2, fun e_ => Or.elim (ho0.1 k_ e_.symm) (fun hs_ => hk_.2.1 hs_) (fun hn_ => Nat.not_le.2 hk_.2.2 hn_)⟩)); have n1_ := am (Kd.R_mono (ok' := fun k_ => some k_ ≠ (.slice Ao13 t183.length co13 : Value).ownBlock ∧ some k_ ≠ (v197 : Value).ownBlock ∧ some k_ ≠ (v200 : Value).ownBlock) (Kd.R_keptB (HO194.out) hkp (fun k_ hk_ hs_ => (hk_.1.2) hs_)) (fun k_ hk_ => ⟨hk_.1.1.1, hk_.1.2, fun e_ => Or.elim (ho0.1 k_ e_.symm) (fun hs_ => hk_.2.1 hs_) (fun hn_ => Nat.not_le.2 hk_.2.2 hn_)⟩)); have n2_ := am (Kd.R_mono (ok' := fun k_ => some k_ ≠ (.slice Ao13 t183.length co13 : Value).ownBlock ∧ some k_ ≠ (.slice Ao71 t192.length co71 : Value).ownBlock ∧ some k_ ≠ (v200 : Value).ownBlock) (Kd.R_keptB (HO198.out) hkp (fun k_ hk_ hs_ => (hk_.1.2) hs_)) (fun k_ hk_ => ⟨hk_.1.1.1.2, hk_.1.2, fun e_ => Or.elim (ho0.1 k_ e_.symm) (fun hs_ => hk_.2.1 hs_) (fun hn_ => Nat.not_le.2 hk_.2.2 hn_)⟩)); have n3_ := am (Kd.R_mono (ok' := fun k_ => some k_ ≠ (.slice Ao13 t183.length co13 : Value).ownBlock ∧ some k_ ≠ (.slice Ao71 t192.length co71 : Value).ownBlock ∧ some k_ ≠ (v197 : Value).ownBlock) ho0 (fun k_ hk_ => ⟨Or.elim hk_ (fun hs_ => fun e_ => (((HO_8.out).1 k_ e_.symm).1.1) hs_) (fun hn_ => (Kd.fresh' (Kd.R_lt (kr HO_8)) k_ hn_)), Or.elim hk_ (fun hs_ => fun e_ => (((HO194.out).1 k_ e_.symm).1.2) hs_) (fun hn_ => (Kd.fresh' (Kd.R_lt (kr HO194)) k_ hn_)), Or.elim hk_ (fun hs_ => fun e_ => (((HO198.out).1 k_ e_.symm).1.2) hs_) (fun hn_ => (Kd.fresh' (Kd.R_lt (kr HO198)) k_ hn_))⟩)); have n4_ := am (hb); clear HO_8; clear HO194; clear HO198; clear HB; clear HO_10; have HO_8 := n0_; have HO194 := n1_; have HO198 := n2_; have HO201 := n3_; have HB := n4_; clear n0_ n1_ n2_ n3_ n4_; (try clear hb); (try clear hkp); (try clear ho0))); try go_wp2_with (first | (go_at_call 158; (with_reducible refine (decimal_pieces_trim.calls k2 (fun k_ => some k_ = (.slice Ao21 x7_2.length co21 : Value).ownBlock) (.slice Ao21 x7_2.length co21) x7_2 t192 w _ ?s1 ?s2 A67.out).mono ?_); (case s1 => repeat (first | (with_reducible first | exact HB.out | apply below_alloc | apply pw_below_drewN | apply below_drew1) | exact HB.out)); (case s2 => exact Kd.R_tight rfl HO_7.out); rintro e w70 ⟨v193, rfl, ho0, hb, hkp⟩; have n0_ := am (Kd.R_mono (ok' := fun k_ => some k_ ≠ (v190 : Value).ownBlock ∧ some k_ ≠ (v193 : Value).ownBlock) (Kd.R_keptB (HO_8.out) hkp (fun k_ hk_ hs_ => (hk_.1) hs_)) (fun k_ hk_ => ⟨hk_.1.2, fun e_ => Or.elim (ho0.1 k_ e_.symm) (fun hs_ => hk_.2.1 hs_) (fun hn_ => Nat.not_le.2 hk_.2.2 hn_)⟩)); have n1_ := am (Kd.R_mono (ok' := fun k_ => some k_ ≠ (.slice Ao13 t183.length co13 : Value).ownBlock ∧ some k_ ≠ (v193 : Value).ownBlock) (Kd.R_keptB (HO_10.out) hkp (fun k_ hk_ hs_ => (hk_.1) hs_)) (fun k_ hk_ => ⟨hk_.1.2, fun e_ => Or.elim (ho0.1 k_ e_.symm) (fun hs_ => hk_.2.1 hs_) (fun hn_ => Nat.not_le.2 hk_.2.2 hn_)⟩)); have n2_ := am (Kd.R_mono (ok' := fun k_ => some k_ ≠ (.slice Ao13 t183.length co13 : Value).ownBlock ∧ some k_ ≠ (v190 : Value).ownBlock) ho0 (fun k_ hk_ => ⟨Or.elim hk_ (fun hs_ => fun e_ => (((HO_8.out).1 k_ e_.symm).1) hs_) (fun hn_ => (Kd.fresh' (Kd.R_lt (kr HO_8)) k_ hn_)), Or.elim hk_ (fun hs_ => fun e_ => (((HO_10.out).1 k_ e_.symm).1) hs_) (fun hn_ => (Kd.fresh' (Kd.R_lt (kr HO_10)) k_ hn_))⟩)); have n3_ := am (hb); clear HO_8; clear HO_10; clear HB; clear HO_7; have HO_8 := n0_; have HO_10 := n1_; have HO194 := n2_; have HB := n3_; clear n0_ n1_ n2_ n3_; (try clear hb); (try clear hkp); (try clear ho0); obtain ⟨Ao71, co71, eo71⟩ := Kd.R_slice HO194.out; subst eo71) | (go_at_call 155; (with_reducible refine (decimal_pieces_small.calls k2 _ _ t192 (IntKind.u64.wrap (Int.tdiv (1000000000 : Int) (IntKind.u64.wrap ((rd l1 (ji3)) + 1)))) t195 t196 _ ?s1 ?s2 A68.out).mono ?_); (case s1 => exact cR HO194); (case s2 => exact (Kd.R_reads' HO194.out).2.1); rintro e w72 ⟨v197, rfl, ho0, hb⟩; have HO198 := am (Kd.R_lower (Kd.R_new' (Kd.R_new' (Kd.R_new' ho0 (Kd.R_lt (kr HO_8))) (Kd.R_lt (kr HO_10))) (Kd.R_lt (kr HO194))) (below_size (bl HB))); replace HO_8 := am (Kd.R_elder' (kr HO_8) (Kd.R_base ho0) hb); replace HO_10 := am (Kd.R_elder' (kr HO_10) (Kd.R_base ho0) hb); replace HO194 := am (Kd.R_elder' (kr HO194) (Kd.R_base ho0) hb); replace HB := bs HB hb; (try clear hb); (try clear ho0); obtain ⟨Ao73, co73, eo73⟩ := Kd.R_slice HO_10.out; subst eo73) | (go_at_call 158; (with_reducible refine (decimal_pieces_trim.calls k2 (fun k_ => some k_ = (.slice Ao73 x10_2.length co73 : Value).ownBlock) (.slice Ao73 x10_2.length co73) x10_2 t199 w _ ?s1 ?s2 A69.out).mono ?_); (case s1 => repeat (first | (with_reducible first | exact HB.out | apply below_alloc | apply pw_below_drewN | apply below_drew1) | exact HB.out)); (case s2 => exact Kd.R_tight rfl HO_10.out); rintro e w74 ⟨v200, rfl, ho0, hb, hkp⟩; have n0_ := am (Kd.R_mono (ok' := fun k_ => some k_ ≠ (.slice Ao71 t192.length co71 : Value).ownBlock ∧ some k_ ≠ (v197 : Value).ownBlock ∧ some k_ ≠ (v200 : Value).ownBlock) (Kd.R_keptB (HO_8.out) hkp (fun k_ hk_ hs_ => (hk_.1.1) hs_)) (fun k_ hk_ => ⟨hk_.1.1.2, hk_.1.2, fun e_ => Or.elim (ho0.1 k_ e_.symm) (fun hs_ => hk_.2.1 hs_) (fun hn_ => Nat.not_le.2 hk_.2.2 hn_)⟩)); have n1_ := am (Kd.R_mono (ok' := fun k_ => some k_ ≠ (.slice Ao13 t183.length co13 : Value).ownBlock ∧ some k_ ≠ (v197 : Value).ownBlock ∧ some k_ ≠ (v200 : Value).ownBlock) (Kd.R_keptB (HO194.out) hkp (fun k_ hk_ hs_ => (hk_.1.2) hs_)) (fun k_ hk_ => ⟨hk_.1.1.1, hk_.1.2, fun e_ => Or.elim (ho0.1 k_ e_.symm) (fun hs_ => hk_.2.1 hs_) (fun hn_ => Nat.not_le.2 hk_.2.2 hn_)⟩)); have n2_ := am (Kd.R_mono (ok' := fun k_ => some k_ ≠ (.slice Ao13 t183.length co13 : Value).ownBlock ∧ some k_ ≠ (.slice Ao71 t192.length co71 : Value).ownBlock ∧ some k_ ≠ (v200 : Value).ownBlock) (Kd.R_keptB (HO198.out) hkp (fun k_ hk_ hs_ => (hk_.1.2) hs_)) (fun k_ hk_ => ⟨hk_.1.1.1.2, hk_.1.2, fun e_ => Or.elim (ho0.1 k_ e_.symm) (fun hs_ => hk_.2.1 hs_) (fun hn_ => Nat.not_le.2 hk_.2.2 hn_)⟩)); have n3_ := am (Kd.R_mono (ok' := fun k_ => some k_ ≠ (.slice Ao13 t183.length co13 : Value).ownBlock ∧ some k_ ≠ (.slice Ao71 t192.length co71 : Value).ownBlock ∧ some k_ ≠ (v197 : Value).ownBlock) ho0 (fun k_ hk_ => ⟨Or.elim hk_ (fun hs_ => fun e_ => (((HO_8.out).1 k_ e_.symm).1.1) hs_) (fun hn_ => (Kd.fresh' (Kd.R_lt (kr HO_8)) k_ hn_)), Or.elim hk_ (fun hs_ => fun e_ => (((HO194.out).1 k_ e_.symm).1.2) hs_) (fun hn_ => (Kd.fresh' (Kd.R_lt (kr HO194)) k_ hn_)), Or.elim hk_ (fun hs_ => fun e_ => (((HO198.out).1 k_ e_.symm).1.2) hs_) (fun hn_ => (Kd.fresh' (Kd.R_lt (kr HO198)) k_ hn_))⟩)); have n4_ := am (hb); clear HO_8; clear HO194; clear HO198; clear HB; clear HO_10; have HO_8 := n0_; have HO194 := n1_; have HO198 := n2_; have HO201 := n3_; have HB := n4_; clear n0_ n1_ n2_ n3_ n4_; (try clear hb); (try clear hkp); (try clear ho0))))
       go_ret2
       exact ⟨_, _, by first | rfl | (simp [errW_none, errW_some] <;> rfl) | (simp only [← hji3, ← hji18]; first | rfl | (simp [errW_none, errW_some] <;> rfl)) | (simp [*, errW_none, errW_some] <;> rfl), by (with_reducible repeat (first | apply Kd.R_alloc | apply Kd.R_drewN | apply Kd.R_drew)); exact Kd.R_mono HO201.out (fun _ hk => hk.2.2), by (with_reducible repeat (first | apply Kd.R_alloc | apply Kd.R_drewN | apply Kd.R_drew)); exact Kd.R_mono HO198.out (fun _ hk => hk.2.2), bl HB⟩
end Go.Proofs.YtailoobjgbldgaaGreatDoor.P
end
section
namespace Go.Proofs.YtailoobjgbldgaaGreatDoor.Val
open Go Go.Lib Go.RowKit Go.Proofs.YtailoobjgbldgaaGreatDoor.P Go.Proofs.YtailoobjgbldgaaGreatDoorW.PrintWords Go.Proofs.YtailoobjgbldgaaGreatDoorW.PrintLast Go.Proofs.YtailoobjgbldgaaGreatDoorW.PrintMore
set_option linter.unusedSimpArgs false
set_option linter.unusedVariables false
theorem compare_loop {xs ys : List Int} (hx : Dig xs) (hy : Dig ys) (hl : xs.length = ys.length) (hb : xs.length ≤ 1000000000000) : ∀ j : Nat, j ≤ xs.length → val (xs.drop j) = val (ys.drop j) →
    Evt (fun k => decimal_pieces_compare.l0 k xs ys ((j : Int) - 1)) (if val xs < val ys then -1 else if val ys < val xs then 1 else 0) := by
  intro j
  induction j with
  | zero =>
    intro _ h
    refine (Evt.const _).step fun k => ?_
    rw [decimal_pieces_compare.l0, if_neg (by omega)]
    simp only [List.drop_zero] at h
    rw [if_neg (by omega), if_neg (by omega)]
  | succ j ih =>
    intro hj h
    have e : (((j + 1 : Nat) : Int) - 1) = (j : Int) := by omega
    rw [e]
    by_cases h1 : gt xs j < gt ys j
    · have := val_lt_of_last hx hy (k := j) (by omega) (by omega) h1 h
      rw [if_pos this]
      refine (Evt.const _).step fun k => ?_
      rw [decimal_pieces_compare.l0, if_pos (by omega), if_pos (by omega), if_pos (by omega), if_pos (by omega), rd_gt, rd_gt, if_pos h1]
    by_cases h2 : gt ys j < gt xs j
    · have := val_lt_of_last hy hx (k := j) (by omega) (by omega) h2 h.symm
      rw [if_neg (by omega), if_pos this]
      refine (Evt.const _).step fun k => ?_
      rw [decimal_pieces_compare.l0, if_pos (by omega), if_pos (by omega), if_pos (by omega), if_pos (by omega), rd_gt, rd_gt, if_neg h1, if_pos h2]
    · have := ih (by omega) (by rw [val_drop, val_drop ys, h]; omega)
      refine this.step fun k => ?_
      rw [decimal_pieces_compare.l0, if_pos (by omega), if_pos (by omega), if_pos (by omega), if_pos (by omega), rd_gt, rd_gt, if_neg h1, if_neg (by omega), w64 (by omega) (by omega)]
theorem compare_is (m n : Nat) (hm : (digs m).length ≤ 1000000000000) (hn : (digs n).length ≤ 1000000000000) :
    Evt (fun k => decimal_pieces_compare.f k (digs m) (digs n)) (if m < n then -1 else if n < m then 1 else 0) := by
  by_cases h : (digs m).length = (digs n).length
  · have := compare_loop (digs_dig m) (digs_dig n) h hm _ (Nat.le_refl _) (by rw [List.drop_length, h, List.drop_length])
    rw [val_digs, val_digs] at this
    have e : (if (m : Int) < (n : Int) then (-1 : Int) else if (n : Int) < (m : Int) then 1 else 0) = (if m < n then -1 else if n < m then 1 else 0) := by
      split <;> split <;> (try split) <;> (try split) <;> omega
    rw [e] at this
    refine this.congr fun k => ?_
    unfold decimal_pieces_compare.f
    rw [if_pos (by omega), w64 (by omega) (by omega)]
  · refine (Evt.const _).congr fun k => ?_
    unfold decimal_pieces_compare.f
    rw [if_neg (by omega), w64 (by omega) (by omega)]
    rcases Nat.lt_or_ge (digs m).length (digs n).length with hlt | hge
    · have := digs_lt_of_length hlt
      rw [if_pos this]
      unfold mn mx
      congr 1
      split <;> split <;> omega
    · have := digs_lt_of_length (show (digs n).length < (digs m).length by omega)
      rw [if_neg (by omega), if_pos this]
      unfold mn mx
      congr 1
      split <;> split <;> omega
theorem tdiv_pos {a b : Int} (h : 0 ≤ a) : Int.tdiv a b = a / b := Int.tdiv_eq_ediv_of_nonneg h
theorem tmod_pos {a b : Int} (h : 0 ≤ a) : Int.tmod a b = a % b := Int.tmod_eq_emod_of_nonneg h
theorem drop_set_lt (xs : List Int) (i j : Nat) (v : Int) (h : i < j) : (xs.set i v).drop j = xs.drop j := by
  apply List.ext_getElem?
  intro t
  rw [List.getElem?_drop, List.getElem?_drop, List.getElem?_set_ne (by omega)]
theorem small_loop {xs : List Int} {n : Int} (hx : Dig xs) (hn : 0 < n) (hn9 : n ≤ 1000000000) (hb : xs.length ≤ 1000000000000) : ∀ (j : Nat) (out : List Int) (rest : Int), j ≤ xs.length → out.length = xs.length → Dig out → 0 ≤ rest → rest < n →
    val (xs.drop j) = n * val (out.drop j) + rest → Evt (fun k => decimal_pieces_small.l0 k xs n out rest ((j : Int) - 1)) (digs (val xs / n).toNat, val xs % n) := by
  intro j
  induction j with
  | zero =>
    intro out rest _ hl hd h0 h1 h
    simp only [List.drop_zero] at h
    have e1 : val xs / n = val out := by
      rw [h, Int.add_comm, Int.add_mul_ediv_left _ _ (by omega), Int.ediv_eq_zero_of_lt h0 h1]; omega
    have e2 : val xs % n = rest := by
      rw [h, Int.add_comm, Int.add_mul_emod_self_left, Int.emod_eq_of_lt h0 h1]
    rw [e1, e2]
    refine ((trim_val (by omega) hd).bind1 (h := fun t => some (t, rest)) rfl).step fun k => ?_
    rw [decimal_pieces_small.l0, if_neg (by omega)]
  | succ j ih =>
    intro out rest hj hl hd h0 h1 h
    have hg := hx.gt j
    have e : (((j + 1 : Nat) : Int) - 1) = (j : Int) := by omega
    rw [e]
    obtain ⟨t, ht⟩ : ∃ t, t = rest * 1000000000 + gt xs j := ⟨_, rfl⟩
    have hq := Int.mul_ediv_add_emod t n
    have hr0 := Int.emod_nonneg t (show n ≠ 0 by omega)
    have hr1 := Int.emod_lt_of_pos t hn
    have hq0 : 0 ≤ t / n := Int.ediv_nonneg (by omega) (by omega)
    have hq1 : t / n < 1000000000 := Int.ediv_lt_of_lt_mul hn (by omega)
    have := ih (out.set j (t / n)) (t % n) (by omega) (by simpa using hl) (hd.set ⟨hq0, hq1⟩) hr0 hr1 (by
      rw [val_drop xs, val_drop (out.set j (t / n)), gt_set_self _ (by omega), drop_set_lt _ _ _ _ (by omega), h]
      have e3 : n * (t / n + 1000000000 * val (out.drop (j + 1))) = n * (t / n) + 1000000000 * (n * val (out.drop (j + 1))) := by grind
      omega)
    refine this.step fun k => ?_
    have w1 : IntKind.u64.wrap (rest * 1000000000) = rest * 1000000000 := u64 (by omega) (by omega)
    have w2 : IntKind.u64.wrap (rest * 1000000000 + gt xs j) = t := by rw [u64 (by omega) (by omega), ht]
    rw [decimal_pieces_small.l0, if_pos (by omega), if_pos (by omega), if_pos (by omega), if_neg (by omega), if_pos (by omega), rd_gt, w1, w2, tdiv_pos (by omega), tmod_pos (by omega), u64 (by omega) (by omega), w64 (by omega) (by omega), Int.toNat_natCast]
theorem small_is {xs : List Int} {n : Int} (hx : Dig xs) (hn : 0 < n) (hn9 : n ≤ 1000000000) (hb : xs.length ≤ 1000000000000) :
    Evt (fun k => decimal_pieces_small.f k xs n) (digs (val xs / n).toNat, val xs % n) := by
  have := small_loop hx hn hn9 hb xs.length (List.replicate xs.length 0) 0 (Nat.le_refl _) (by simp) (Dig.replicate _) (by omega) hn (by simp [val_nil])
  refine this.congr fun k => ?_
  unfold decimal_pieces_small.f
  rw [if_pos (by omega), if_pos (by omega), w64 (by omega) (by omega), Int.toNat_natCast]
theorem times_row {xs ys : List Int} {a V : Int} {i : Nat} {R : List Int} (hy : Dig ys) (ha : 0 ≤ a ∧ a < 1000000000) (hi : i < xs.length) (hb : xs.length + ys.length ≤ 1000000000000)
    (hnext : ∀ out, out.length = xs.length + ys.length → Dig out → val out = V + a * val ys * pw i → (∀ t, i + 1 + ys.length ≤ t → gt out t = 0) → Evt (fun k => decimal_pieces_times.l0 k ys out xs (xs.length : Int) ((i + 1 : Nat) : Int)) R) :
    ∀ (d j : Nat) (out : List Int) (carry : Int), j + d = ys.length → out.length = xs.length + ys.length → Dig out → 0 ≤ carry → carry < 1000000000 → val out + carry * pw (i + j) = V + a * val (ys.take j) * pw i → (∀ t, i + ys.length ≤ t → gt out t = 0) →
    Evt (fun k => decimal_pieces_times.l1 k ys out (i : Int) a carry xs (xs.length : Int) (i : Int) ys (ys.length : Int) (j : Int)) R := by
  intro d
  induction d with
  | zero =>
    intro j out carry hj hl hd hc0 hc1 hv hz
    obtain rfl : j = ys.length := by omega
    have := hnext (out.set (i + ys.length) carry) (by simpa using hl) (hd.set ⟨hc0, hc1⟩) (by
      rw [val_set _ _ _ (by omega), hz _ (Nat.le_refl _), Int.sub_zero]
      rw [List.take_length] at hv
      exact hv) (fun t ht => by rw [gt_set_ne _ (by omega)]; exact hz t (by omega))
    refine this.step fun k => ?_
    rw [decimal_pieces_times.l1, if_neg (by omega), w64 (by omega) (by omega), if_pos (by omega), if_pos (by omega), w64 (x := (i : Int) + 1) (by omega) (by omega)]
    rw [show ((i : Int) + (ys.length : Int)).toNat = i + ys.length by omega]
    rfl
  | succ d ih =>
    intro j out carry hj hl hd hc0 hc1 hv hz
    have hg := hy.gt j
    have ho := hd.gt (i + j)
    have hp0 : 0 ≤ a * gt ys j := Int.mul_nonneg ha.1 hg.1
    have hp1 : a * gt ys j ≤ 999999999 * 999999999 := Int.mul_le_mul (by omega) (by omega) hg.1 (by omega)
    obtain ⟨v, hv'⟩ : ∃ v, v = carry + (gt out (i + j) + a * gt ys j) := ⟨_, rfl⟩
    have := ih (j + 1) (out.set (i + j) (v % 1000000000)) (v / 1000000000) (by omega) (by simpa using hl) (hd.set (by omega)) (by omega) (by omega) (by
      rw [val_set _ _ _ (by omega), val_take_succ, show i + (j + 1) = i + j + 1 by omega, pw_succ]
      have e1 : a * (val (ys.take j) + gt ys j * pw j) * pw i = a * val (ys.take j) * pw i + a * gt ys j * pw (i + j) := by rw [pw_add]; grind
      have e2 : (v % 1000000000 - gt out (i + j)) * pw (i + j) + v / 1000000000 * (1000000000 * pw (i + j)) = (v - gt out (i + j)) * pw (i + j) := by
        have : v = 1000000000 * (v / 1000000000) + v % 1000000000 := by omega
        grind
      have e3 : (v - gt out (i + j)) * pw (i + j) = carry * pw (i + j) + a * gt ys j * pw (i + j) := by rw [hv']; grind
      omega) (fun t ht => by rw [gt_set_ne _ (by omega)]; exact hz t ht)
    refine this.step fun k => ?_
    have e : (i : Int) + (j : Int) = ((i + j : Nat) : Int) := by omega
    rw [decimal_pieces_times.l1, if_pos (by omega), if_pos (by omega), if_pos (by omega), w64 (x := (i : Int) + (j : Int)) (by omega) (by omega), if_pos (by omega), if_pos (by omega), e, rd_gt, rd_gt, Int.toNat_natCast]
    rw [u64 (x := a * gt ys j) (by omega) (by omega), u64 (x := gt out (i + j) + a * gt ys j) (by omega) (by omega), u64 (x := carry + (gt out (i + j) + a * gt ys j)) (by omega) (by omega), ← hv', tmod_pos (by omega), tdiv_pos (by omega), u64 (by omega) (by omega), w64 (by omega) (by omega)]
    rfl
theorem times_loop {xs ys : List Int} (hx : Dig xs) (hy : Dig ys) (hb : xs.length + ys.length ≤ 1000000000000) : ∀ (d i : Nat) (out : List Int), i + d = xs.length → out.length = xs.length + ys.length → Dig out → val out = val (xs.take i) * val ys → (∀ t, i + ys.length ≤ t → gt out t = 0) →
    Evt (fun k => decimal_pieces_times.l0 k ys out xs (xs.length : Int) (i : Int)) (digs (val xs * val ys).toNat) := by
  intro d
  induction d with
  | zero =>
    intro i out hi hl hd hv hz
    obtain rfl : i = xs.length := by omega
    rw [List.take_length] at hv
    rw [← hv]
    refine ((trim_val (by omega) hd).bind1 (h := some) rfl).step fun k => ?_
    rw [decimal_pieces_times.l0, if_neg (by omega)]
  | succ d ih =>
    intro i out hi hl hd hv hz
    have := times_row (V := val out) hy (hx.gt i) (by omega) hb (fun out' hl' hd' hv' hz' => ih (i + 1) out' (by omega) hl' hd' (by
      rw [hv', hv, val_take_succ]; grind) hz') ys.length 0 out 0 (by omega) hl hd (by omega) (by omega) (by simp [val_nil]) hz
    refine this.step fun k => ?_
    rw [decimal_pieces_times.l0, if_pos (by omega), if_pos (by omega), if_pos (by omega), rd_gt]
    rfl
theorem times_is {xs ys : List Int} (hx : Dig xs) (hy : Dig ys) (hb : xs.length + ys.length ≤ 1000000000000) : Evt (fun k => decimal_pieces_times.f k xs ys) (digs (val xs * val ys).toNat) := by
  have := times_loop hx hy hb xs.length 0 (List.replicate (xs.length + ys.length) 0) (by omega) (by simp) (Dig.replicate _) (by simp [val_replicate, val_nil]) (fun t _ => by
    by_cases h : t < xs.length + ys.length
    · rw [gt_eq (by simpa using h)]; simp
    · rw [gt_out (by simp; omega)])
  refine this.congr fun k => ?_
  unfold decimal_pieces_times.f
  rw [w64 (by omega) (by omega), if_pos (by omega), if_pos (by omega), show ((xs.length : Int) + (ys.length : Int)).toNat = xs.length + ys.length by omega]
  rfl
theorem scaled_is {xs : List Int} {n : Int} (hx : Dig xs) (hn : 0 ≤ n) (hn9 : n < 1000000000) (hb : xs.length ≤ 100000000000) : Evt (fun k => decimal_pieces_scaled.f k xs n) (digs (val xs * n).toNat) := by
  have hd : Dig [n] := fun y hy => by rw [List.mem_singleton.1 hy]; exact ⟨hn, hn9⟩
  have h1 := trim_val (xs := [n]) (by simp) hd
  have h2 := times_is hx (digs_dig (val [n]).toNat) (by
    have := digs_length_le (n := (val [n]).toNat) (k := 1) (by rw [val_cons, val_nil, show pw 1 = 1000000000 from rfl]; omega)
    omega)
  have e : val (digs (val [n]).toNat) = n := by rw [val_digs, val_cons, val_nil]; omega
  rw [e] at h2
  exact h1.bind (h := fun k t => (decimal_pieces_times.f k xs t).bind some) (h2.bind1 rfl)
theorem back_loop {p q : List Int} {at_ : Nat} (hq : Dig q) (hp : at_ + q.length < p.length) (hb : p.length ≤ 1000000000000) : ∀ (d j : Nat) (out : List Int) (carry : Int), j + d = q.length + 1 → out.length = p.length → Dig out → 0 ≤ carry → carry ≤ 1 → val out + carry * pw (at_ + j) = val p + val (q.take j) * pw at_ → (∀ t, at_ + j ≤ t → gt out t = gt p t) →
    ∃ p' c, Evt (fun k => decimal_pieces_back.l0 k out q (at_ : Int) carry (j : Int)) p' ∧ Dig p' ∧ p'.length = p.length ∧ 0 ≤ c ∧ c ≤ 1 ∧ val p' + c * pw (at_ + q.length + 1) = val p + val q * pw at_ ∧ ∀ t, at_ + q.length < t → gt p' t = gt p t := by
  intro d
  induction d with
  | zero =>
    intro j out carry hj hl hd hc0 hc1 hv hz
    obtain rfl : j = q.length + 1 := by omega
    refine ⟨out, carry, ?_, hd, hl, hc0, hc1, ?_, fun t ht => hz t (by omega)⟩
    · refine (Evt.const _).step fun k => ?_
      rw [decimal_pieces_back.l0, if_neg (by omega)]
    · rw [List.take_of_length_le (by omega)] at hv
      exact hv
  | succ d ih =>
    intro j out carry hj hl hd hc0 hc1 hv hz
    have hg := hq.gt j
    have ho := hd.gt (at_ + j)
    obtain ⟨v, hv'⟩ : ∃ v, v = carry + gt out (at_ + j) + gt q j := ⟨_, rfl⟩
    obtain ⟨p', c, h1, h2⟩ := ih (j + 1) (out.set (at_ + j) (v % 1000000000)) (v / 1000000000) (by omega) (by simpa using hl) (hd.set (by omega)) (by omega) (by omega) (by
      rw [val_set _ _ _ (by omega), val_take_succ, show at_ + (j + 1) = at_ + j + 1 by omega, pw_succ]
      have e1 : (val (q.take j) + gt q j * pw j) * pw at_ = val (q.take j) * pw at_ + gt q j * pw (at_ + j) := by rw [pw_add]; grind
      have e2 : (v % 1000000000 - gt out (at_ + j)) * pw (at_ + j) + v / 1000000000 * (1000000000 * pw (at_ + j)) = (v - gt out (at_ + j)) * pw (at_ + j) := by
        have : v = 1000000000 * (v / 1000000000) + v % 1000000000 := by omega
        grind
      have e3 : (v - gt out (at_ + j)) * pw (at_ + j) = carry * pw (at_ + j) + gt q j * pw (at_ + j) := by rw [hv']; grind
      omega) (fun t ht => by rw [gt_set_ne _ (by omega)]; exact hz t (by omega))
    refine ⟨p', c, h1.step fun k => ?_, h2⟩
    have e : (at_ : Int) + (j : Int) = ((at_ + j : Nat) : Int) := by omega
    rw [decimal_pieces_back.l0, if_pos (by omega), w64 (x := (at_ : Int) + (j : Int)) (by omega) (by omega), if_pos (by omega), if_pos (by omega), e, rd_gt, rd_gt, Int.toNat_natCast]
    rw [u64 (x := carry + gt out (at_ + j)) (by omega) (by omega), w64 (x := (j : Int) + 1) (by omega) (by omega)]
    by_cases hlt : (j : Int) < (q.length : Int)
    · rw [if_pos hlt, if_pos (by omega), u64 (x := carry + gt out (at_ + j) + gt q j) (by omega) (by omega), ← hv', tmod_pos (by omega), tdiv_pos (by omega), u64 (by omega) (by omega)]
      rfl
    · have h0 : gt q j = 0 := gt_out (by omega)
      have hv2 : carry + gt out (at_ + j) = v := by omega
      rw [if_neg hlt, hv2, tmod_pos (by omega), tdiv_pos (by omega), u64 (by omega) (by omega)]
      rfl
theorem back_is {p q : List Int} {at_ : Nat} (hpd : Dig p) (hq : Dig q) (hp : at_ + q.length < p.length) (hb : p.length ≤ 1000000000000) :
    ∃ p' c, Evt (fun k => decimal_pieces_back.f k p q (at_ : Int)) p' ∧ Dig p' ∧ p'.length = p.length ∧ 0 ≤ c ∧ c ≤ 1 ∧ val p' + c * pw (at_ + q.length + 1) = val p + val q * pw at_ ∧ ∀ t, at_ + q.length < t → gt p' t = gt p t :=
  back_loop hq hp hb (q.length + 1) 0 p 0 (by omega) rfl hpd (by omega) (by omega) (by simp [val_nil]) (fun _ _ => rfl)
theorem take_low {out q : List Int} {at_ j k : Nat} {g b carry v o r c u b' : Int} (hj : (j : Int) < (q.length : Int)) (h1 : 0 ≤ ((at_ + j : Nat) : Int)) (h2 : ((at_ + j : Nat) : Int) < (out.length : Int)) (h3 : (j : Int) ≤ (q.length : Int)) (h4 : 0 ≤ (j : Int))
    (w0 : wrap64 ((at_ : Int) + (j : Int)) = ((at_ + j : Nat) : Int)) (wj : wrap64 ((j : Int) + 1) = ((j + 1 : Nat) : Int)) (ho : gt out (at_ + j) = o) (wo : wrap64 o = o) (wp : IntKind.u64.wrap (g * gt q j) = g * gt q j) (wv : IntKind.u64.wrap (carry + g * gt q j) = v) (hr : Int.tmod v 1000000000 = r) (hc : Int.tdiv v 1000000000 = c) (wr : wrap64 r = r) (wc : IntKind.u64.wrap c = c)
    (w3 : wrap64 (o - r) = o - r) (w4 : wrap64 (o - r - b) = o - r - b) (hu : if o - r - b < 0 then b' = 1 ∧ IntKind.u64.wrap (wrap64 (o - r - b + 1000000000)) = u else b' = 0 ∧ IntKind.u64.wrap (o - r - b) = u) :
    decimal_pieces_take.l0 (k + 1) out q g (at_ : Int) b carry (j : Int) = decimal_pieces_take.l0 k (out.set (at_ + j) u) q g (at_ : Int) b' c ((j + 1 : Nat) : Int) := by
  rw [decimal_pieces_take.l0, if_pos h3, if_pos hj, if_pos h4, w0, if_pos h1, if_pos h2, rd_gt, rd_gt, Int.toNat_natCast, ho, wo, wp, wv, hr, hc, wr, wc, w3, w4, wj]
  by_cases hn : o - r - b < 0
  · rw [if_pos hn] at hu
    rw [if_pos hn, hu.2, hu.1]
  · rw [if_neg hn] at hu
    rw [if_neg hn, hu.2, hu.1]
theorem take_high {out q : List Int} {at_ j k : Nat} {g b v o r c u b' : Int} (hj : ¬ (j : Int) < (q.length : Int)) (h1 : 0 ≤ ((at_ + j : Nat) : Int)) (h2 : ((at_ + j : Nat) : Int) < (out.length : Int)) (h3 : (j : Int) ≤ (q.length : Int))
    (w0 : wrap64 ((at_ : Int) + (j : Int)) = ((at_ + j : Nat) : Int)) (wj : wrap64 ((j : Int) + 1) = ((j + 1 : Nat) : Int)) (ho : gt out (at_ + j) = o) (wo : wrap64 o = o) (hr : Int.tmod v 1000000000 = r) (hc : Int.tdiv v 1000000000 = c) (wr : wrap64 r = r) (wc : IntKind.u64.wrap c = c)
    (w3 : wrap64 (o - r) = o - r) (w4 : wrap64 (o - r - b) = o - r - b) (hu : if o - r - b < 0 then b' = 1 ∧ IntKind.u64.wrap (wrap64 (o - r - b + 1000000000)) = u else b' = 0 ∧ IntKind.u64.wrap (o - r - b) = u) :
    decimal_pieces_take.l0 (k + 1) out q g (at_ : Int) b v (j : Int) = decimal_pieces_take.l0 k (out.set (at_ + j) u) q g (at_ : Int) b' c ((j + 1 : Nat) : Int) := by
  rw [decimal_pieces_take.l0, if_pos h3, if_neg hj, w0, if_pos h1, if_pos h2, rd_gt, Int.toNat_natCast, ho, wo, hr, hc, wr, wc, w3, w4, wj]
  by_cases hn : o - r - b < 0
  · rw [if_pos hn] at hu
    rw [if_pos hn, hu.2, hu.1]
  · rw [if_neg hn] at hu
    rw [if_neg hn, hu.2, hu.1]
theorem take_digit {o r b : Int} (ho0 : 0 ≤ o) (ho1 : o < 1000000000) (hr0 : 0 ≤ r) (hr1 : r < 1000000000) (hb : b = 0 ∨ b = 1) : ∃ u b', (b' = 0 ∨ b' = 1) ∧ u = o - r - b + b' * 1000000000 ∧ 0 ≤ u ∧ u < 1000000000 ∧
    wrap64 (o - r) = o - r ∧ wrap64 (o - r - b) = o - r - b ∧ (if o - r - b < 0 then b' = 1 ∧ IntKind.u64.wrap (wrap64 (o - r - b + 1000000000)) = u else b' = 0 ∧ IntKind.u64.wrap (o - r - b) = u) := by
  have w1 : wrap64 (o - r) = o - r := w64 (by omega) (by omega)
  have w2 : wrap64 (o - r - b) = o - r - b := w64 (by omega) (by omega)
  by_cases hn : o - r - b < 0
  · refine ⟨o - r - b + 1000000000, 1, .inr rfl, by omega, by omega, by omega, w1, w2, ?_⟩
    rw [if_pos hn, w64 (by omega) (by omega), u64 (by omega) (by omega)]
    exact ⟨rfl, rfl⟩
  · refine ⟨o - r - b, 0, .inl rfl, by omega, by omega, by omega, w1, w2, ?_⟩
    rw [if_neg hn, u64 (by omega) (by omega)]
    exact ⟨rfl, rfl⟩
theorem take_value {V g t q pa pj B' b v r c o u b' out : Int} (hv : v = B' + g * q) (hvr : v = 1000000000 * c + r) (hu : u = o - r - b + b' * 1000000000) (h : out = V - g * t * pa + (B' + b) * (pa * pj)) :
    out + (u - o) * (pa * pj) = V - g * (t + q * pj) * pa + (c + b') * (1000000000 * (pa * pj)) := by
  have e : B' = 1000000000 * c + r - g * q := by omega
  subst hu
  subst h
  rw [e]
  grind
theorem w64j {j : Nat} (h : j ≤ 1000000000000) : wrap64 ((j : Int) + 1) = ((j + 1 : Nat) : Int) := (w64 (x := (j : Int) + 1) (by omega) (by omega)).trans (by omega)
theorem w64at {a j : Nat} (h : a + j ≤ 1000000000000) : wrap64 ((a : Int) + (j : Int)) = ((a + j : Nat) : Int) := (w64 (x := (a : Int) + (j : Int)) (by omega) (by omega)).trans (by omega)
theorem take_nums {g q carry : Int} (hg0 : 0 ≤ g) (hg1 : g < 1000000000) (hq : 0 ≤ q ∧ q < 1000000000) (hc0 : 0 ≤ carry) (hc1 : carry ≤ g) : ∃ v r c : Int, v = carry + g * q ∧ v = 1000000000 * c + r ∧ 0 ≤ r ∧ r < 1000000000 ∧ 0 ≤ c ∧ c ≤ g ∧ Int.tmod v 1000000000 = r ∧ Int.tdiv v 1000000000 = c ∧
    wrap64 r = r ∧ IntKind.u64.wrap c = c ∧ IntKind.u64.wrap (g * q) = g * q ∧ IntKind.u64.wrap (carry + g * q) = v ∧ (q = 0 → c = 0) := by
  have hp0 : 0 ≤ g * q := Int.mul_nonneg hg0 hq.1
  have hp1 : g * q ≤ g * 999999999 := Int.mul_le_mul_of_nonneg_left (by omega) hg0
  obtain ⟨v, hv'⟩ : ∃ v, v = carry + g * q := ⟨_, rfl⟩
  have hv0 : 0 ≤ v := by omega
  have hv1 : v ≤ g * 1000000000 := by omega
  refine ⟨v, v % 1000000000, v / 1000000000, hv', by omega, by omega, by omega, by omega, by omega, tmod_pos hv0, tdiv_pos hv0, w64 (by omega) (by omega), u64 (by omega) (by omega), u64 hp0 (by omega), by rw [← hv']; exact u64 hv0 (by omega), fun h0 => ?_⟩
  rw [h0, Int.mul_zero] at hv'
  omega
theorem take_loop {p q : List Int} {at_ : Nat} {g : Int} (hg0 : 0 ≤ g) (hg1 : g < 1000000000) (hq : Dig q) (hp : at_ + q.length < p.length) (hb : p.length ≤ 1000000000000) : ∀ (d j : Nat) (out : List Int) (b carry : Int), j + d = q.length + 1 → out.length = p.length → Dig out → 0 ≤ carry → carry ≤ g → (q.length < j → carry = 0) → b = 0 ∨ b = 1 → val out = val p - g * val (q.take j) * pw at_ + (carry + b) * pw (at_ + j) → (∀ t, at_ + j ≤ t → gt out t = gt p t) →
    ∃ p' c, Evt (fun k => decimal_pieces_take.l0 k out q g (at_ : Int) b carry (j : Int)) (decide (c > 0), p') ∧ Dig p' ∧ p'.length = p.length ∧ (c = 0 ∨ c = 1) ∧ val p' = val p - g * val q * pw at_ + c * pw (at_ + q.length + 1) ∧ ∀ t, at_ + q.length < t → gt p' t = gt p t := by
  intro d
  induction d with
  | zero =>
    intro j out b carry hj hl hd hc0 hc1 hce hbb hv hz
    obtain rfl : j = q.length + 1 := by omega
    refine ⟨out, b, ?_, hd, hl, hbb, ?_, fun t ht => hz t (by omega)⟩
    · refine (Evt.const _).step fun k => ?_
      rw [decimal_pieces_take.l0, if_neg (by omega)]
    · rw [List.take_of_length_le (by omega), hce (by omega), Int.zero_add] at hv
      exact hv
  | succ d ih =>
    intro j out b carry hj hl hd hc0 hc1 hce hbb hv hz
    have jb : j ≤ q.length := by clear hce hbb hv hz ih hc1 hc0; omega
    have jl : at_ + j < p.length := by clear hce hbb hv hz ih hc1 hc0; omega
    have j9 : at_ + j ≤ 1000000000000 := Nat.le_trans (Nat.le_of_lt jl) hb
    have j0 : j ≤ 1000000000000 := Nat.le_trans (Nat.le_add_left ..) j9
    have jd : j + 1 + d = q.length + 1 := by rw [← hj]; exact Nat.add_right_comm j 1 d
    have jt : ∀ t, at_ + (j + 1) ≤ t → at_ + j ≤ t ∧ at_ + j ≠ t := fun t ht => ⟨by clear hce hbb hv hz ih hc1 hc0; omega, by clear hce hbb hv hz ih hc1 hc0; omega⟩
    have jq : q.length < j + 1 → q.length ≤ j := Nat.le_of_lt_succ
    clear hp hb hj
    have i1 : at_ + j < out.length := by rw [hl]; exact jl
    have i2 : ((at_ + j : Nat) : Int) < (out.length : Int) := Int.ofNat_lt.2 i1
    have i3 : (j : Int) ≤ (q.length : Int) := Int.ofNat_le.2 jb
    have ho := hd.gt (at_ + j)
    obtain ⟨v, r, c, hv', hvr, hr0, hr1, hcc0, hcc1, tr, tc, wr, wc, wp, wv, hq0⟩ := take_nums hg0 hg1 (hq.gt j) hc0 hc1
    obtain ⟨u, b', hb2, hu, hu0, hu1, w3, w4, hif⟩ := take_digit ho.1 ho.2 hr0 hr1 hbb
    have hval : val (out.set (at_ + j) u) = val p - g * val (q.take (j + 1)) * pw at_ + (c + b') * pw (at_ + (j + 1)) := by
      rw [val_set _ _ _ i1, val_take_succ, show at_ + (j + 1) = at_ + j + 1 from rfl, pw_succ, pw_add]
      rw [pw_add] at hv
      exact take_value hv' hvr hu hv
    obtain ⟨p', c2, h1, h2⟩ := ih (j + 1) (out.set (at_ + j) u) b' c jd (by rw [List.length_set]; exact hl) (hd.set ⟨hu0, hu1⟩) hcc0 hcc1 (fun hj' => hq0 (gt_out (jq hj'))) hb2 hval (fun t ht => by rw [gt_set_ne _ (jt t ht).2]; exact hz t (jt t ht).1)
    refine ⟨p', c2, h1.step fun k => ?_, h2⟩
    have wo : wrap64 (gt out (at_ + j)) = gt out (at_ + j) := by clear hv hz hvr hv' hif hu hval tr tc w3 w4 ih hce hq0; exact w64 (by omega) (by omega)
    by_cases hlt : (j : Int) < (q.length : Int)
    · exact take_low hlt (Int.natCast_nonneg _) i2 i3 (Int.natCast_nonneg _) (w64at j9) (w64j j0) rfl wo wp wv tr tc wr wc w3 w4 hif
    · have h0 : gt q j = 0 := gt_out (Nat.not_lt.1 fun h => hlt (Int.ofNat_lt.2 h))
      rw [h0, Int.mul_zero, Int.add_zero] at hv'
      subst hv'
      exact take_high hlt (Int.natCast_nonneg _) i2 i3 (w64at j9) (w64j j0) rfl wo tr tc wr wc w3 w4 hif
theorem take_is {p q : List Int} {at_ : Nat} {g : Int} (hg0 : 0 ≤ g) (hg1 : g < 1000000000) (hpd : Dig p) (hq : Dig q) (hp : at_ + q.length < p.length) (hb : p.length ≤ 1000000000000) :
    ∃ p' c, Evt (fun k => decimal_pieces_take.f k p q g (at_ : Int)) (decide (c > 0), p') ∧ Dig p' ∧ p'.length = p.length ∧ (c = 0 ∨ c = 1) ∧ val p' = val p - g * val q * pw at_ + c * pw (at_ + q.length + 1) ∧ ∀ t, at_ + q.length < t → gt p' t = gt p t :=
  take_loop hg0 hg1 hq hp hb (q.length + 1) 0 p 0 0 (by omega) rfl hpd (by omega) hg0 (fun h => by omega) (.inl rfl) (by simp [val_nil]) (fun _ _ => rfl)
end Go.Proofs.YtailoobjgbldgaaGreatDoor.Val
end
section
namespace Go.Proofs.YtailoobjgbldgaaGreatDoor.Val
open Go Go.Lib Go.RowKit Go.Proofs.YtailoobjgbldgaaGreatDoor.P Go.Proofs.YtailoobjgbldgaaGreatDoorW.PrintWords Go.Proofs.YtailoobjgbldgaaGreatDoorW.PrintLast Go.Proofs.YtailoobjgbldgaaGreatDoorW.PrintMore
set_option linter.unusedSimpArgs false
set_option linter.unusedVariables false
theorem w64s1 {m : Nat} (h : m ≤ 1000000000000) : wrap64 (((m + 1 : Nat) : Int) - 1) = (m : Int) := (w64 (x := ((m + 1 : Nat) : Int) - 1) (by omega) (by omega)).trans (by omega)
theorem w64s2 {m : Nat} (h : m ≤ 1000000000000) : wrap64 (((m + 2 : Nat) : Int) - 2) = (m : Int) := (w64 (x := ((m + 2 : Nat) : Int) - 2) (by omega) (by omega)).trans (by omega)
theorem w64m1 {m : Nat} (h : m ≤ 1000000000000) : wrap64 ((m : Int) - 1) = (m : Int) - 1 := w64 (by omega) (by omega)
structure Bx (p : Prop) : Prop where
  out : p
theorem drop_same {a c : List Int} {m : Nat} (hl : c.length = a.length) (h : ∀ t, m ≤ t → gt c t = gt a t) : c.drop m = a.drop m := by
  apply List.ext_getElem?
  intro t
  rw [List.getElem?_drop, List.getElem?_drop]
  have := h (m + t) (by omega)
  by_cases ht : m + t < a.length
  · rw [gt_eq ht, gt_eq (by omega)] at this
    rw [List.getElem?_eq_getElem ht, List.getElem?_eq_getElem (by omega), this]
  · rw [List.getElem?_eq_none (by omega), List.getElem?_eq_none (by omega)]
structure Inv (b : List Int) (V0 : Int) (L N j : Nat) (a out : List Int) : Prop where
  da : Dig a
  la : a.length = L
  lt : val a < val b * pw j
  d_o : Dig out
  lo : out.length = N
  sum : val a + val out * val b = V0
  zero : ∀ t, t < j → gt out t = 0
theorem Inv.below {b a out : List Int} {V0 : Int} {L N j : Nat} (hb : Dig b) (h : Inv b V0 L N (j + 1) a out) : val a < pw (j + b.length + 1) := by
  have h1 := val_lt hb
  have h2 : val b * pw (j + 1) ≤ pw b.length * pw (j + 1) := Int.mul_le_mul_of_nonneg_right (Int.le_of_lt h1) (Int.le_of_lt (pw_pos _))
  rw [← pw_add, show b.length + (j + 1) = j + b.length + 1 by omega] at h2
  exact Int.lt_of_lt_of_le h.lt h2
theorem sum_set {out : List Int} {j : Nat} {V D g X a' V0 : Int} (hj : j < out.length) (h0 : gt out j = 0) (h : V + val out * D = V0) (ha : a' = V - g * D * X) (hX : X = pw j) : a' + val (out.set j g) * D = V0 := by
  rw [val_set _ _ _ hj, h0, ← hX, ha, ← h]
  grind
section
variable {F : Int} {b : List Int} {V0 : Int} {L N : Nat} {R : List Int × List Int}
theorem digit_end {a out : List Int} {j : Nat} {g : Int} (hb : Dig b) (hD : 0 < val b) (hL : L = N + b.length) (hL9 : L ≤ 100000000000) (hjN : j < N) (h : Inv b V0 L N (j + 1) a out) (hg0 : 0 ≤ g) (hg1 : g < 1000000000) (hlo : pw j * val b * (g - 1) ≤ val a) (hhi : val a < pw j * val b * (g + 1))
    (hnext : ∀ a' out', Inv b V0 L N j a' out' → Evt (fun k => decimal_pieces_divide.l1 k F a' b (b.length : Int) out' ((j : Int) - 1)) R) :
    Evt (fun k => decimal_pieces_divide.j3 k F a b (b.length : Int) out (j : Int) g) R := by
  have hal : j + b.length < a.length := by rw [h.la, hL]; omega
  have hal9 : a.length ≤ 1000000000000 := by rw [h.la]; omega
  have hjo : j < out.length := by rw [h.lo]; exact hjN
  obtain ⟨a1, c, e1, d1, l1, hc, v1, z1⟩ := take_is (at_ := j) hg0 hg1 h.da hb hal hal9
  have hP := h.below hb
  have hz0 := drop_zero h.da (m := j + b.length + 1) hal hP
  have hz1 : val a1 < pw (j + b.length + 1) := lt_of_drop_zero d1 (by rw [l1]; exact hal) (by rw [drop_same l1 (fun t ht => z1 t ht)]; exact hz0)
  have eT : g * val b * pw j = pw j * val b * g := by ac_rfl
  have eT1 : pw j * val b * (g + 1) = pw j * val b * g + pw j * val b := by rw [Int.mul_add, Int.mul_one]
  have eT2 : pw j * val b * (g - 1) = pw j * val b * g - pw j * val b := by rw [Int.mul_sub, Int.mul_one]
  have eT3 : val b * pw j = pw j * val b := Int.mul_comm ..
  have hXD : 0 < pw j * val b := Int.mul_pos (pw_pos j) hD
  have n1 := val_nonneg d1
  have na := val_nonneg h.da
  have w1 : wrap64 ((j : Int) - 1) = (j : Int) - 1 := w64m1 (by clear hlo hhi v1 hz1 hP; omega)
  have jo : (j : Int) < (out.length : Int) := Int.ofNat_lt.2 hjo
  rw [eT] at v1
  rw [eT1] at hhi
  rw [eT2] at hlo
  generalize hTg : pw j * val b * g = Tg at *
  generalize hT : pw j * val b = T at *
  generalize hPP : pw (j + b.length + 1) = P at *
  rcases hc with hc | hc
  · subst hc
    rw [Int.zero_mul] at v1
    have := hnext a1 (out.set j g) ⟨d1, l1.trans h.la, by rw [eT3]; omega, h.d_o.set ⟨hg0, hg1⟩, by rw [List.length_set]; exact h.lo, sum_set hjo (h.zero j (Nat.lt_succ_self j)) h.sum (by rw [v1, eT]; omega) rfl, fun t ht => by rw [gt_set_ne _ (by omega)]; exact h.zero t (by omega)⟩
    refine (Evt.bind (h := fun k (bt187 : Bool × List Int) => (if bt187.1 = true then ((decimal_pieces_back.f k bt187.2 b (j : Int)).bind fun t189 => (if 0 ≤ (j : Int) then (if (j : Int) < (out.length : Int) then (decimal_pieces_divide.l1 k F t189 b (b.length : Int) (out.set (j : Int).toNat (IntKind.u64.wrap (g - 1))) (wrap64 ((j : Int) - 1))) else (none)) else (none))) else (if 0 ≤ (j : Int) then (if (j : Int) < (out.length : Int) then (decimal_pieces_divide.l1 k F bt187.2 b (b.length : Int) (out.set (j : Int).toNat g) (wrap64 ((j : Int) - 1))) else (none)) else (none)))) e1 ?_).step fun k => rfl
    refine this.congr fun k => ?_
    rw [if_neg (by simp), if_pos (Int.natCast_nonneg _), if_pos jo, Int.toNat_natCast, w1]
  · subst hc
    rw [Int.one_mul] at v1
    obtain ⟨a2, c2, e2, d2, l2, hc0, hc1, v2, z2⟩ := back_is (p := a1) (q := b) (at_ := j) d1 hb (by rw [l1]; exact hal) (by rw [l1]; exact hal9)
    have hz2 : val a2 < pw (j + b.length + 1) := lt_of_drop_zero d2 (by rw [l2, l1]; exact hal) (by rw [drop_same (l2.trans l1) (fun t ht => (z2 t ht).trans (z1 t ht))]; exact hz0)
    have n2 := val_nonneg d2
    rw [hPP] at v2 hz2
    rw [eT3] at v2
    have hc2 : c2 = 1 := by
      rcases Int.lt_or_le c2 1 with h' | h'
      · have h0 : c2 = 0 := by omega
        rw [h0, Int.zero_mul] at v2
        omega
      · omega
    rw [hc2, Int.one_mul] at v2
    have hgp : 1 ≤ g := by
      rcases Int.lt_or_le g 1 with h' | h'
      · have h0 : g = 0 := by omega
        rw [h0, Int.mul_zero] at hTg
        omega
      · exact h'
    have wg : IntKind.u64.wrap (g - 1) = g - 1 := by clear hlo hhi v1 v2 hz1 hz2 hP; exact u64 (by omega) (by omega)
    have := hnext a2 (out.set j (g - 1)) ⟨d2, l2.trans (l1.trans h.la), by rw [eT3]; omega, h.d_o.set ⟨by omega, by omega⟩, by rw [List.length_set]; exact h.lo, sum_set hjo (h.zero j (Nat.lt_succ_self j)) h.sum (by
      have e : (g - 1) * val b * pw j = g * val b * pw j - val b * pw j := by grind
      rw [e, eT, eT3]; omega) rfl, fun t ht => by rw [gt_set_ne _ (by omega)]; exact h.zero t (by omega)⟩
    refine (Evt.bind (h := fun k (bt187 : Bool × List Int) => (if bt187.1 = true then ((decimal_pieces_back.f k bt187.2 b (j : Int)).bind fun t189 => (if 0 ≤ (j : Int) then (if (j : Int) < (out.length : Int) then (decimal_pieces_divide.l1 k F t189 b (b.length : Int) (out.set (j : Int).toNat (IntKind.u64.wrap (g - 1))) (wrap64 ((j : Int) - 1))) else (none)) else (none))) else (if 0 ≤ (j : Int) then (if (j : Int) < (out.length : Int) then (decimal_pieces_divide.l1 k F bt187.2 b (b.length : Int) (out.set (j : Int).toNat g) (wrap64 ((j : Int) - 1))) else (none)) else (none)))) e1 ?_).step fun k => rfl
    have hb2 := Evt.bind (h := fun k t189 => (if 0 ≤ (j : Int) then (if (j : Int) < (out.length : Int) then (decimal_pieces_divide.l1 k F t189 b (b.length : Int) (out.set (j : Int).toNat (IntKind.u64.wrap (g - 1))) (wrap64 ((j : Int) - 1))) else (none)) else (none))) e2 (this.congr fun k => by
      rw [if_pos (Int.natCast_nonneg _), if_pos jo, Int.toNat_natCast, w1, wg])
    refine hb2.congr fun k => ?_
    rw [if_pos (by simp)]
theorem guess_loop {a out : List Int} {j n : Nat} (hb : Dig b) (hn : b.length = n + 2) (hb1 : 1 ≤ gt b (n + 1)) (hL : L = N + b.length) (hL9 : L ≤ 100000000000) (hjN : j < N) (h : Inv b V0 L N (j + 1) a out)
    (hnext : ∀ a' out', Inv b V0 L N j a' out' → Evt (fun k => decimal_pieces_divide.l1 k F a' b (b.length : Int) out' ((j : Int) - 1)) R) :
    ∀ (s : Nat) (g r : Int), g.toNat = s → 0 ≤ g → 0 ≤ r → g * gt b (n + 1) + r = gt a (j + n + 2) * 1000000000 + gt a (j + n + 1) → val a < pw j * val b * (g + 1) →
    Evt (fun k => decimal_pieces_divide.l2 k F a b (b.length : Int) out (j : Int) g r) R := by
  have hal : j + n + 2 < a.length := by rw [h.la, hL]; omega
  have hal9 : j + n + 2 ≤ 1000000000000 := by have := h.la; omega
  have r0 : rd a ((j + n : Nat) : Int) = gt a (j + n) := rd_gt a (j + n)
  have rb1 : rd b ((n + 1 : Nat) : Int) = gt b (n + 1) := rd_gt b (n + 1)
  have rb2 : rd b (n : Int) = gt b n := rd_gt b n
  have wb1 : Bx (wrap64 ((b.length : Int) - 1) = ((n + 1 : Nat) : Int)) := ⟨by rw [hn]; exact w64s1 (m := n + 1) (by omega)⟩
  have wb2 : Bx (wrap64 ((b.length : Int) - 2) = (n : Int)) := ⟨by rw [hn]; exact w64s2 (m := n) (by omega)⟩
  have wa : Bx (wrap64 ((j : Int) + (b.length : Int)) = ((j + n + 2 : Nat) : Int)) := ⟨by rw [hn]; exact w64at (by omega)⟩
  have wa2 : Bx (wrap64 (((j + n + 2 : Nat) : Int) - 2) = ((j + n : Nat) : Int)) := ⟨w64s2 (m := j + n) (by omega)⟩
  have ib1 : ((n + 1 : Nat) : Int) < (b.length : Int) := by rw [hn]; exact Int.ofNat_lt.2 (by omega)
  have ib2 : (n : Int) < (b.length : Int) := by rw [hn]; exact Int.ofNat_lt.2 (by omega)
  have ia : ((j + n : Nat) : Int) < (a.length : Int) := Int.ofNat_lt.2 (by omega)
  have hD2 := two hb (n := n) hn.symm
  have hD1 := one hb (n := n + 1) hn.symm
  have hX := pw_pos j
  have hY := pw_pos n
  have hY1 := pw_pos (n + 1)
  have hD : 0 < val b := by
    have : pw (n + 1) * 1 ≤ pw (n + 1) * gt b (n + 1) := ml hb1 (Int.le_of_lt hY1)
    have := hD1.1
    omega
  have hVP := h.below hb
  rw [hn, show j + (n + 2) + 1 = (j + n) + 3 by omega] at hVP
  have h3 := three h.da (m := j + n) hal hVP
  rw [pw_add] at h3
  have g0 := h.da.gt (j + n)
  have g1 := h.da.gt (j + n + 1)
  have g2 := h.da.gt (j + n + 2)
  have gb1 := hb.gt (n + 1)
  have gb2 := hb.gt n
  have hh9 : gt a (j + n + 2) * 1000000000 + gt a (j + n + 1) ≤ 1000000000000000000 := by clear h3 hD1 hD2 hVP; omega
  have hVD : val a < pw j * val b * 1000000000 := by
    have e : val b * pw (j + 1) = pw j * val b * 1000000000 := by rw [pw_succ]; ac_rfl
    rw [← e]; exact h.lt
  generalize hhh : gt a (j + n + 2) * 1000000000 + gt a (j + n + 1) = hh at *
  intro s
  induction s with
  | zero =>
    intro g r hs hg0 hr0 hgr hV
    have : g = 0 := by omega
    subst this
    rw [Int.zero_mul, Int.zero_add] at hgr
    have hlo : pw j * val b * (0 - 1) ≤ val a := by
      have := Int.mul_pos hX hD
      have := val_nonneg h.da
      have e : pw j * val b * (0 - 1) = - (pw j * val b) := by grind
      omega
    have hj := digit_end hb hD hL hL9 hjN h (Int.le_refl 0) (by decide) hlo hV hnext
    by_cases hrB : r < 1000000000
    · by_cases hc : gt b n * 0 > r * 1000000000 + gt a (j + n)
      · exfalso; clear h3 hD1 hD2 hVP hVD hV; omega
      · refine hj.step fun k => ?_
        rw [decimal_pieces_divide.l2, if_neg (by decide), if_pos hrB, wb2.out, if_pos (Int.natCast_nonneg _), if_pos ib2, wa.out, wa2.out, if_pos (Int.natCast_nonneg _), if_pos ia, rb2, r0, u64 (x := 0 * gt b n) (by rw [Int.zero_mul]; decide) (by rw [Int.zero_mul]; decide), u64 (x := r * 1000000000) (by clear h3 hD1 hD2 hVP hVD hV; omega) (by clear h3 hD1 hD2 hVP hVD hV; omega), u64 (x := r * 1000000000 + gt a (j + n)) (by clear h3 hD1 hD2 hVP hVD hV; omega) (by clear h3 hD1 hD2 hVP hVD hV; omega), if_neg (by rw [Int.zero_mul]; clear h3 hD1 hD2 hVP hVD hV; omega)]
    · refine hj.step fun k => ?_
      rw [decimal_pieces_divide.l2, if_neg (by decide), if_neg hrB]
  | succ s ih =>
    intro g r hs hg0 hr0 hgr hV
    have hg1 : 1 ≤ g := by clear h3 hD1 hD2 hVP hVD hV; omega
    have hm : (g - 1) * gt b (n + 1) + (r + gt b (n + 1)) = hh := by rw [Int.sub_mul, Int.one_mul]; clear h3 hD1 hD2 hVP hVD hV; omega
    have hm0 : 0 ≤ (g - 1) * gt b (n + 1) := Int.mul_nonneg (by omega) gb1.1
    have wg : ∀ x : Int, g = x → g ≤ 18446744073709551615 → IntKind.u64.wrap (g - 1) = g - 1 := fun x _ h' => by clear h3 hD1 hD2 hVP hVD hV hm hgr; exact u64 (by omega) (by omega)
    have hgb : g ≤ 1000000000000000000 := by
      have : g * 1 ≤ g * gt b (n + 1) := ml hb1 hg0
      clear h3 hD1 hD2 hVP hVD hV; omega
    have wg' : Bx (IntKind.u64.wrap (g - 1) = g - 1) := ⟨wg g rfl (by omega)⟩
    have wr : Bx (IntKind.u64.wrap (r + gt b (n + 1)) = r + gt b (n + 1)) := ⟨by clear h3 hD1 hD2 hVP hVD hV; exact u64 (by omega) (by omega)⟩
    have hdown : val a < pw j * val b * g → Evt (fun k => decimal_pieces_divide.l2 k F a b (b.length : Int) out (j : Int) (g - 1) (r + gt b (n + 1))) R := fun hV' =>
      ih (g - 1) (r + gt b (n + 1)) (by omega) (by omega) (by omega) hm (by rw [Int.sub_add_cancel]; exact hV')
    by_cases hgB : g ≥ 1000000000
    · refine (hdown (guess_great hX hD hVD hgB)).step fun k => ?_
      rw [decimal_pieces_divide.l2, if_pos hgB, wb1.out, if_pos (Int.natCast_nonneg _), if_pos ib1, rb1, wg'.out, wr.out]
    have hgB' : g < 1000000000 := by omega
    by_cases hrB : r < 1000000000
    · have hp0 : 0 ≤ g * gt b n := Int.mul_nonneg hg0 gb2.1
      have hp1 : g * gt b n ≤ 1000000000 * 1000000000 := Int.mul_le_mul (by omega) (by omega) gb2.1 (by decide)
      have u1 : Bx (IntKind.u64.wrap (g * gt b n) = g * gt b n) := ⟨by clear h3 hD1 hD2 hVP hVD hV hm hgr; exact u64 hp0 (by omega)⟩
      have u2 : Bx (IntKind.u64.wrap (r * 1000000000) = r * 1000000000) := ⟨by clear h3 hD1 hD2 hVP hVD hV hm hgr; exact u64 (by omega) (by omega)⟩
      have u3 : Bx (IntKind.u64.wrap (r * 1000000000 + gt a (j + n)) = r * 1000000000 + gt a (j + n)) := ⟨by clear h3 hD1 hD2 hVP hVD hV hm hgr; exact u64 (by omega) (by omega)⟩
      by_cases hc : g * gt b n > r * 1000000000 + gt a (j + n)
      · refine (hdown (guess_down hX hY h3.2 hD2.1 hg0 hgr hc)).step fun k => ?_
        rw [decimal_pieces_divide.l2, if_neg hgB, if_pos hrB, wb2.out, if_pos (Int.natCast_nonneg _), if_pos ib2, wa.out, wa2.out, if_pos (Int.natCast_nonneg _), if_pos ia, rb2, r0, u1.out, u2.out, u3.out, if_pos hc, wb1.out, if_pos (Int.natCast_nonneg _), if_pos ib1, rb1, wg'.out, wr.out]
      · have hlo : pw j * val b * (g - 1) ≤ val a := guess_end hX hY h3.1 (Int.le_of_lt hD2.2) (by
          have : pw (n + 1) * 1 ≤ pw (n + 1) * gt b (n + 1) := ml hb1 (Int.le_of_lt hY1)
          have e := pw_succ n
          have := hD1.1
          clear h3 hD2 hVP hVD hV hm hgr
          omega) hg0 hgB' hgr (by omega)
        refine (digit_end hb hD hL hL9 hjN h hg0 hgB' hlo hV hnext).step fun k => ?_
        rw [decimal_pieces_divide.l2, if_neg hgB, if_pos hrB, wb2.out, if_pos (Int.natCast_nonneg _), if_pos ib2, wa.out, wa2.out, if_pos (Int.natCast_nonneg _), if_pos ia, rb2, r0, u1.out, u2.out, u3.out, if_neg hc]
    · have hlo : pw j * val b * (g - 1) ≤ val a := by
        refine guess_end_far hX hY1 (h := hh) (rest := r) (b1 := gt b (n + 1)) ?_ (Int.le_of_lt hD1.2) hD hg0 hgr (by omega)
        have e : pw j * pw (n + 1) * hh = pw j * pw n * (hh * 1000000000) := by rw [pw_succ]; ac_rfl
        have := ml (c := pw j * pw n) (show hh * 1000000000 ≤ hh * 1000000000 + gt a (j + n) by omega) (Int.le_of_lt (Int.mul_pos hX hY))
        rw [e]
        exact Int.le_trans this h3.1
      refine (digit_end hb hD hL hL9 hjN h hg0 hgB' hlo hV hnext).step fun k => ?_
      rw [decimal_pieces_divide.l2, if_neg hgB, if_neg hrB]
theorem digits_loop {n : Nat} (hF0 : 0 < F) (hF1 : F ≤ 1000000000) (hb : Dig b) (hn : b.length = n + 2) (hb1 : 1 ≤ gt b (n + 1)) (hL : L = N + b.length) (hL9 : L ≤ 100000000000)
    (hend : ∀ a out, Inv b V0 L N 0 a out → (digs (val out).toNat, digs (val a / F).toNat) = R) :
    ∀ (j : Nat) (a out : List Int), j ≤ N → Inv b V0 L N j a out → Evt (fun k => decimal_pieces_divide.l1 k F a b (b.length : Int) out ((j : Int) - 1)) R := by
  intro j
  induction j with
  | zero =>
    intro a out _ h
    have t1 := trim_val (by rw [h.la]; omega) h.da
    have t2 := small_is (digs_dig (val a).toNat) hF0 hF1 (by
      have := digs_length_le (n := (val a).toNat) (k := a.length) (by have := val_lt h.da; have := val_nonneg h.da; omega)
      have := h.la
      omega)
    have t3 := trim_val (by rw [h.lo]; omega) h.d_o
    have e : val (digs (val a).toNat) = val a := by rw [val_digs]; have := val_nonneg h.da; omega
    rw [e] at t2
    rw [← hend a out h]
    refine Evt.step (g := fun k => (decimal_pieces_trim.f k a).bind fun t169 => ((decimal_pieces_small.f k t169 F).bind fun bt172 => ((decimal_pieces_trim.f k out).bind fun t176 => (some (t176, bt172.1))))) ?_ fun k => ?_
    · exact t1.bind (h := fun k t169 => ((decimal_pieces_small.f k t169 F).bind fun bt172 => ((decimal_pieces_trim.f k out).bind fun t176 => (some (t176, bt172.1))))) (t2.bind (h := fun k bt172 => ((decimal_pieces_trim.f k out).bind fun t176 => (some (t176, bt172.1)))) (t3.bind1 (h := fun t176 => some (t176, digs (val a / F).toNat)) rfl))
    · rw [decimal_pieces_divide.l1, if_neg (by simp)]
  | succ j ih =>
    intro a out hj h
    have e0 : (((j + 1 : Nat) : Int) - 1) = (j : Int) := by omega
    rw [e0]
    have hal : j + n + 2 < a.length := by rw [h.la, hL]; omega
    have hal9 : j + n + 2 ≤ 1000000000000 := by have := h.la; omega
    have wb1 : wrap64 ((b.length : Int) - 1) = ((n + 1 : Nat) : Int) := by rw [hn]; exact w64s1 (m := n + 1) (by omega)
    have wa : wrap64 ((j : Int) + (b.length : Int)) = ((j + n + 2 : Nat) : Int) := by rw [hn]; exact w64at (by omega)
    have wa1 : wrap64 (((j + n + 2 : Nat) : Int) - 1) = ((j + n + 1 : Nat) : Int) := w64s1 (m := j + n + 1) (by omega)
    have ib1 : ((n + 1 : Nat) : Int) < (b.length : Int) := by rw [hn]; exact Int.ofNat_lt.2 (by omega)
    have ia : ((j + n + 2 : Nat) : Int) < (a.length : Int) := Int.ofNat_lt.2 hal
    have ia1 : ((j + n + 1 : Nat) : Int) < (a.length : Int) := Int.ofNat_lt.2 (by omega)
    have g1 := h.da.gt (j + n + 1)
    have g2 := h.da.gt (j + n + 2)
    have rb1 : rd b ((n + 1 : Nat) : Int) = gt b (n + 1) := rd_gt b (n + 1)
    have r1 : rd a ((j + n + 1 : Nat) : Int) = gt a (j + n + 1) := rd_gt a (j + n + 1)
    have r2 : rd a ((j + n + 2 : Nat) : Int) = gt a (j + n + 2) := rd_gt a (j + n + 2)
    obtain ⟨hh, hhh⟩ : ∃ hh, hh = gt a (j + n + 2) * 1000000000 + gt a (j + n + 1) := ⟨_, rfl⟩
    have u1 : IntKind.u64.wrap (gt a (j + n + 2) * 1000000000) = gt a (j + n + 2) * 1000000000 := u64 (by omega) (by omega)
    have u2 : IntKind.u64.wrap (gt a (j + n + 2) * 1000000000 + gt a (j + n + 1)) = hh := by rw [hhh]; exact u64 (by omega) (by omega)
    have hh0 : 0 ≤ hh := by omega
    have hh1 : hh ≤ 1000000000000000000 := by omega
    have hbp : 0 < gt b (n + 1) := by omega
    have hq := Int.mul_ediv_add_emod hh (gt b (n + 1))
    have hr0 := Int.emod_nonneg hh (show gt b (n + 1) ≠ 0 by omega)
    have hr1 := Int.emod_lt_of_pos hh hbp
    have hq0 : 0 ≤ hh / gt b (n + 1) := Int.ediv_nonneg hh0 (by omega)
    have hq1 : hh / gt b (n + 1) ≤ hh := Int.ediv_le_self _ hh0
    have hD1 := one hb (n := n + 1) hn.symm
    have hV : val a < pw j * val b * (hh / gt b (n + 1) + 1) := by
      have hVP := h.below hb
      rw [hn, show j + (n + 2) + 1 = (j + n) + 3 by omega] at hVP
      have h3 := three h.da (m := j + n) hal hVP
      refine guess_start (h := hh) (b1 := gt b (n + 1)) (Y := pw (n + 1)) (pw_pos j) (pw_pos _) ?_ ?_ hD1.1 (by omega)
      · refine Int.lt_of_lt_of_le h3.2 ?_
        have e : pw j * pw (n + 1) * (hh + 1) = pw (j + n) * ((hh + 1) * 1000000000) := by rw [pw_succ, pw_add]; ac_rfl
        rw [e, ← hhh]
        have g0 := h.da.gt (j + n)
        exact ml (by omega) (Int.le_of_lt (pw_pos _))
      · have e : gt b (n + 1) * (hh / gt b (n + 1) + 1) = gt b (n + 1) * (hh / gt b (n + 1)) + gt b (n + 1) := by rw [Int.mul_add, Int.mul_one]
        omega
    have := guess_loop hb hn hb1 hL hL9 (by omega) h (fun a' out' h' => ih a' out' (by omega) h') _ (hh / gt b (n + 1)) (hh % gt b (n + 1)) rfl hq0 hr0 (by rw [Int.mul_comm, ← hhh]; exact hq) hV
    refine this.step fun k => ?_
    rw [decimal_pieces_divide.l1, if_pos (Int.natCast_nonneg _), wa, if_pos (Int.natCast_nonneg _), if_pos ia, wa1, if_pos (Int.natCast_nonneg _), if_pos ia1, wb1, if_pos (Int.natCast_nonneg _), if_pos ib1, rb1, r1, r2, if_neg (by omega), u1, u2, tdiv_pos hh0, tmod_pos hh0, u64 (x := hh / gt b (n + 1)) hq0 (by clear hV hq; omega)]
end
theorem divide_is {m n : Nat} (hn : 2 ≤ (digs n).length) (hmn : (digs n).length ≤ (digs m).length) (hm : (digs m).length ≤ 1000000000) :
    Evt (fun k => decimal_pieces_divide.f k (digs m) (digs n)) (digs (m / n), digs (m % n)) := by
  obtain ⟨l, hl⟩ : ∃ l, (digs n).length = l + 2 := ⟨(digs n).length - 2, by omega⟩
  have hdn := digs_dig n
  have hne : digs n ≠ [] := by intro h; rw [h] at hl; simp at hl
  have hn0 : 0 < n := by
    rcases Nat.eq_zero_or_pos n with h | h
    · rw [h, digs_zero] at hl; simp at hl
    · exact h
  obtain ⟨t, ht⟩ : ∃ t, t = gt (digs n) (l + 1) := ⟨_, rfl⟩
  have ht0 := hdn.gt (l + 1)
  rw [← ht] at ht0
  have ht1 : 1 ≤ t := by
    rcases digs_trim n with h | h
    · exact absurd h hne
    · rw [hl, show l + 2 - 1 = l + 1 by omega, ← ht] at h; omega
  obtain ⟨F, hF⟩ : ∃ F, F = 1000000000 / (t + 1) := ⟨_, rfl⟩
  have hFm := Int.mul_ediv_add_emod 1000000000 (t + 1)
  rw [← hF] at hFm
  have hFr := Int.emod_nonneg 1000000000 (show t + 1 ≠ 0 by omega)
  have hFle : F * (t + 1) ≤ 1000000000 := by rw [Int.mul_comm]; omega
  have hF0 : 1 ≤ F := by rw [hF]; exact Int.le_ediv_of_mul_le (by omega) (by omega)
  have hF1 : F < 1000000000 := by
    have : F * 2 ≤ F * (t + 1) := ml (by omega) (by omega)
    omega
  have hone := one hdn (n := l + 1) hl.symm
  rw [← ht, val_digs] at hone
  have hbv : (n : Int) * F < pw (l + 2) := by
    have h1 : ((n : Int)) * F < pw (l + 1) * (t + 1) * F := Int.mul_lt_mul_of_pos_right hone.2 (by omega)
    have h2 : pw (l + 1) * (F * (t + 1)) ≤ pw (l + 1) * 1000000000 := ml hFle (Int.le_of_lt (pw_pos _))
    have e1 : pw (l + 1) * (t + 1) * F = pw (l + 1) * (F * (t + 1)) := by ac_rfl
    have e2 : pw (l + 2) = pw (l + 1) * 1000000000 := by rw [pw_succ (l + 1)]; ac_rfl
    omega
  obtain ⟨f, hf⟩ : ∃ f : Nat, F = f := ⟨F.toNat, by omega⟩
  have hf0 : 1 ≤ f := by omega
  have hbN : ((n * f : Nat) : Int) < pw (l + 2) := by rw [Int.natCast_mul, ← hf]; exact hbv
  have hlb : (digs (n * f)).length = l + 2 := by
    apply Nat.le_antisymm (digs_length_le hbN)
    rw [← hl]
    apply digs_length_le
    have := lt_pw_digs (n * f)
    have h1 : n * 1 ≤ n * f := Nat.mul_le_mul_left n hf0
    omega
  have hla : (digs m).length ≤ (digs (m * f)).length := by
    apply digs_length_le
    have := lt_pw_digs (m * f)
    have h1 : m * 1 ≤ m * f := Nat.mul_le_mul_left m hf0
    omega
  have hla2 : (digs (m * f)).length ≤ (digs m).length + 1 := by
    apply digs_length_le
    have h1 := lt_pw_digs m
    have h2 : (m : Int) * F < pw (digs m).length * F := Int.mul_lt_mul_of_pos_right h1 (by omega)
    have h3 : pw (digs m).length * F ≤ pw (digs m).length * 1000000000 := ml (by omega) (Int.le_of_lt (pw_pos _))
    rw [pw_succ, Int.mul_comm 1000000000]
    rw [Int.natCast_mul, ← hf]
    omega
  have s1 := scaled_is (xs := digs m) (n := F) (digs_dig m) (by omega) hF1 (by omega)
  have s2 := scaled_is (xs := digs n) (n := F) hdn (by omega) hF1 (by omega)
  have e1 : (val (digs m) * F).toNat = m * f := by rw [val_digs, hf, ← Int.natCast_mul, Int.toNat_natCast]
  have e2 : (val (digs n) * F).toNat = n * f := by rw [val_digs, hf, ← Int.natCast_mul, Int.toNat_natCast]
  rw [e1] at s1
  rw [e2] at s2
  have hdb := digs_dig (n * f)
  have hnf : n * f ≠ 0 := Nat.mul_ne_zero (by omega) (by omega)
  have hbne : digs (n * f) ≠ [] := by intro h; rw [h] at hlb; simp at hlb
  have hbge := (digs_trim (n * f)).ge hdb hbne
  rw [hlb, show l + 2 - 1 = l + 1 by omega] at hbge
  obtain ⟨N, hN⟩ : ∃ N, (digs (m * f) ++ [0]).length = N + (digs (n * f)).length := ⟨(digs (m * f) ++ [0]).length - (digs (n * f)).length, by rw [List.length_append, hlb]; simp; omega⟩
  have hda : Dig (digs (m * f) ++ [0]) := (digs_dig _).append (fun y hy => by rw [List.mem_singleton.1 hy]; decide)
  have hva : val (digs (m * f) ++ [0]) = ((m * f : Nat) : Int) := by rw [val_snoc, val_digs]; simp
  have hb1 : 1 ≤ gt (digs (n * f)) (l + 1) := by
    rcases digs_trim (n * f) with h | h
    · exact absurd h hbne
    · rw [hlb, show l + 2 - 1 = l + 1 by omega] at h
      have := hdb.gt (l + 1)
      omega
  have hinv : Inv (digs (n * f)) ((m * f : Nat) : Int) (digs (m * f) ++ [0]).length N N (digs (m * f) ++ [0]) (List.replicate N 0) := by
    refine ⟨hda, rfl, ?_, Dig.replicate _, by simp, by rw [hva, val_replicate]; simp, fun t _ => ?_⟩
    · rw [hva, val_digs]
      have h1 := lt_pw_digs (m * f)
      have h2 : (digs (m * f)).length = N + (l + 1) := by
        have := hN
        rw [List.length_append, hlb] at this
        simp at this
        omega
      rw [h2, pw_add] at h1
      rw [val_digs] at hbge
      have h3 := ml (c := pw N) hbge (Int.le_of_lt (pw_pos _))
      rw [Int.mul_comm (((n * f : Nat) : Int))]
      exact Int.lt_of_lt_of_le h1 h3
    · by_cases h : t < N
      · rw [gt_eq (by simpa using h)]; simp
      · rw [gt_out (by simp; omega)]
  have hloop := digits_loop (F := F) (R := (digs (m / n), digs (m % n))) (by omega) (by omega) hdb hlb hb1 hN (by rw [List.length_append]; simp; omega) (fun a out h => by
    have hs := h.sum
    have hlt := h.lt
    rw [val_digs] at hs hlt
    rw [pw_zero, Int.mul_one] at hlt
    have ha := val_nonneg h.da
    have ho := val_nonneg h.d_o
    obtain ⟨x, hx⟩ : ∃ x : Nat, val a = x := ⟨(val a).toNat, by omega⟩
    obtain ⟨q, hq⟩ : ∃ q : Nat, val out = q := ⟨(val out).toNat, by omega⟩
    rw [hx, hq] at hs
    rw [hx] at hlt
    have hs' : x + q * (n * f) = m * f := by
      have : ((x + q * (n * f) : Nat) : Int) = ((m * f : Nat) : Int) := by rw [← hs]; simp
      exact Int.ofNat_inj.1 this
    have hlt' : x < n * f := Int.ofNat_lt.1 hlt
    have hqn : q * n ≤ m := by
      have : q * n * f ≤ m * f := by rw [Nat.mul_assoc]; omega
      exact Nat.le_of_mul_le_mul_right this (by omega)
    have hxe : x = (m - q * n) * f := by
      rw [Nat.sub_mul, Nat.mul_assoc]; omega
    have hrn : m - q * n < n := by
      rw [hxe] at hlt'
      exact Nat.lt_of_mul_lt_mul_right hlt'
    have hdiv : m / n = q := by
      have : m = n * q + (m - q * n) := by rw [Nat.mul_comm n q]; omega
      rw [this, Nat.mul_add_div hn0, Nat.div_eq_of_lt hrn]; omega
    have hmod : m % n = m - q * n := by
      have : m = n * q + (m - q * n) := by rw [Nat.mul_comm n q]; omega
      conv => lhs; rw [this]
      rw [Nat.mul_add_mod, Nat.mod_eq_of_lt hrn]
    rw [hq, Int.toNat_natCast, hdiv, hmod, hx, hf, hxe]
    have e : (((m - q * n) * f : Nat) : Int) / (f : Int) = ((m - q * n : Nat) : Int) := by
      rw [← Int.natCast_ediv, Nat.mul_div_cancel _ (by omega)]
    rw [e, Int.toNat_natCast]) N _ _ (Nat.le_refl _) hinv
  have hL1 : (digs (m * f) ++ [0]).length = (digs (m * f)).length + 1 := by simp
  have wl : wrap64 (((digs n).length : Int) - 1) = ((l + 1 : Nat) : Int) := by rw [hl]; exact w64s1 (m := l + 1) (by omega)
  have il : ((l + 1 : Nat) : Int) < ((digs n).length : Int) := by rw [hl]; exact Int.ofNat_lt.2 (by omega)
  have rt : rd (digs n) ((l + 1 : Nat) : Int) = t := by rw [rd_gt, ht]
  have ut : IntKind.u64.wrap (t + 1) = t + 1 := u64 (by omega) (by omega)
  have uF : IntKind.u64.wrap (Int.tdiv 1000000000 (t + 1)) = F := by rw [tdiv_pos (by decide), ← hF]; exact u64 (by omega) (by omega)
  have hl0 : Evt (fun k => decimal_pieces_divide.l0 k (digs m) F (digs (m * f) ++ [0]) (digs (n * f)) ((digs (n * f)).length : Int)) (digs (m / n), digs (m % n)) := by
    refine hloop.step fun k => ?_
    have w1 : wrap64 (((digs (m * f) ++ [0]).length : Int) - ((digs (n * f)).length : Int)) = (N : Int) := by rw [hN]; exact (w64 (by omega) (by omega)).trans (by omega)
    rw [decimal_pieces_divide.l0, if_neg (by rw [hL1]; omega), w1, if_pos (Int.natCast_nonneg _), Int.toNat_natCast, if_pos (by omega), w64m1 (by omega)]
  have hb2 := s2.bind (h := fun k t160 => decimal_pieces_divide.l0 k (digs m) F (digs (m * f) ++ [0]) t160 (t160.length : Int)) hl0
  have hb1' := s1.bind (h := fun k t154 => (if t154.length < 17592186044416 then ((decimal_pieces_scaled.f k (digs n) F).bind fun t160 => (decimal_pieces_divide.l0 k (digs m) F (t154 ++ [0]) t160 (t160.length : Int))) else (none))) (hb2.congr fun k => by rw [if_pos (by omega)])
  refine hb1'.congr fun k => ?_
  unfold decimal_pieces_divide.f
  rw [wl, if_pos (Int.natCast_nonneg _), if_pos il, rt, ut, if_neg (by omega), uF]
end Go.Proofs.YtailoobjgbldgaaGreatDoor.Val
end
section
namespace Go.Proofs.YtailoobjgbldgaaGreatDoor.Val
open Go.Lib Go.Proofs.YtailoobjgbldgaaGreatDoor.P
set_option linter.unusedSimpArgs false
set_option linter.unusedVariables false
def pad : Nat → Nat → List UInt8
  | 0, _ => []
  | k + 1, n => pad k (n / 10) ++ [UInt8.ofNat (48 + n % 10)]
theorem pad_length (k : Nat) : ∀ n, (pad k n).length = k := by
  induction k with
  | zero => intro n; rfl
  | succ k ih => intro n; simp [pad, ih]
theorem dec_pad (k : Nat) : ∀ n, 10 ^ k ≤ n → decDigits n = decDigits (n / 10 ^ k) ++ pad k n := by
  induction k with
  | zero => intro n _; simp [pad]
  | succ k ih =>
    intro n h
    rw [Nat.pow_succ] at h
    have hp : 0 < 10 ^ k := Nat.pow_pos (by decide)
    rw [dec_big (by omega), ih (n / 10) (by omega), pad, Nat.div_div_eq_div_mul, Nat.pow_succ, Nat.mul_comm 10, List.append_assoc]
theorem dec_nine {n : Nat} (h : 1000000000 ≤ n) : decDigits n = decDigits (n / 1000000000) ++ pad 9 n := dec_pad 9 n h
theorem digs_small {n : Nat} (h0 : n ≠ 0) (h : n < 1000000000) : digs n = [(n : Int)] := by
  rw [digs_pos h0, Nat.mod_eq_of_lt h, Nat.div_eq_of_lt h, digs_zero]
def rpad : Nat → Nat → List UInt8
  | 0, _ => []
  | k + 1, n => UInt8.ofNat (48 + n % 10) :: rpad k (n / 10)
theorem rpad_reverse (k : Nat) : ∀ n, (rpad k n).reverse = pad k n := by
  induction k with
  | zero => intro n; rfl
  | succ k ih => intro n; rw [rpad, List.reverse_cons, ih, pad]
theorem rpad_length (k n : Nat) : (rpad k n).length = k := by rw [← List.length_reverse, rpad_reverse, pad_length]
def rev (n : Nat) : List UInt8 := if n = 0 then [] else (decDigits n).reverse
theorem rev_zero : rev 0 = [] := by unfold rev; rw [if_pos rfl]
theorem rev_step {n : Nat} (h : n ≠ 0) : rev n = UInt8.ofNat (48 + n % 10) :: rev (n / 10) := by
  unfold rev
  rw [if_neg h]
  by_cases h1 : n < 10
  · rw [if_pos (by omega), dec_small h1, Nat.mod_eq_of_lt h1]; rfl
  · rw [if_neg (by omega), dec_big h1, List.reverse_append]; rfl
theorem rev_nine {n : Nat} (h : 1000000000 ≤ n) : rev n = rpad 9 n ++ rev (n / 1000000000) := by
  unfold rev
  rw [if_neg (by omega), if_neg (by omega), dec_nine h, List.reverse_append, ← rpad_reverse, List.reverse_reverse]
theorem rpad_mod (k : Nat) : ∀ n m : Nat, n % 10 ^ k = m % 10 ^ k → rpad k n = rpad k m := by
  induction k with
  | zero => intro n m _; rfl
  | succ k ih =>
    intro n m h
    rw [Nat.pow_succ, Nat.mul_comm (10 ^ k) 10, Nat.mod_mul, Nat.mod_mul] at h
    rw [rpad, rpad, ih (n / 10) (m / 10) (by omega), show n % 10 = m % 10 by omega]
theorem length_dec_le_nine {n : Nat} : (decDigits n).length ≤ 9 ↔ n < 1000000000 := by
  rw [decDigits_length]; exact nDigits_le_iff (by decide)
end Go.Proofs.YtailoobjgbldgaaGreatDoor.Val
end
section
namespace Go.Proofs.YtailoobjgbldgaaGreatDoor.P
open Go.RowKit Go.Proofs.YtailoobjgbldgaaGreatDoorW.PrintWords Go.Proofs.YtailoobjgbldgaaGreatDoorW.PrintLast Go.Proofs.YtailoobjgbldgaaGreatDoorW.PrintMore
attribute [local go_sem] max2_int min2_int max_two min_two max_three min_three max_four min_four   
set_option linter.unusedVariables false
set_option linter.unusedSimpArgs false
set_option maxHeartbeats 8000000
set_option maxRecDepth 100000
def whole_split.f (a0 : ByteArray) : Option (Bool × ByteArray) := if (a0.size : Int) > 0 then (if 0 < (a0.size : Int) then (if (bt a0 0) = 45 then (if 1 ≤ (a0.size : Int) then (some (true, a0.extract 1 a0.size)) else (none)) else (some (false, a0))) else (none)) else (some (false, a0))
theorem whole_split.calls (a0 : ByteArray) (r1 : Bool) (r2 : ByteArray) (w : World) (h : whole_split.f a0 = some (r1, r2)) :
  Calls Tryz.prog 76 #[.string a0] w fun e w' => e = .returned (.tuple #[.bool r1, .string r2]) ∧ Drawn0 w w' := by
 have H := h
 unfold whole_split.f at H
 clear h
 by_cases c2 : (a0.size : Int) > 0
 ·rw [if_pos c2] at H
  have c2b0 : decide (0 < (a0.size : Int)) = true := decide_eq_true c2
  have c2b1 : decide (0 < a0.size) = true := decide_eq_true (by omega)
  clear c2
  by_cases c3 : 0 < (a0.size : Int)
  case neg => rw [if_neg c3] at H; cases H
  rw [if_pos c3] at H
  have c3b0 := decide_eq_true c3
  have c3b1 : decide (0 < a0.size) = true := decide_eq_true (by omega)
  clear c3
  by_cases c5 : (bt a0 0) = 45
  ·rw [if_pos c5] at H
   have c5b0 := beq_iff_eq.mpr c5
   have c5b1 := bne_eq_false_iff_eq.mpr c5
   clear c5
   by_cases c6 : 1 ≤ (a0.size : Int)
   case neg => rw [if_neg c6] at H; cases H
   rw [if_pos c6] at H
   have c6b0 := eq_true c6
   have c6b1 := decide_eq_true c6
   clear c6
   simp only [Option.some.injEq, Prod.mk.injEq] at H
   obtain ⟨rfl, rfl⟩ := H
   have p4 : 0 ≤ (0 : Int) := (by omega)
   have q4 : 0 < a0.size := (by have : (0 : Int) < (a0.size : Int) := of_decide_eq_true (by first | (with_reducible assumption) | assumption); omega)
   have hx4 : ∀ h : 0 < a0.size, ((a0[0]'h).toNat : Int) = bt a0 0 := bt_at a0 0
   clear p4
   have qi4 : (0 < (a0.size : Int)) = True := eq_true (of_decide_eq_true (by first | (with_reducible assumption) | assumption))
   replace q4 := eq_true q4
   go_enter Tryz.func76, Tryz.ntmps76
   go_wp2
   repeat (go_quiet (fail); try go_wp2)
   go_ret2
   exact ⟨by first | rfl | (simp; done) | (simp [*]; done), by repeat (first | exact Drawn0.refl _ | apply Drawn0.step)⟩
  ·rw [if_neg c5] at H
   have c5b0 := beq_eq_false_iff_ne.mpr c5
   have c5b1 := bne_iff_ne.mpr c5
   simp only [Option.some.injEq, Prod.mk.injEq] at H
   obtain ⟨rfl, rfl⟩ := H
   have p4 : 0 ≤ (0 : Int) := (by omega)
   have q4 : 0 < a0.size := (by have : (0 : Int) < (a0.size : Int) := of_decide_eq_true (by first | (with_reducible assumption) | assumption); omega)
   have hx4 : ∀ h : 0 < a0.size, ((a0[0]'h).toNat : Int) = bt a0 0 := bt_at a0 0
   clear p4
   have qi4 : (0 < (a0.size : Int)) = True := eq_true (of_decide_eq_true (by first | (with_reducible assumption) | assumption))
   replace q4 := eq_true q4
   go_enter Tryz.func76, Tryz.ntmps76
   go_wp2
   repeat (go_quiet (fail); try go_wp2)
   go_ret2
   exact ⟨by first | rfl | (simp; done) | (simp [*]; done), by repeat (first | exact Drawn0.refl _ | apply Drawn0.step)⟩
 ·rw [if_neg c2] at H
  have c2b0 : decide (0 < (a0.size : Int)) = false := decide_eq_false c2
  have c2b1 : decide (0 < a0.size) = false := decide_eq_false (by omega)
  clear c2
  simp only [Option.some.injEq, Prod.mk.injEq] at H
  obtain ⟨rfl, rfl⟩ := H
  go_enter Tryz.func76, Tryz.ntmps76
  go_wp2
  repeat (go_quiet (fail); try go_wp2)
  go_ret2
  exact ⟨by first | rfl | (simp; done) | (simp [*]; done), by repeat (first | exact Drawn0.refl _ | apply Drawn0.step)⟩
end Go.Proofs.YtailoobjgbldgaaGreatDoor.P
end
