/- Part 8 of the proof: functions' contracts and what they lean on. -/
import Derived.Test.YtailoobjgbldgaaGreatDoorC7
import Derived.LoopIn
import Derived.LoopNIn
import Derived.OwnWalkIn
import Derived.RangeFuncBound
import Derived.RangeFuncBox
import Derived.RangeFuncCalls
import Derived.RangeFuncLeaves
import Derived.RangeFuncNested
import Derived.Shelf.Abstract
import Derived.Shelf.RegionOpen
import Derived.TacticsInMore
section
namespace Go.Proofs.YtailoobjgbldgaaGreatDoor.P
open Go Go.RowKit Go.Shelf Go.Proofs.YtailoobjgbldgaaGreatDoorW.PrintWords Go.Proofs.YtailoobjgbldgaaGreatDoorW.PrintLast Go.Proofs.YtailoobjgbldgaaGreatDoorW.PrintMore
attribute [local go_sem] Oper.semAt_some
theorem plain_of_C {α : Type} {enc : α → Value} {d : α} {h1 : ∀ x, (enc x).oneCell' = true} {w : World} {A : Option Addr} {xs : List α} (h : (Kd.scalar enc h1).C w A xs.length xs) (hp : 0 < xs.length) :
    ∃ b o, A = some ⟨b, o, none⟩ ∧ b < w.heap.size ∧ ∀ j (hj : j < xs.length), w.cell? ⟨b, o + j, none⟩ = some (enc xs[j]) := by
  obtain ⟨_, _, hR⟩ := Kd.reads_of_C (enc := enc) (d := d) (h1 := h1) h
  obtain ⟨⟨b, o, sp⟩, rfl, hc⟩ := hR hp
  have h0 := hc 0 hp
  have hb : b < w.heap.size ∧ sp = none := by
    simp only [Addr.add, if_pos, World.cell?] at h0
    cases he : w.heap[b]? with
    | none => rw [he] at h0; cases h0
    | some ob =>
      refine ⟨(Array.getElem?_eq_some_iff.1 he).1, ?_⟩
      rw [he] at h0
      cases sp with
      | none => rfl
      | some s => cases ob <;> simp at h0
  obtain ⟨hb, rfl⟩ := hb
  refine ⟨b, o, rfl, hb, fun j hj => ?_⟩
  have := hc j hj
  have ha : (⟨b, o, none⟩ : Addr).add j = ⟨b, o + j, none⟩ := by unfold Addr.add; split <;> simp_all
  rw [ha] at this
  rw [this, List.getD_eq_getElem?_getD, List.getElem?_eq_getElem hj]
  rfl
def KpT (n₀ Bt : Nat) (W W' : World) : Prop := Below n₀ W W' ∧ W'.heap[Bt]? = W.heap[Bt]?
theorem KpT.refl (n₀ Bt : Nat) (W : World) : KpT n₀ Bt W W := ⟨Below.refl _ _, rfl⟩
theorem KpT.trans {n₀ Bt : Nat} {A B C : World} (h : KpT n₀ Bt A B) (k : KpT n₀ Bt B C) : KpT n₀ Bt A C := ⟨h.1.trans k.1, k.2.trans h.2⟩
theorem KpT.cell {n₀ Bt j : Nat} {W W' : World} (h : KpT n₀ Bt W W') : W'.cell? ⟨Bt, j, none⟩ = W.cell? ⟨Bt, j, none⟩ := by unfold World.cell?; rw [h.2]
abbrev Term (Q : Int → ByteArray → Prop) := { x : Int × ByteArray // Q x.1 x.2 }
variable {Q : Int → ByteArray → Prop}
set_option maxRecDepth 100000 in
set_option maxHeartbeats 2000000 in
theorem all1_in (F : Fence) (n : Nat) (h161 : F.fn 161) (hro : F.round = none) (hn : 1 ≤ n) (l Bt n₀ b o c b2 o2 len2 c2 : Nat) (zs : List (Term Q)) (hreach : zs.length ≤ 1000000) (hl2 : zs.length ≤ len2) (hb : b < n₀) (hb2 : b2 < n₀) (J Jx : List (Term Q) → World → Prop)
    (hY : ∀ pre x W, J pre W → pre.length < zs.length → YieldAt F (n - 1) Tryz.prog l #[.int .i64 x.1.1, .string x.1.2] W fun e W' =>
      (e = .returned (.bool true) ∧ J (pre ++ [x]) W' ∧ KpT n₀ Bt W W') ∨ (e = .returned (.bool false) ∧ Jx (pre ++ [x]) W'))
    (W : World) (hB0 : W.cell? ⟨Bt, 0, none⟩ = some (.slice (some ⟨b, o, none⟩) zs.length c)) (hB1 : W.cell? ⟨Bt, 1, none⟩ = some (.slice (some ⟨b2, o2, none⟩) len2 c2))
    (hc : ∀ j (hj : j < zs.length), W.cell? ⟨b, o + j, none⟩ = some (.int .i64 zs[j].1.1)) (hc2 : ∀ j (hj : j < zs.length), W.cell? ⟨b2, o2 + j, none⟩ = some (.string zs[j].1.2)) (h0 : J [] W) :
    CallsIn F n Tryz.prog 161 #[.func (.yield l) #[] #[], .pointer (some ⟨Bt, 0, none⟩)] W fun e W' => (∃ v, e = .returned v) ∧
      ((∃ ys, ys = zs ∧ J ys W') ∨ (∃ pre, (∃ k, k ≤ zs.length ∧ pre = zs.take k) ∧ Jx pre W')) := by
  refine callsIn_of_wp Tryz.func161 rfl h161 ?_ hro
  simp only [Tryz.ntmps161, List.size_toArray, List.length_cons, List.length_nil, Nat.reduceAdd, Nat.reduceSub, Array.replicate_succ, Array.replicate_zero, List.push_toArray, List.append_toArray, List.nil_append, List.cons_append]
  gi_wp2
  gi_loopw [8] (fun i wr => ∃ k : Nat, k ≤ zs.length ∧ i = .int .i64 k ∧ J (zs.take k) wr ∧ KpT n₀ Bt W wr)
    (fun i _ => zs.length - (intOf i).toNat)
  case atStart => exact ⟨0, Nat.zero_le _, rfl, by simpa using h0, KpT.refl _ _ _⟩
  case round =>
    obtain ⟨k, hk, rfl, hJs, hnx⟩ := hrel
    by_cases hlt : k < zs.length
    · obtain ⟨x, hx⟩ : ∃ x, zs[k] = x := ⟨_, rfl⟩
      have hcx : wr.cell? ⟨b, o + k, none⟩ = some (.int .i64 x.1.1) := by rw [← hx]; exact (hnx.1.cell (p := ⟨b, o + k, none⟩) hb).trans (hc k hlt)
      have hcy : wr.cell? ⟨b2, o2 + k, none⟩ = some (.string x.1.2) := by rw [← hx]; exact (hnx.1.cell (p := ⟨b2, o2 + k, none⟩) hb2).trans (hc2 k hlt)
      have hB1' : wr.cell? ⟨Bt, 1, none⟩ = some (.slice (some ⟨b2, o2, none⟩) len2 c2) := hnx.cell.trans hB1
      obtain ⟨fn, tmps, assign, body, hy, hR⟩ := hY _ x wr hJs (by rw [List.length_take]; omega)
      have hl2' : k < len2 := by omega
      have ht : zs.take k ++ [x] = zs.take (k + 1) := by rw [← hx, List.take_succ_eq_append_getElem hlt]
      gi_wp2
      refine hR.mono ?_
      rintro e W3 (⟨rfl, hJ3, hk3⟩ | ⟨rfl, hJx3⟩)
      · gi_wp2
        go_roundw
        case rel => exact ⟨k + 1, by omega, by simp, by rw [← ht]; exact hJ3, hnx.trans hk3⟩
        case measure => simp [intOf]; omega
      · gi_wp2
        refine bodyPost_ret (results_none rfl _ _ _) rfl ?_
        exact ⟨⟨_, rfl⟩, .inr ⟨_, ⟨k + 1, by omega, ht⟩, hJx3⟩⟩
    · obtain rfl : k = zs.length := by omega
      gi_wp2
      go_end0
      exact ⟨⟨_, rfl⟩, .inl ⟨_, rfl, by simpa using hJs⟩⟩
set_option maxRecDepth 100000 in
set_option maxHeartbeats 1000000 in
theorem all1_nil_in (F : Fence) (n : Nat) (h161 : F.fn 161) (hro : F.round = none) (l Bt : Nat) (A : Option Addr) (c : Nat) (J : List (Term Q) → World → Prop) (W : World) (hB0 : W.cell? ⟨Bt, 0, none⟩ = some (.slice A 0 c)) (h0 : J [] W) :
    CallsIn F n Tryz.prog 161 #[.func (.yield l) #[] #[], .pointer (some ⟨Bt, 0, none⟩)] W fun e W' => (∃ v, e = .returned v) ∧ J [] W' := by
  refine callsIn_of_wp Tryz.func161 rfl h161 ?_ hro
  simp only [Tryz.ntmps161, List.size_toArray, List.length_cons, List.length_nil, Nat.reduceAdd, Nat.reduceSub, Array.replicate_succ, Array.replicate_zero, List.push_toArray, List.append_toArray, List.nil_append, List.cons_append]
  gi_wp2
  gi_loopw [8] (fun i wr => i = .int .i64 0 ∧ J [] wr) (fun _ _ => 0)
  case atStart => exact ⟨rfl, h0⟩
  case round =>
    obtain ⟨rfl, hJs⟩ := hrel
    gi_wp2
    go_end0
    exact ⟨⟨_, rfl⟩, hJs⟩
set_option maxHeartbeats 1000000 in
theorem all_in (F : Fence) (n : Nat) (h135 : F.fn 135) (hro : F.round = none) (s0 s1 s2 : Value) (w : World) :
    CallsIn F n Tryz.prog 135 #[.agg #[s0, s1, s2]] w fun e w' => e = .returned (.func (.func 161) #[] #[.pointer (some ⟨w.heap.size, 0, none⟩)]) ∧ w' = w.alloc (.cells #[s0, s1, s2] 103 (0, 0)) := by
  refine callsIn_of_wp Tryz.func135 rfl h135 ?_ hro
  simp only [Tryz.ntmps135, List.size_toArray, List.length_cons, List.length_nil, Nat.reduceAdd, Nat.reduceSub, Array.replicate_succ, Array.replicate_zero, List.push_toArray, List.append_toArray, List.nil_append, List.cons_append]
  gi_wp2
  go_ret
  exact ⟨rfl, rfl⟩
theorem all_stops (F : Fence) (n : Nat) (h161 : F.fn 161) (hro : F.round = none) (hn : 1 ≤ n) (Bt n₀ : Nat) (A A2 : Option Addr) (c c2 : Nat) (l0 : List Int) (l1 : List ByteArray) (zs : List (Term Q)) (hzs : zs.map (·.1) = l0.zip l1) (hl : l0.length ≤ l1.length) (hreach : l0.length ≤ 1000000) (w w0 : World) (hw0 : w0.heap.size ≤ n₀) (hn₀ : n₀ ≤ w.heap.size) (hwb : Below w0.heap.size w0 w) (hBt : Bt < w.heap.size)
    (hB0 : w.cell? ⟨Bt, 0, none⟩ = some (.slice A l0.length c)) (hB1 : w.cell? ⟨Bt, 1, none⟩ = some (.slice A2 l1.length c2))
    (hr0 : Kd.C (Kd.int .i64) w0 A l0.length l0) (hr1 : Kd.C Kd.string w0 A2 l1.length l1) :
    SeqStopsK F n Tryz.prog 161 #[.pointer (some ⟨Bt, 0, none⟩)] (fun x : Term Q => #[Value.int .i64 x.1.1, Value.string x.1.2]) (KpT w0.heap.size Bt) (fun ys => ys = zs) (fun pre => ∃ k, k ≤ zs.length ∧ pre = zs.take k) zs.length w := fun l J Jx W hW _ _ hY h0 => by
  have hlen : zs.length = l0.length := by have := congrArg List.length hzs; simp at this; omega
  have hB0' := (hW.cell (p := ⟨Bt, 0, none⟩) hBt).trans hB0
  have hB1' := (hW.cell (p := ⟨Bt, 1, none⟩) hBt).trans hB1
  have hall : Below w0.heap.size w0 W := hwb.trans (hW.mono (Nat.le_trans hw0 hn₀))
  rcases Nat.eq_zero_or_pos l0.length with hz | hp
  · rw [hz] at hB0' hlen
    obtain rfl := List.length_eq_zero_iff.1 hlen
    exact (all1_nil_in F n h161 hro l Bt A c J W hB0' h0).mono fun e W' ⟨he, hj⟩ => ⟨he, .inl ⟨_, rfl, hj⟩⟩
  · obtain ⟨b, o, rfl, hb, hc⟩ := plain_of_C (d := 0) hr0 hp
    obtain ⟨b2, o2, rfl, hb2, hc2⟩ := plain_of_C (d := ByteArray.empty) hr1 (by omega)
    have hz : ∀ j (hj : j < zs.length), zs[j].1 = (l0[j]'(by omega), l1[j]'(by omega)) := fun j hj => by
      have : (zs.map (·.1))[j]'(by simpa using hj) = (l0.zip l1)[j]'(by simp; omega) := by simp only [hzs]
      simpa using this
    rw [← hlen] at hB0'
    refine all1_in F n h161 hro hn l Bt w0.heap.size b o c b2 o2 l1.length c2 zs (by omega) (by omega) hb hb2 J Jx hY W hB0' hB1' (fun j hj => ?_) (fun j hj => ?_) h0
    · rw [hz j hj]; exact (hall.cell (p := ⟨b, o + j, none⟩) hb).trans (hc j (by omega))
    · rw [hz j hj]; exact (hall.cell (p := ⟨b2, o2 + j, none⟩) hb2).trans (hc2 j (by omega))
end Go.Proofs.YtailoobjgbldgaaGreatDoor.P
end
section
namespace Go.Proofs.YtailoobjgbldgaaGreatDoor.P
open Go Go.RowKit Go.Shelf Go.Proofs.YtailoobjgbldgaaGreatDoorW.PrintWords Go.Proofs.YtailoobjgbldgaaGreatDoorW.PrintLast Go.Proofs.YtailoobjgbldgaaGreatDoorW.PrintMore
variable {P : Program} {ops : Array Oper} {Q : Exit → Act → World → Prop} {md : Region.Mode}
theorem uponIn_of_upon {l n : Nat} {o : Oper} {a : Act} {K : Act → World → Prop} (r : Result Next) (h : Oper.upon P o a K Q r) : Oper.uponIn (Fence.wide.inRound l) n P o a K Q r := by
  cases r with
  | ok x w' =>
    cases x with
    | enter f args => exact And.intro (fun e => by simp [Fence.wide, Fence.inRound] at e) (CallsIn.inRound l (callsIn_wide.2 h))
    | row row args =>
      refine And.intro (fun e => by simp [Fence.wide, Fence.inRound] at e) (fun c cs _ => ?_)
      obtain ⟨v, w', r, s⟩ := (show Rows P row args _ _ from h) c cs
      exact ⟨v, w', r, stepsIn_wide.2 s⟩
    | _ => first | exact h | exact False.elim h
  | halt x w' => cases x <;> exact h
theorem opIn_of_op {l n : Nat} {o : Oper} {a : Act} {w : World} {K : Act → World → Prop} (hd : ∀ c, o.op ≠ .defer c) (h : o.wp P a w K Q) : o.wpIn (Fence.wide.inRound l) n P a w K Q := by
  refine ⟨fun _ _ => trivial, ?_⟩
  rw [Oper.semAt_eq _ _ _ hd]
  exact uponIn_of_upon _ h
theorem anyIn_of_any {l n : Nat} (hd : ∀ (i : Nat) (o : Oper), ops[i]? = some o → ∀ c, o.op ≠ .defer c) (hQ : ¬ LetsOut Q) : ∀ fuel listed a w, wpAny P md ops Q fuel listed a w → wpAnyIn (Fence.wide.inRound l) n P md ops Q fuel listed a w
  | 0, _, _, _, h => h
  | fuel + 1, listed, a, w, h => by
    refine ⟨h.1, fun i hi => ?_⟩
    have h2 := h.2 i hi
    unfold wpOp at h2
    unfold wpOpIn
    split
    · rename_i he
      rw [he] at h2
      exact anyIn_of_any hd hQ fuel _ _ _ h2
    · rename_i o he
      rw [he] at h2
      simp only at h2
      split
      · rename_i hw
        rw [if_pos hw] at h2
        rcases h2 with h2 | h2
        · exact Oper.wpIn_mono (fun a w => anyIn_of_any hd hQ fuel _ a w) (opIn_of_op (hd i o he) h2)
        · exact absurd h2.2 hQ
      · rename_i hw
        rw [if_neg hw] at h2
        exact ⟨fun _ _ => trivial, anyIn_of_any hd hQ fuel _ _ _ h2⟩
def noDefer (ops : Array Oper) : Bool := ops.all fun o => match o.op with | .defer _ => false | _ => true
theorem noDefer_spec (h : noDefer ops = true) : ∀ (i : Nat) (o : Oper), ops[i]? = some o → ∀ c, o.op ≠ .defer c := by
  intro i o hi c hc
  have := Array.all_eq_true_iff_forall_mem.1 h o (Array.mem_of_getElem? hi)
  rw [hc] at this
  cases this
theorem start_in {S : World → Prop} {ds : List Nat} {id l n N : Nat} {a : Act} {w : World} (l0 : Array Bool) (hm : P.follows .mixedOrders = true) (hd : noDefer ops = true) (hQ : ¬ LetsOut Q) (hn : ops.size = N) (hl : Array.replicate N false = l0) (hS : S w.drew)
    (h : S w.drew → wpAnyLast P .any ops Q S ds N l0 a w.drew) : (Code.region id ops true).wpIn (Fence.wide.inRound l) n P Q a w := by
  subst hn
  subst hl
  exact wpIn_region_any hm (anyIn_of_any (noDefer_spec hd) hQ _ _ _ _ (wpAny_of_last _ _ _ _ (h hS)))
end Go.Proofs.YtailoobjgbldgaaGreatDoor.P
end
section
namespace Go.Proofs.YtailoobjgbldgaaGreatDoor.Q
open Go.Proofs.YtailoobjgbldgaaGreatDoor.P
open Go.RowKit Go.Proofs.YtailoobjgbldgaaGreatDoorW.PrintWords Go.Proofs.YtailoobjgbldgaaGreatDoorW.PrintLast Go.Proofs.YtailoobjgbldgaaGreatDoorW.PrintMore
attribute [local go_sem] max2_int min2_int max_two min_two max_three min_three max_four min_four   
set_option linter.unusedVariables false
set_option linter.unusedSimpArgs false
set_option maxHeartbeats 8000000
set_option maxRecDepth 100000
def errW : Option Int → Value
 | none => .nilIface
 | some c => .iface 0 (.int .i64 c)
theorem errW_none : errW none = .nilIface := rfl
theorem errW_some (c : Int) : errW (some c) = .iface 0 (.int .i64 c) := rfl
def size_fast.l0 : Nat → Int → Int → Int → Int → Option (Int × Bool)
 | 0, _, _, _, _ => none
 | k + 1, x5, x6, x7, x21 => if x21 < 26 then ((goMul64.f x5 x5).bind fun bt102 => ((goMul64.f x6 x6).bind fun bt104 => (if (Go.bits .or .u64 (IntKind.u64.wrap (bt102.1 * 4)) (bt102.2 / 4611686018427387904)) ≥ 9223372036854775808 then (size_fast.l0 k ((Go.bits .or .u64 (IntKind.u64.wrap (bt102.1 * 4)) (bt102.2 / 4611686018427387904)) / 2) (IntKind.u64.wrap (((IntKind.u64.wrap ((Go.bits .or .u64 (IntKind.u64.wrap (bt104.1 * 4)) (bt104.2 / 4611686018427387904)) + 1)) / 2) + 1)) (wrap64 ((wrap64 (x7 * 2)) + 1)) (wrap64 (x21 + 1))) else (if (IntKind.u64.wrap ((Go.bits .or .u64 (IntKind.u64.wrap (bt104.1 * 4)) (bt104.2 / 4611686018427387904)) + 1)) ≥ 9223372036854775808 then (some (0, false)) else (size_fast.l0 k (Go.bits .or .u64 (IntKind.u64.wrap (bt102.1 * 4)) (bt102.2 / 4611686018427387904)) (IntKind.u64.wrap ((Go.bits .or .u64 (IntKind.u64.wrap (bt104.1 * 4)) (bt104.2 / 4611686018427387904)) + 1)) (wrap64 (x7 * 2)) (wrap64 (x21 + 1))))))) else (some (x7, true))
def size_fast.f (k : Nat) (a0 : Int) : Option (Int × Bool) := (goLen.f (IntKind.u64.wrap (a0))).bind fun t101 => (if 0 ≤ (wrap64 (62 - (wrap64 (t101 - 1)))) then (size_fast.l0 k (shl .u64 (IntKind.u64.wrap (a0)) (wrap64 (62 - (wrap64 (t101 - 1))))) (shl .u64 (IntKind.u64.wrap (a0)) (wrap64 (62 - (wrap64 (t101 - 1))))) (wrap64 (t101 - 1)) 0) else (none))
theorem size_fast.calls (k : Nat) (a0 : Int) (r1 : Int) (r2 : Bool) (w : World) (h : size_fast.f k a0 = some (r1, r2)) :
  Calls Tryz.prog 160 #[.int .i64 a0] w fun e w' => e = .returned (.tuple #[.int .i64 r1, .bool r2]) ∧ Drawn0 w w' := by
 have H := h
 unfold size_fast.f at H
 clear h
 obtain ⟨t101, A2, H⟩ := bo H
 try dsimp only at H
 obtain ⟨ji3, hji3⟩ : ∃ j_ : Int, (wrap64 (62 - (wrap64 (t101 - 1)))) = j_ := ⟨_, rfl⟩
 first | rw [hji3] at H | simp only [hji3] at H | skip
 (try rw [hji3] at A2)
 have hji3w : (IntKind.i64.wrap (62 - (wrap64 (t101 - 1)))) = ji3 := (i64_w _).trans hji3
 by_cases c4 : 0 ≤ (ji3)
 case neg => rw [if_neg c4] at H; cases H
 rw [if_pos c4] at H
 have c4b0 := eq_true c4
 have c4b1 := decide_eq_true c4
 clear c4
 obtain ⟨ji5, hji5⟩ : ∃ j_ : Int, (shl .u64 (IntKind.u64.wrap (a0)) (ji3)) = j_ := ⟨_, rfl⟩
 first | rw [hji5] at H | simp only [hji5] at H | skip
 (try rw [hji5] at A2)
 have hji5_ : (IntKind.u64.wrap ((IntKind.u64.wrap (a0)) * 2 ^ min (ji3).toNat 64)) = ji5 := hji5
 have hji5z : (ji3) ≤ 64 → (IntKind.u64.wrap ((IntKind.u64.wrap (a0)) * 2 ^ (ji3).toNat)) = ji5 := shl_small hji5
 have H' := am H
 clear H
 go_enter Tryz.func160, Tryz.ntmps160
 go_wp2_with (first | ((with_reducible refine gc (f := 181) rfl ?_); refine goesM (some 12) Tryz.func181 #[.int .u64 (IntKind.u64.wrap (a0))] ?_; (with_reducible refine (goLen.calls (IntKind.u64.wrap (a0)) t101 _ A2.out).mono ?_); rintro e w' ⟨rfl, ⟨nd, rfl⟩⟩; refine ⟨_, rfl, ?_⟩))
 go_loopg [5, 6, 7, 21] k (fun kq v5 v6 v7 v21 w' => ∃ (x5_1 : Int) (x6_1 : Int) (x7_1 : Int) (x21_1 : Int), v5 = .int .u64 x5_1 ∧ v6 = .int .u64 x6_1 ∧ v7 = .int .i64 x7_1 ∧ v21 = .int .i64 x21_1 ∧ Aside0 (size_fast.l0 kq x5_1 x6_1 x7_1 x21_1 = some (r1, r2)) ∧ Aside0 (kq ≤ k) ∧ Drawn0 w w')
 case atStart => exact ⟨(ji5), (ji5), (wrap64 (t101 - 1)), (0), (by first | rfl | (simp; done) | (simp only [← hji5] <;> (first | rfl | simp)) | (simp [*]; done)), (by first | rfl | (simp; done) | (simp only [← hji5] <;> (first | rfl | simp)) | (simp [*]; done)), rs, rs, H', ⟨Nat.le_refl _⟩, by repeat (first | exact Drawn0.refl _ | apply Drawn0.step)⟩
 case round =>
  clear H'
  (try clear hji3w); (try clear hji3); (try clear hji5w); (try clear hji5)
  try clear c1
  try clear p2
  try clear c4
  try clear c4b0
  try clear c4b1
  obtain ⟨x5_1, x6_1, x7_1, x21_1, rfl, rfl, rfl, rfl, HA, HK1, ⟨m1, rfl⟩⟩ := hrel
  cases gk with
  | zero => exact absurd HA.out (by simp [size_fast.l0])
  | succ k1 =>
   have H := HA.out
   clear HA
   simp only [size_fast.l0] at H
   by_cases c6 : x21_1 < 26
   ·rw [if_pos c6] at H
    have c6b0 := decide_eq_true c6
    clear c6
    obtain ⟨⟨t102, t103⟩, A7, H⟩ := bo H
    try dsimp only at H
    obtain ⟨⟨t104, t105⟩, A8, H⟩ := bo H
    try dsimp only at H
    by_cases c9 : (Go.bits .or .u64 (IntKind.u64.wrap (t102 * 4)) (t103 / 4611686018427387904)) ≥ 9223372036854775808
    ·rw [if_pos c9] at H
     have c9b0 : decide (9223372036854775808 ≤ (Go.bits .or .u64 (IntKind.u64.wrap (t102 * 4)) (t103 / 4611686018427387904))) = true := decide_eq_true c9
     clear c9
     have H' := am H
     clear H
     go_wp2_with (first | ((with_reducible refine gc (f := 182) rfl ?_); refine goesM (some 26) Tryz.func182 #[.int .u64 x5_1, .int .u64 x5_1] ?_; (with_reducible refine (goMul64.calls x5_1 x5_1 t102 t103 _ A7.out).mono ?_); rintro e w' ⟨rfl, ⟨nd, rfl⟩⟩; refine ⟨_, rfl, ?_⟩) | ((with_reducible refine gc (f := 182) rfl ?_); refine goesM (some 37) Tryz.func182 #[.int .u64 x6_1, .int .u64 x6_1] ?_; (with_reducible refine (goMul64.calls x6_1 x6_1 t104 t105 _ A8.out).mono ?_); rintro e w' ⟨rfl, ⟨nd, rfl⟩⟩; refine ⟨_, rfl, ?_⟩))
     go_roundg k1
     case measure => have := HK1.out; omega
     case rel => exact ⟨((Go.bits .or .u64 (IntKind.u64.wrap (t102 * 4)) (t103 / 4611686018427387904)) / 2), (IntKind.u64.wrap (((IntKind.u64.wrap ((Go.bits .or .u64 (IntKind.u64.wrap (t104 * 4)) (t105 / 4611686018427387904)) + 1)) / 2) + 1)), (wrap64 ((wrap64 (x7_1 * 2)) + 1)), (wrap64 (x21_1 + 1)), rs, rs, rs, rs, H', ⟨by have := HK1.out; omega⟩, by repeat (first | exact Drawn0.refl _ | apply Drawn0.step)⟩
    ·rw [if_neg c9] at H
     have c9b0 : decide (9223372036854775808 ≤ (Go.bits .or .u64 (IntKind.u64.wrap (t102 * 4)) (t103 / 4611686018427387904))) = false := decide_eq_false c9
     clear c9
     by_cases c10 : (IntKind.u64.wrap ((Go.bits .or .u64 (IntKind.u64.wrap (t104 * 4)) (t105 / 4611686018427387904)) + 1)) ≥ 9223372036854775808
     ·rw [if_pos c10] at H
      have c10b0 : decide (9223372036854775808 ≤ (IntKind.u64.wrap ((Go.bits .or .u64 (IntKind.u64.wrap (t104 * 4)) (t105 / 4611686018427387904)) + 1))) = true := decide_eq_true c10
      clear c10
      simp only [Option.some.injEq, Prod.mk.injEq] at H
      obtain ⟨rfl, rfl⟩ := H
      go_wp2_with (first | ((with_reducible refine gc (f := 182) rfl ?_); refine goesM (some 26) Tryz.func182 #[.int .u64 x5_1, .int .u64 x5_1] ?_; (with_reducible refine (goMul64.calls x5_1 x5_1 t102 t103 _ A7.out).mono ?_); rintro e w' ⟨rfl, ⟨nd, rfl⟩⟩; refine ⟨_, rfl, ?_⟩) | ((with_reducible refine gc (f := 182) rfl ?_); refine goesM (some 37) Tryz.func182 #[.int .u64 x6_1, .int .u64 x6_1] ?_; (with_reducible refine (goMul64.calls x6_1 x6_1 t104 t105 _ A8.out).mono ?_); rintro e w' ⟨rfl, ⟨nd, rfl⟩⟩; refine ⟨_, rfl, ?_⟩))
      go_ret2
      exact ⟨by first | rfl | (simp; done) | (simp only [← hji3, ← hji5] <;> (first | rfl | simp)) | (simp [*]; done), by repeat (first | exact Drawn0.refl _ | apply Drawn0.step)⟩
     ·rw [if_neg c10] at H
      have c10b0 : decide (9223372036854775808 ≤ (IntKind.u64.wrap ((Go.bits .or .u64 (IntKind.u64.wrap (t104 * 4)) (t105 / 4611686018427387904)) + 1))) = false := decide_eq_false c10
      clear c10
      have H' := am H
      clear H
      go_wp2_with (first | ((with_reducible refine gc (f := 182) rfl ?_); refine goesM (some 26) Tryz.func182 #[.int .u64 x5_1, .int .u64 x5_1] ?_; (with_reducible refine (goMul64.calls x5_1 x5_1 t102 t103 _ A7.out).mono ?_); rintro e w' ⟨rfl, ⟨nd, rfl⟩⟩; refine ⟨_, rfl, ?_⟩) | ((with_reducible refine gc (f := 182) rfl ?_); refine goesM (some 37) Tryz.func182 #[.int .u64 x6_1, .int .u64 x6_1] ?_; (with_reducible refine (goMul64.calls x6_1 x6_1 t104 t105 _ A8.out).mono ?_); rintro e w' ⟨rfl, ⟨nd, rfl⟩⟩; refine ⟨_, rfl, ?_⟩))
      go_roundg k1
      case measure => have := HK1.out; omega
      case rel => exact ⟨(Go.bits .or .u64 (IntKind.u64.wrap (t102 * 4)) (t103 / 4611686018427387904)), (IntKind.u64.wrap ((Go.bits .or .u64 (IntKind.u64.wrap (t104 * 4)) (t105 / 4611686018427387904)) + 1)), (wrap64 (x7_1 * 2)), (wrap64 (x21_1 + 1)), rs, rs, rs, rs, H', ⟨by have := HK1.out; omega⟩, by repeat (first | exact Drawn0.refl _ | apply Drawn0.step)⟩
   ·rw [if_neg c6] at H
    have c6b0 := decide_eq_false c6
    clear c6
    simp only [Option.some.injEq, Prod.mk.injEq] at H
    obtain ⟨rfl, rfl⟩ := H
    go_wp2
    go_ret2
    exact ⟨by first | rfl | (simp; done) | (simp only [← hji3, ← hji5] <;> (first | rfl | simp)) | (simp [*]; done), by repeat (first | exact Drawn0.refl _ | apply Drawn0.step)⟩
end Go.Proofs.YtailoobjgbldgaaGreatDoor.Q
end
section
namespace Go.Proofs.YtailoobjgbldgaaGreatDoor.P
set_option linter.unusedSimpArgs false
set_option linter.unusedVariables false
open Go Go.RowKit Go.Shelf Go.Proofs.YtailoobjgbldgaaGreatDoorW.PrintWords Go.Proofs.YtailoobjgbldgaaGreatDoorW.PrintLast Go.Proofs.YtailoobjgbldgaaGreatDoorW.PrintMore
attribute [local go_sem] Oper.semAt_some max2_int min2_int
theorem boxed_below_ {W W1 : World} {n b : Nat} {t : TypeId} {v : Value} (h : Boxed W b t v) (hb : Below n W W1) (hn : b < n) : Boxed W1 b t v := (hb.block b hn).trans h
theorem keepsFrom_of_below {W W1 : World} (B : Nat) (hb : Below W.heap.size W W1) : KeepsFrom B W W1 := ⟨hb.size, fun k _ _ hk _ => (hb.block k (Array.getElem?_eq_some_iff.1 hk).1).trans hk⟩
theorem KpT.of_below {n₀ Bt : Nat} {W W1 : World} (hb : Below W.heap.size W W1) (h0 : n₀ ≤ W.heap.size) (hB : Bt < W.heap.size) : KpT n₀ Bt W W1 := ⟨hb.mono h0, hb.block Bt hB⟩
theorem KpT.set {n₀ Bt : Nat} {W W1 : World} (h : KpT n₀ Bt W W1) (b : Nat) (v : Value) (h0 : n₀ ≤ b) (hne : b ≠ Bt) : KpT n₀ Bt W (W1.setCell ⟨b, 0, none⟩ v) :=
  ⟨h.1.setCell (p := ⟨b, 0, none⟩) h0 v, (Below.heap_setCell _ _ _ Bt (fun e => hne e.symm)).trans h.2⟩
theorem kpT_b {n₀ Bt : Nat} {w : World} (hn : n₀ ≤ w.heap.size) (hB : Bt < w.heap.size) (W : World) (l : Nat) (o o' : Obj) (hl : w.heap.size ≤ l) (h : W.heap[l]? = some o) (h1 : o.isCells = false) (h2 : o.isWalk = false) : KpT n₀ Bt W (W.putObj l o') :=
  ⟨belowK_b hn W l o o' hl h h1 h2, (grownBy_putObj' W l o').block Bt (by have := (Array.getElem?_eq_some_iff.1 h).1; omega) (fun e => by cases e; omega)⟩
def nearStep (most : Int) (lh : Int × Int) (p : Int) (k : ByteArray) : Option (Int × Int) :=
  match wSmall.f k, Q.size_fast.f 100 p with
  | some (n, is), some (a, ct) =>
    if is = true ∧ n ≤ most ∧ wrap64 (-most) ≤ n ∧ ct = true then
      some (wrap64 (lh.1 + min (wrap64 (n * a)) (wrap64 (n * if p = 2 then a else wrap64 (a + 1)))), wrap64 (lh.2 + max (wrap64 (n * a)) (wrap64 (n * if p = 2 then a else wrap64 (a + 1)))))
    else none
  | _, _ => none
def nearFold (most : Int) : List (Int × ByteArray) → Int × Int → Option (Int × Int)
  | [], lh => some lh
  | x :: xs, lh => (nearStep most lh x.1 x.2).bind (nearFold most xs)
theorem nearFold_append (most : Int) : ∀ (xs ys : List (Int × ByteArray)) (lh : Int × Int), nearFold most (xs ++ ys) lh = (nearFold most xs lh).bind (nearFold most ys)
  | [], _, _ => rfl
  | x :: xs, ys, lh => by
    simp only [List.cons_append, nearFold]
    cases nearStep most lh x.1 x.2 with
    | none => rfl
    | some lh' => exact nearFold_append most xs ys lh'
def nearGood (p : Int) (k : ByteArray) : Prop := (wSmall.f k).isSome = true ∧ (Q.size_fast.f 100 p).isSome = true
instance (p : Int) (k : ByteArray) : Decidable (nearGood p k) := inferInstanceAs (Decidable (_ ∧ _))
def tNear.f (l0 : List Int) (l1 : List ByteArray) (_ : ByteArray) (most : Int) : Option (Int × Int × Bool) :=
  if l0.length ≤ l1.length ∧ l0.length ≤ 1000 ∧ (∀ x ∈ l0.zip l1, nearGood x.1 x.2) then
    some (match nearFold most (l0.zip l1) (0, 0) with | some (lo, hi) => (lo, hi, true) | none => (0, 0, false))
  else none
structure NS (B : Nat) (most lo hi : Int) (is : Bool) (W : World) : Prop where
  b1 : Boxed W (B + 1) 3 (.int .i64 most)
  b2 : Boxed W (B + 2) 3 (.int .i64 lo)
  b3 : Boxed W (B + 3) 3 (.int .i64 hi)
  b4 : Boxed W (B + 4) 4 (.bool is)
theorem NS.below {B : Nat} {most lo hi : Int} {is : Bool} {W W1 : World} (h : NS B most lo hi is W) (hb : Below W.heap.size W W1) : NS B most lo hi is W1 :=
  ⟨boxed_below_ h.b1 hb h.b1.lt, boxed_below_ h.b2 hb h.b2.lt, boxed_below_ h.b3 hb h.b3.lt, boxed_below_ h.b4 hb h.b4.lt⟩
theorem NS.kept {B : Nat} {most lo hi : Int} {is : Bool} {W W1 : World} {row : Option Nat} (h : NS B most lo hi is W) (hg : W.grownBy W1 row) (hr : ∀ r, row = some r → ∃ o : Obj, W.heap[r]? = some o ∧ o.isCells = false) : NS B most lo hi is W1 :=
  have hk : ∀ {b : Nat} {t : TypeId} {v : Value}, Boxed W b t v → Boxed W1 b t v := fun {b t v} hs => hs.kept hg (fun e' => by obtain ⟨o, ho, hc⟩ := hr b e'.symm; rw [show W.heap[b]? = _ from hs] at ho; cases ho; cases hc)
  ⟨hk h.b1, hk h.b2, hk h.b3, hk h.b4⟩
abbrev NearI (w : World) (most : Int) (pre : List (Term nearGood)) (W : World) : Prop := (∃ lh, nearFold most (pre.map (·.1)) (0, 0) = some lh ∧ NS w.heap.size most lh.1 lh.2 false W ∧ w.heap.size + 5 < W.heap.size) ∧ Below w.heap.size w W
abbrev NearX (w : World) (most : Int) (c : Code) (pre : List (Term nearGood)) (W : World) : Prop := (c = .ret ∧ nearFold most (pre.map (·.1)) (0, 0) = none ∧ NS w.heap.size most 0 0 false W) ∧ Below w.heap.size w W
theorem NS.set2 {B : Nat} {most lo hi : Int} {is : Bool} {W : World} (h : NS B most lo hi is W) (v : Int) : NS B most v hi is (W.setCell ⟨B + 2, 0, none⟩ (.int .i64 v)) :=
  ⟨h.b1.other (by omega) _, h.b2.set _, h.b3.other (by omega) _, h.b4.other (by omega) _⟩
theorem NS.set3 {B : Nat} {most lo hi : Int} {is : Bool} {W : World} (h : NS B most lo hi is W) (v : Int) : NS B most lo v is (W.setCell ⟨B + 3, 0, none⟩ (.int .i64 v)) :=
  ⟨h.b1.other (by omega) _, h.b2.other (by omega) _, h.b3.set _, h.b4.other (by omega) _⟩
theorem NS.set4 {B : Nat} {most lo hi : Int} {is : Bool} {W : World} (h : NS B most lo hi is W) (v : Bool) : NS B most lo hi v (W.setCell ⟨B + 4, 0, none⟩ (.bool v)) :=
  ⟨h.b1.other (by omega) _, h.b2.other (by omega) _, h.b3.other (by omega) _, h.b4.set _⟩
theorem NS.drew {B : Nat} {most lo hi : Int} {is : Bool} {W : World} (h : NS B most lo hi is W) : NS B most lo hi is W.drew := ⟨h.b1, h.b2, h.b3, h.b4⟩
theorem nearStep_none {most : Int} {lh : Int × Int} {p : Int} {k : ByteArray} {n a : Int} {is ct : Bool} (hn : wSmall.f k = some (n, is)) (ha : Q.size_fast.f 100 p = some (a, ct)) (hc : ¬ (is = true ∧ n ≤ most ∧ wrap64 (-most) ≤ n ∧ ct = true)) : nearStep most lh p k = none := by
  unfold nearStep
  rw [hn, ha]
  exact if_neg hc
theorem nearStep_some {most : Int} {lh : Int × Int} {p : Int} {k : ByteArray} {n a : Int} {is ct : Bool} (hn : wSmall.f k = some (n, is)) (ha : Q.size_fast.f 100 p = some (a, ct)) (hc : is = true ∧ n ≤ most ∧ wrap64 (-most) ≤ n ∧ ct = true) : nearStep most lh p k = some (wrap64 (lh.1 + min (wrap64 (n * a)) (wrap64 (n * if p = 2 then a else wrap64 (a + 1)))), wrap64 (lh.2 + max (wrap64 (n * a)) (wrap64 (n * if p = 2 then a else wrap64 (a + 1))))) := by
  unfold nearStep
  rw [hn, ha]
  exact if_pos hc
theorem nearFold_snoc {most : Int} {pre : List (Term nearGood)} {lh : Int × Int} {x : Term nearGood} (he : nearFold most (pre.map (·.1)) (0, 0) = some lh) : nearFold most ((pre ++ [x]).map (·.1)) (0, 0) = nearStep most lh x.1.1 x.1.2 := by
  rw [List.map_append, nearFold_append, he]
  show nearFold most [x.1] lh = _
  unfold nearFold
  cases nearStep most lh x.1.1 x.1.2 <;> rfl
theorem near_ret {w W W1 : World} {most lo hi : Int} {pre : List (Term nearGood)} {x : Term nearGood} (N : Nat) (hB : Below w.heap.size w W) (hb : Below W.heap.size W W1) (hS : NS w.heap.size most lo hi false W1)
    (he : nearFold most (pre.map (·.1)) (0, 0) = some (lo, hi)) (hn : nearStep most (lo, hi) x.1.1 x.1.2 = none) :
    KeepsFrom N W (((W1.setCell ⟨w.heap.size + 2, 0, none⟩ (.int .i64 0)).setCell ⟨w.heap.size + 3, 0, none⟩ (.int .i64 0)).setCell ⟨w.heap.size + 4, 0, none⟩ (.bool false)) ∧ NearX w most .ret (pre ++ [x]) (((W1.setCell ⟨w.heap.size + 2, 0, none⟩ (.int .i64 0)).setCell ⟨w.heap.size + 3, 0, none⟩ (.int .i64 0)).setCell ⟨w.heap.size + 4, 0, none⟩ (.bool false)) :=
  ⟨(keepsFrom_of_below N hb).trans ((((KeepsOthers.setCell _ _ _).trans (KeepsOthers.setCell _ _ _)).trans (KeepsOthers.setCell _ _ _)).from N),
   ⟨rfl, (nearFold_snoc he).trans hn, ((hS.set2 0).set3 0).set4 false⟩,
   (((hB.trans (hb.mono hB.size)).setCell (p := ⟨w.heap.size + 2, 0, none⟩) (by simp) _).setCell (p := ⟨w.heap.size + 3, 0, none⟩) (by simp) _).setCell (p := ⟨w.heap.size + 4, 0, none⟩) (by simp) _⟩
theorem near_go {w W W1 : World} {most lo hi lo' hi' : Int} {pre : List (Term nearGood)} {x : Term nearGood} (N Bt : Nat) (hB : Below w.heap.size w W) (hb : Below W.heap.size W W1) (hS : NS w.heap.size most lo hi false W1)
    (he : nearFold most (pre.map (·.1)) (0, 0) = some (lo, hi)) (hn : nearStep most (lo, hi) x.1.1 x.1.2 = some (lo', hi')) (hBt : Bt < W.heap.size) (hBt2 : w.heap.size + 4 < Bt) (hBtw : w.heap.size + 5 < W.heap.size) :
    KeepsFrom N W ((W1.setCell ⟨w.heap.size + 2, 0, none⟩ (.int .i64 lo')).setCell ⟨w.heap.size + 3, 0, none⟩ (.int .i64 hi')).drew ∧ KpT w.heap.size Bt W ((W1.setCell ⟨w.heap.size + 2, 0, none⟩ (.int .i64 lo')).setCell ⟨w.heap.size + 3, 0, none⟩ (.int .i64 hi')).drew ∧ NearI w most (pre ++ [x]) ((W1.setCell ⟨w.heap.size + 2, 0, none⟩ (.int .i64 lo')).setCell ⟨w.heap.size + 3, 0, none⟩ (.int .i64 hi')).drew :=
  have hk : KpT w.heap.size Bt W ((W1.setCell ⟨w.heap.size + 2, 0, none⟩ (.int .i64 lo')).setCell ⟨w.heap.size + 3, 0, none⟩ (.int .i64 hi')) := ((KpT.of_below hb hB.size hBt).set (w.heap.size + 2) _ (by omega) (by omega)).set (w.heap.size + 3) _ (by omega) (by omega)
  ⟨(keepsFrom_of_below N hb).trans ((((KeepsOthers.setCell _ _ _).trans (KeepsOthers.setCell _ _ _)).trans (KeepsOthers.drew _)).from N),
   ⟨hk.1.drew, hk.2⟩,
   ⟨(lo', hi'), (nearFold_snoc he).trans hn, ((hS.set2 lo').set3 hi').drew, by simpa using Nat.lt_of_lt_of_le hBtw hb.size⟩,
   (((hB.trans (hb.mono hB.size)).setCell (p := ⟨w.heap.size + 2, 0, none⟩) (by simp) _).setCell (p := ⟨w.heap.size + 3, 0, none⟩) (by simp) _).drew⟩
set_option maxRecDepth 100000 in
set_option maxHeartbeats 4000000 in
theorem tNear.calls (A0_0 : Option Addr) (c0_0 : Nat) (l0_0 : List Int) (A0_1 : Option Addr) (c0_1 : Nat) (l0_1 : List ByteArray) (a0_2 : ByteArray) (a1 r1 r2 : Int) (r3 : Bool) (w : World) (hG : Glob w) (hr0_0 : Kd.C (Kd.int .i64) w A0_0 l0_0.length l0_0) (hc0_0 : l0_0.length ≤ c0_0) (hr0_1 : Kd.C Kd.string w A0_1 l0_1.length l0_1) (hc0_1 : l0_1.length ≤ c0_1) (h : tNear.f l0_0 l0_1 a0_2 a1 = some (r1, r2, r3)) :
    Calls Tryz.prog 134 #[.agg #[.slice A0_0 l0_0.length c0_0, .slice A0_1 l0_1.length c0_1, .string a0_2], .int .i64 a1] w fun e w' => e = .returned (.tuple #[.int .i64 r1, .int .i64 r2, .bool r3]) ∧ Below w.heap.size w w' := by
  unfold tNear.f at h
  by_cases hq : l0_0.length ≤ l0_1.length ∧ l0_0.length ≤ 1000 ∧ (∀ x ∈ l0_0.zip l0_1, nearGood x.1 x.2)
  case neg => rw [if_neg hq] at h; cases h
  rw [if_pos hq] at h
  obtain ⟨hl, hlen, hgood⟩ := hq
  obtain ⟨zs, hzs⟩ : ∃ zs : List (Term nearGood), zs.map (·.1) = l0_0.zip l0_1 := ⟨(l0_0.zip l0_1).attach.map (fun x => ⟨x.1, hgood x.1 x.2⟩), by rw [List.map_map]; exact List.attach_map_subtype_val _⟩
  rw [← hzs] at h
  refine (callsIn_wide (n := 6)).1 ?_
  refine callsIn_of_wp_marks Tryz.func134 rfl trivial ?_ rfl
  simp only [Tryz.ntmps134, List.size_toArray, List.length_cons, List.length_nil, Nat.reduceAdd, Nat.reduceSub, Array.replicate_succ, Array.replicate_zero, List.push_toArray, List.append_toArray, List.nil_append, List.cons_append]
  gi_wp2_with (refine ⟨trivial, ?_⟩; gi_at_call 135; refine (all_in Fence.wide _ trivial rfl _ _ _ _).mono ?_; rintro e w' ⟨rfl, rfl⟩)
  have hB5 : Below w.heap.size w (((((w.alloc (.cells #[.slice A0_0 l0_0.length c0_0, .slice A0_1 l0_1.length c0_1, .string a0_2] 103)).alloc (.cells #[.int .i64 a1] 3)).alloc (.cells #[.int .i64 0] 3)).alloc (.cells #[.int .i64 0] 3)).alloc (.cells #[.bool false] 4)) := (((((Below.refl _ w).alloc (Nat.le_refl _) _).alloc (by simp only [World.size_alloc]; omega) _).alloc (by simp only [World.size_alloc]; omega) _).alloc (by simp only [World.size_alloc]; omega) _).alloc (by simp only [World.size_alloc]; omega) _
  have hS5 : NS w.heap.size a1 0 0 false (((((w.alloc (.cells #[.slice A0_0 l0_0.length c0_0, .slice A0_1 l0_1.length c0_1, .string a0_2] 103)).alloc (.cells #[.int .i64 a1] 3)).alloc (.cells #[.int .i64 0] 3)).alloc (.cells #[.int .i64 0] 3)).alloc (.cells #[.bool false] 4)) := by
    have z1 := Boxed.new (w.alloc (.cells #[.slice A0_0 l0_0.length c0_0, .slice A0_1 l0_1.length c0_1, .string a0_2] 103)) 3 (.int .i64 a1)
    have z2 := Boxed.new ((w.alloc (.cells #[.slice A0_0 l0_0.length c0_0, .slice A0_1 l0_1.length c0_1, .string a0_2] 103)).alloc (.cells #[.int .i64 a1] 3)) 3 (.int .i64 0)
    have z3 := Boxed.new (((w.alloc (.cells #[.slice A0_0 l0_0.length c0_0, .slice A0_1 l0_1.length c0_1, .string a0_2] 103)).alloc (.cells #[.int .i64 a1] 3)).alloc (.cells #[.int .i64 0] 3)) 3 (.int .i64 0)
    have z4 := Boxed.new ((((w.alloc (.cells #[.slice A0_0 l0_0.length c0_0, .slice A0_1 l0_1.length c0_1, .string a0_2] 103)).alloc (.cells #[.int .i64 a1] 3)).alloc (.cells #[.int .i64 0] 3)).alloc (.cells #[.int .i64 0] 3)) 4 (.bool false)
    simp only [World.size_alloc] at z1 z2 z3 z4
    exact ⟨((z1.alloc _).alloc _).alloc _, (z2.alloc _).alloc _, z3.alloc _, z4⟩
  obtain ⟨w5, hw5⟩ : ∃ w5, (((((w.alloc (.cells #[.slice A0_0 l0_0.length c0_0, .slice A0_1 l0_1.length c0_1, .string a0_2] 103)).alloc (.cells #[.int .i64 a1] 3)).alloc (.cells #[.int .i64 0] 3)).alloc (.cells #[.int .i64 0] 3)).alloc (.cells #[.bool false] 4)) = w5 := ⟨_, rfl⟩
  have hsz : w5.heap.size = w.heap.size + 5 := by rw [← hw5]; simp
  rw [hw5] at hB5 hS5 ⊢
  have hcells := World.alloc_heap_new w5 (.cells #[.slice A0_0 l0_0.length c0_0, .slice A0_1 l0_1.length c0_1, .string a0_2] 103)
  rw [hsz] at hcells
  have hT0 : (w5.alloc (.cells #[.slice A0_0 l0_0.length c0_0, .slice A0_1 l0_1.length c0_1, .string a0_2] 103)).cell? ⟨w.heap.size + 5, 0, none⟩ = some (.slice A0_0 l0_0.length c0_0) := by simp [World.cell?, hcells]
  have hT1 : (w5.alloc (.cells #[.slice A0_0 l0_0.length c0_0, .slice A0_1 l0_1.length c0_1, .string a0_2] 103)).cell? ⟨w.heap.size + 5, 1, none⟩ = some (.slice A0_1 l0_1.length c0_1) := by simp [World.cell?, hcells]
  have hB6 := hB5.alloc (show w.heap.size ≤ w5.heap.size by omega) (.cells #[.slice A0_0 l0_0.length c0_0, .slice A0_1 l0_1.length c0_1, .string a0_2] 103)
  have hS6 := hS5.below ((Below.refl w5.heap.size w5).alloc (Nat.le_refl _) (.cells #[.slice A0_0 l0_0.length c0_0, .slice A0_1 l0_1.length c0_1, .string a0_2] 103))
  have hsz6 : (w5.alloc (.cells #[.slice A0_0 l0_0.length c0_0, .slice A0_1 l0_1.length c0_1, .string a0_2] 103)).heap.size = w.heap.size + 6 := by simp only [World.size_alloc]; omega
  obtain ⟨w6, hw6⟩ : ∃ w6, w5.alloc (.cells #[.slice A0_0 l0_0.length c0_0, .slice A0_1 l0_1.length c0_1, .string a0_2] 103) = w6 := ⟨_, rfl⟩
  rw [hw6] at hT0 hT1 hB6 hS6 hsz6 ⊢
  clear hcells hw6 hS5 hB5 hw5 hsz
  simp only [Nat.add_assoc, Nat.reduceAdd]
  refine wpIn_rangeFunc_ownG rfl (by omega) (gf := 161) (lb := #[.pointer (some ⟨w.heap.size + 5, 0, none⟩)]) rfl trivial (enters_of Tryz.func161 (by kernel_rfl) rfl)
    (all_stops Fence.wide _ trivial rfl (by omega) (w.heap.size + 5) w.heap.size A0_0 A0_1 c0_0 c0_1 l0_0 l0_1 zs hzs hl (by omega) _ w (Nat.le_refl _) (by omega) hB6 (by omega) hT0 hT1 hr0_0 hr0_1) KpT.trans (kpT_b (by omega) (by omega)) (Below.refl _ _) (fun _ => rfl)
    (NearI w a1) (NearX w a1)
    (OwnFrom.and (Own.from (fun s A B row hs hg hr => by obtain ⟨lh, e, hs, hz⟩ := hs; exact ⟨lh, e, hs.kept hg hr, Nat.lt_of_lt_of_le hz hg.size⟩) _) (ownFrom_below (Nat.le_refl _) (by omega)))
    (fun c => OwnFrom.and (Own.from (fun s A B row hs hg hr => ⟨hs.1, hs.2.1, hs.2.2.kept hg hr⟩) _) (ownFrom_below (Nat.le_refl _) (by omega)))
    ⟨⟨(0, 0), rfl, hS6, by omega⟩, hB6⟩
    (fun x => { tmps := #[.agg #[.slice A0_0 l0_0.length c0_0, .slice A0_1 l0_1.length c0_1, .string a0_2], .int .i64 a1, .pointer (some ⟨w.heap.size, 0, none⟩), .pointer (some ⟨w.heap.size + 1, 0, none⟩), .pointer (some ⟨w.heap.size + 2, 0, none⟩), .pointer (some ⟨w.heap.size + 3, 0, none⟩), .pointer (some ⟨w.heap.size + 4, 0, none⟩), .int .i64 x.1.1, .string x.1.2, undef, undef, undef, undef, undef, .agg #[.slice A0_0 l0_0.length c0_0, .slice A0_1 l0_1.length c0_1, .string a0_2], .func (.func 161) #[] #[.pointer (some ⟨w.heap.size + 5, 0, none⟩)], .int .i64 x.1.1, .string x.1.2, undef, undef, undef, undef, undef, undef, undef, undef, undef, undef, undef, undef, undef, undef, undef, undef, undef, undef, undef, undef, undef, undef, undef, undef, undef, undef, undef, undef, undef, undef, undef, undef, undef, undef, undef, undef, undef, undef, undef, undef, undef, undef, undef, undef, undef, undef, undef, undef, undef, undef], defers := [] }) ?assign ?body ?done ?stop
  case assign =>
    intro l x W K hK
    gi_wp2
    exact hK
  case body =>
    rintro l pre ⟨⟨p, k⟩, hk1, hk2⟩ W ⟨⟨⟨lo, hi⟩, he, hS, hz⟩, hB⟩ _
    obtain ⟨⟨n, is⟩, hn⟩ := Option.isSome_iff_exists.1 hk1
    obtain ⟨⟨a, ct⟩, ha⟩ := Option.isSome_iff_exists.1 hk2
    skip
    have hGW : Glob W := hG.below hB
    have d1 := hS.b1.cell
    clear hr0_0 hr0_1 hzs hgood h hT0 hT1 hS6
    gi_wp2_with (first | (refine ⟨trivial, ?_⟩; gi_at_call 110; refine (CallsIn.inRound l (callsIn_wide.2 (wSmall.calls _ n is _ hGW hn))).mono ?_; rintro e w1 ⟨rfl, hb1⟩; have hS1 := hS.below hb1; have d1 := hS1.b1.cell; have d2 := hS1.b2.cell; have d3 := hS1.b3.cell; have d4 := hS1.b4.cell; have f2 := hS1.b2.frozen; have f3 := hS1.b3.frozen; have f4 := hS1.b4.frozen) | (refine ⟨trivial, ?_⟩; gi_at_call 160; refine (CallsIn.inRound l (callsIn_wide.2 (Q.size_fast.calls 100 _ a ct _ ha))).mono ?_; rintro e w2 ⟨rfl, hb2⟩; have hb2' := hb2.below; have hS2 := hS1.below hb2'; have d1 := hS2.b1.cell; have d2 := hS2.b2.cell; have d3 := hS2.b3.cell; have d4 := hS2.b4.cell; have f2 := hS2.b2.frozen; have f3 := hS2.b3.frozen; have f4 := hS2.b4.frozen))
    rotate_left 2
    · have hmx : Tryz.prog.follows .mixedOrders = true := by kernel_rfl
      refine start_in (N := 20) (S := fun w' => w'.cell? ⟨w.heap.size + 3, 0, none⟩ = some (.int .i64 hi)) (ds := [19]) #[false, false, false, false, false, false, false, false, false, false, false, false, false, false, false, false, false, false, false, false] hmx (by kernel_rfl) (fun h => by obtain ⟨_, _, h⟩ := h; exact h) rfl rfl d3 (fun hHeld => ?_)
      refine purM (i := 1) (N := some 49) #[false, true, false, false, false, false, false, false, false, false, false, false, false, false, false, false, false, false, false, false] ?_ (hc := by kernel_rfl)
      refine purM (i := 2) (N := some 50) #[false, true, true, false, false, false, false, false, false, false, false, false, false, false, false, false, false, false, false, false] ?_ (hc := by kernel_rfl)
      refine purM (i := 4) (N := some 52) #[false, true, true, false, true, false, false, false, false, false, false, false, false, false, false, false, false, false, false, false] ?_ (hc := by kernel_rfl)
      refine purM (i := 5) (N := some 53) #[false, true, true, false, true, true, false, false, false, false, false, false, false, false, false, false, false, false, false, false] ?_ (hc := by kernel_rfl)
      refine purM (i := 10) (N := some 58) #[false, true, true, false, true, true, false, false, false, false, true, false, false, false, false, false, false, false, false, false] ?_ (hc := by kernel_rfl)
      refine purM (i := 11) (N := some 59) #[false, true, true, false, true, true, false, false, false, false, true, true, false, false, false, false, false, false, false, false] ?_ (hc := by kernel_rfl)
      refine purM (i := 13) (N := some 61) #[false, true, true, false, true, true, false, false, false, false, true, true, false, true, false, false, false, false, false, false] ?_ (hc := by kernel_rfl)
      refine purM (i := 14) (N := some 62) #[false, true, true, false, true, true, false, false, false, false, true, true, false, true, true, false, false, false, false, false] ?_ (hc := by kernel_rfl)
      refine purM (i := 3) (N := some 51) #[false, true, true, true, true, true, false, false, false, false, true, true, false, true, true, false, false, false, false, false] ?_ (hc := by kernel_rfl)
      refine purM (i := 6) (N := some 54) #[false, true, true, true, true, true, true, false, false, false, true, true, false, true, true, false, false, false, false, false] ?_ (hc := by kernel_rfl)
      refine purM (i := 7) (N := some 55) #[false, true, true, true, true, true, true, true, false, false, true, true, false, true, true, false, false, false, false, false] ?_ (hc := by kernel_rfl)
      refine purM (i := 12) (N := some 60) #[false, true, true, true, true, true, true, true, false, false, true, true, true, true, true, false, false, false, false, false] ?_ (hc := by kernel_rfl)
      refine purM (i := 15) (N := some 63) #[false, true, true, true, true, true, true, true, false, false, true, true, true, true, true, true, false, false, false, false] ?_ (hc := by kernel_rfl)
      refine purM (i := 16) (N := some 64) #[false, true, true, true, true, true, true, true, false, false, true, true, true, true, true, true, true, false, false, false] ?_ (hc := by kernel_rfl)
      refine take_ (i := 9) (N := some 57) (v := ?_) (a' := ?_) #[false, true, true, true, true, true, true, true, false, true, true, true, true, true, true, true, true, false, false, false] rfl rfl (by kernel_rfl) (fun _ _ _ h => h) (Or.inl ⟨by rfl, ?_⟩) hHeld ?_ ?_
      rotate_left
      · intro w' s0
        go_simp
        with_reducible rfl
      rotate_left
      · simp only [Act.put, List.setIfInBounds_toArray, List.set_cons_zero, List.set_cons_succ, i64_w, i32_w]
        rfl
      refine purM (i := 17) (N := some 65) #[false, true, true, true, true, true, true, true, false, true, true, true, true, true, true, true, true, true, false, false] ?_ (hc := by kernel_rfl)
      refine one_ (i := 0) (N := some 48) #[true, true, true, true, true, true, true, true, false, true, true, true, true, true, true, true, true, true, false, false] rfl rfl (by kernel_rfl) (by decide) (fun K hK => ?_)
      refine value_ (w1 := ?_) (v := ?_) (by rfl) rfl ?_ ?_
      rotate_left 2
      · go_simp
        constructor
        · rfl
        · rfl
      refine hK.out _ _ hHeld (fun hHeld => ?_)
      clear hK K
      refine norm_ (a' := ?_) ?_ ?_
      rotate_left
      · show Act.put _ (some 48) _ = _
        simp only [Act.put, List.setIfInBounds_toArray, List.set_cons_zero, List.set_cons_succ, i64_w, i32_w]
        rfl
      refine purM (i := 8) (N := some 56) #[true, true, true, true, true, true, true, true, true, true, true, true, true, true, true, true, true, true, false, false] ?_ (hc := by kernel_rfl)
      refine one_ (i := 18) (N := none) #[true, true, true, true, true, true, true, true, true, true, true, true, true, true, true, true, true, true, true, false] rfl rfl (by kernel_rfl) (by decide) (fun K hK => ?_)
      refine skip_ (w1 := ?_) (by rfl) rfl ?_ ?_
      rotate_left
      · go_simp
        rfl
      have e3 := fun v => hS2.b3.other (B' := w.heap.size + 2) (by omega) v
      have e3c := fun v => (e3 v).cell
      have e3f := fun v => (e3 v).frozen
      refine hK.out _ _ (e3c _) (fun hHeld => ?_)
      clear hK K
      refine last_ (i := 19) (N := none) #[true, true, true, true, true, true, true, true, true, true, true, true, true, true, true, true, true, true, true, true] rfl rfl (by kernel_rfl) (by decide) (fun K hK => ?_)
      refine skip_ (w1 := ?_) (by rfl) rfl ?_ ?_
      rotate_left
      · go_simp
        rfl
      refine hK.out _ _ ?_
      clear hK K
      refine done_ (by kernel_rfl) ?_
      gi_wp2
      have hb12 : Below W.heap.size W w2 := hb1.trans (hb2'.mono hb1.size)
      exact near_go _ _ hB hb12 hS2 he (by rw [nearStep_some hn ha (by simp_all)]; simp_all) hz (by omega) hz
    · have hmx : Tryz.prog.follows .mixedOrders = true := by kernel_rfl
      refine start_in (N := 20) (S := fun w' => w'.cell? ⟨w.heap.size + 3, 0, none⟩ = some (.int .i64 hi)) (ds := [19]) #[false, false, false, false, false, false, false, false, false, false, false, false, false, false, false, false, false, false, false, false] hmx (by kernel_rfl) (fun h => by obtain ⟨_, _, h⟩ := h; exact h) rfl rfl d3 (fun hHeld => ?_)
      refine purM (i := 1) (N := some 49) #[false, true, false, false, false, false, false, false, false, false, false, false, false, false, false, false, false, false, false, false] ?_ (hc := by kernel_rfl)
      refine purM (i := 2) (N := some 50) #[false, true, true, false, false, false, false, false, false, false, false, false, false, false, false, false, false, false, false, false] ?_ (hc := by kernel_rfl)
      refine purM (i := 4) (N := some 52) #[false, true, true, false, true, false, false, false, false, false, false, false, false, false, false, false, false, false, false, false] ?_ (hc := by kernel_rfl)
      refine purM (i := 5) (N := some 53) #[false, true, true, false, true, true, false, false, false, false, false, false, false, false, false, false, false, false, false, false] ?_ (hc := by kernel_rfl)
      refine purM (i := 10) (N := some 58) #[false, true, true, false, true, true, false, false, false, false, true, false, false, false, false, false, false, false, false, false] ?_ (hc := by kernel_rfl)
      refine purM (i := 11) (N := some 59) #[false, true, true, false, true, true, false, false, false, false, true, true, false, false, false, false, false, false, false, false] ?_ (hc := by kernel_rfl)
      refine purM (i := 13) (N := some 61) #[false, true, true, false, true, true, false, false, false, false, true, true, false, true, false, false, false, false, false, false] ?_ (hc := by kernel_rfl)
      refine purM (i := 14) (N := some 62) #[false, true, true, false, true, true, false, false, false, false, true, true, false, true, true, false, false, false, false, false] ?_ (hc := by kernel_rfl)
      refine purM (i := 3) (N := some 51) #[false, true, true, true, true, true, false, false, false, false, true, true, false, true, true, false, false, false, false, false] ?_ (hc := by kernel_rfl)
      refine purM (i := 6) (N := some 54) #[false, true, true, true, true, true, true, false, false, false, true, true, false, true, true, false, false, false, false, false] ?_ (hc := by kernel_rfl)
      refine purM (i := 7) (N := some 55) #[false, true, true, true, true, true, true, true, false, false, true, true, false, true, true, false, false, false, false, false] ?_ (hc := by kernel_rfl)
      refine purM (i := 12) (N := some 60) #[false, true, true, true, true, true, true, true, false, false, true, true, true, true, true, false, false, false, false, false] ?_ (hc := by kernel_rfl)
      refine purM (i := 15) (N := some 63) #[false, true, true, true, true, true, true, true, false, false, true, true, true, true, true, true, false, false, false, false] ?_ (hc := by kernel_rfl)
      refine purM (i := 16) (N := some 64) #[false, true, true, true, true, true, true, true, false, false, true, true, true, true, true, true, true, false, false, false] ?_ (hc := by kernel_rfl)
      refine take_ (i := 9) (N := some 57) (v := ?_) (a' := ?_) #[false, true, true, true, true, true, true, true, false, true, true, true, true, true, true, true, true, false, false, false] rfl rfl (by kernel_rfl) (fun _ _ _ h => h) (Or.inl ⟨by rfl, ?_⟩) hHeld ?_ ?_
      rotate_left
      · intro w' s0
        go_simp
        with_reducible rfl
      rotate_left
      · simp only [Act.put, List.setIfInBounds_toArray, List.set_cons_zero, List.set_cons_succ, i64_w, i32_w]
        rfl
      refine purM (i := 17) (N := some 65) #[false, true, true, true, true, true, true, true, false, true, true, true, true, true, true, true, true, true, false, false] ?_ (hc := by kernel_rfl)
      refine one_ (i := 0) (N := some 48) #[true, true, true, true, true, true, true, true, false, true, true, true, true, true, true, true, true, true, false, false] rfl rfl (by kernel_rfl) (by decide) (fun K hK => ?_)
      refine value_ (w1 := ?_) (v := ?_) (by rfl) rfl ?_ ?_
      rotate_left 2
      · go_simp
        constructor
        · rfl
        · rfl
      refine hK.out _ _ hHeld (fun hHeld => ?_)
      clear hK K
      refine norm_ (a' := ?_) ?_ ?_
      rotate_left
      · show Act.put _ (some 48) _ = _
        simp only [Act.put, List.setIfInBounds_toArray, List.set_cons_zero, List.set_cons_succ, i64_w, i32_w]
        rfl
      refine purM (i := 8) (N := some 56) #[true, true, true, true, true, true, true, true, true, true, true, true, true, true, true, true, true, true, false, false] ?_ (hc := by kernel_rfl)
      refine one_ (i := 18) (N := none) #[true, true, true, true, true, true, true, true, true, true, true, true, true, true, true, true, true, true, true, false] rfl rfl (by kernel_rfl) (by decide) (fun K hK => ?_)
      refine skip_ (w1 := ?_) (by rfl) rfl ?_ ?_
      rotate_left
      · go_simp
        rfl
      have e3 := fun v => hS2.b3.other (B' := w.heap.size + 2) (by omega) v
      have e3c := fun v => (e3 v).cell
      have e3f := fun v => (e3 v).frozen
      refine hK.out _ _ (e3c _) (fun hHeld => ?_)
      clear hK K
      refine last_ (i := 19) (N := none) #[true, true, true, true, true, true, true, true, true, true, true, true, true, true, true, true, true, true, true, true] rfl rfl (by kernel_rfl) (by decide) (fun K hK => ?_)
      refine skip_ (w1 := ?_) (by rfl) rfl ?_ ?_
      rotate_left
      · go_simp
        rfl
      refine hK.out _ _ ?_
      clear hK K
      refine done_ (by kernel_rfl) ?_
      gi_wp2
      have hb12 : Below W.heap.size W w2 := hb1.trans (hb2'.mono hb1.size)
      have hq : nearStep a1 (lo, hi) p k = some (wrap64 (lo + min (wrap64 (n * a)) (wrap64 (n * wrap64 (a + 1)))), wrap64 (hi + max (wrap64 (n * a)) (wrap64 (n * wrap64 (a + 1))))) := by rw [nearStep_some hn ha (by simp_all)]; simp_all
      exact near_go _ _ hB hb12 hS2 he hq hz (by omega) hz
    all_goals first | exact near_ret _ hB hb1 hS1 he (nearStep_none hn ha (by rintro ⟨h1, h2, h3, h4⟩; first | omega | (simp_all; done) | (simp_all; omega))) | exact near_ret _ hB (hb1.trans (hb2'.mono hb1.size)) hS2 he (nearStep_none hn ha (by rintro ⟨h1, h2, h3, h4⟩; first | omega | (simp_all; done) | (simp_all; omega)))
  case done =>
    rintro D ys W hD rfl ⟨⟨⟨lo, hi⟩, he, hS, hz⟩, hB⟩ hK
    rw [he] at h
    simp only [Option.some.injEq, Prod.mk.injEq] at h
    obtain ⟨rfl, rfl, rfl⟩ := h
    have d2 := hS.b2.cell
    have d3 := hS.b3.cell
    have d4 := hS.b4.cell
    have f2 := hS.b2.frozen
    have f3 := hS.b3.frozen
    have f4 := hS.b4.frozen
    have hmx : Tryz.prog.follows .mixedOrders = true := by kernel_rfl
    gi_wp2
    gi_region_with_o (fail)
    all_goals gi_wp2
    all_goals (
      have hS3 := (((hS.set2 lo).set3 hi).set4 true).drew
      have hK3 := ((((KeepsOthers.setCell W ⟨w.heap.size + 2, 0, none⟩ (.int .i64 lo)).trans (KeepsOthers.setCell _ ⟨w.heap.size + 3, 0, none⟩ (.int .i64 hi))).trans (KeepsOthers.setCell _ ⟨w.heap.size + 4, 0, none⟩ (.bool true))).trans (KeepsOthers.drew _)).same D _ hK rfl
      have hB3 := (((hB.setCell (p := ⟨w.heap.size + 2, 0, none⟩) (by simp) (.int .i64 lo)).setCell (p := ⟨w.heap.size + 3, 0, none⟩) (by simp) (.int .i64 hi)).setCell (p := ⟨w.heap.size + 4, 0, none⟩) (by simp) (.bool true)).drew
      obtain ⟨W3, hW3⟩ : ∃ W3, (((W.setCell ⟨w.heap.size + 2, 0, none⟩ (.int .i64 lo)).setCell ⟨w.heap.size + 3, 0, none⟩ (.int .i64 hi)).setCell ⟨w.heap.size + 4, 0, none⟩ (.bool true)).drew = W3 := ⟨_, rfl⟩
      rw [hW3] at hS3 hK3 hB3 ⊢
      refine ⟨by simp, .inl ⟨_, _, rfl, run_takeDeferred hK3, ?_⟩⟩
      have hS' := hS3.kept (grownBy_putObj' W3 D (.deferred none)) (fun r e => by cases e; exact ⟨_, hK3, rfl⟩)
      have e2 := hS'.b2.cell
      have e3 := hS'.b3.cell
      have e4 := hS'.b4.cell
      refine ⟨_, ?_, rfl, hB3.trans (belowK_b (w := w) (Nat.le_refl _) W3 D _ _ (by omega) hK3 rfl rfl)⟩
      simp [results, Tryz.f134, go_sem, e2, e3, e4])
  case stop =>
    rintro D c pre W hD ⟨k, hk, rfl⟩ ⟨⟨rfl, he, hS⟩, hB⟩ hK
    have hnone : nearFold a1 (zs.map (·.1)) (0, 0) = none := by
      rw [← List.take_append_drop k zs, List.map_append, nearFold_append, he]
      rfl
    rw [hnone] at h
    simp only [Option.some.injEq, Prod.mk.injEq] at h
    obtain ⟨rfl, rfl, rfl⟩ := h
    gi_wp2
    refine ⟨by simp, .inl ⟨_, _, rfl, run_takeDeferred hK, ?_⟩⟩
    have hS' := hS.kept (grownBy_putObj' W D (.deferred none)) (fun r e => by cases e; exact ⟨_, hK, rfl⟩)
    have e2 := hS'.b2.cell
    have e3 := hS'.b3.cell
    have e4 := hS'.b4.cell
    refine ⟨_, ?_, rfl, hB.trans (belowK_b (w := w) (Nat.le_refl _) W D _ _ (by omega) hK rfl rfl)⟩
    simp [results, Tryz.f134, go_sem, e2, e3, e4]
end Go.Proofs.YtailoobjgbldgaaGreatDoor.P
end
section
namespace Go.Proofs.YtailoobjgbldgaaGreatDoor.P
open Go.RowKit Go.Proofs.YtailoobjgbldgaaGreatDoorW.PrintWords Go.Proofs.YtailoobjgbldgaaGreatDoorW.PrintLast Go.Proofs.YtailoobjgbldgaaGreatDoorW.PrintMore
attribute [local go_sem] max2_int min2_int max_two min_two max_three min_three max_four min_four   
set_option linter.unusedVariables false
set_option linter.unusedSimpArgs false
set_option maxHeartbeats 8000000
set_option maxRecDepth 100000
def size_terms_quick.f (l0_0 : List Int) (l0_1 : List ByteArray) (a0_2 : ByteArray) : Option (Int) := (tNear.f l0_0 l0_1 a0_2 10000000).bind fun bt422 => (if bt422.2.2 = true then (if bt422.1 ≥ 0 then (some 1) else (if bt422.2.1 ≤ 0 then (some (-1)) else (some 0))) else (some 0))
theorem size_terms_quick.calls (A0_0 : Option Addr) (c0_0 : Nat) (l0_0 : List Int) (A0_1 : Option Addr) (c0_1 : Nat) (l0_1 : List ByteArray) (a0_2 : ByteArray) (r : Int) (w : World) (hG : Glob w) (hr0_0 : Kd.C (Kd.int .i64) w A0_0 l0_0.length l0_0) (hc0_0 : l0_0.length ≤ c0_0) (hr0_1 : Kd.C Kd.string w A0_1 l0_1.length l0_1) (hc0_1 : l0_1.length ≤ c0_1) (h : size_terms_quick.f l0_0 l0_1 a0_2 = some r) :
  Calls Tryz.prog 108 #[.agg #[.slice A0_0 l0_0.length c0_0, .slice A0_1 l0_1.length c0_1, .string a0_2]] w fun e w' => e = .returned (.int .i64 r) ∧ Below w.heap.size w w' := by
 have hu103 := Tryz.underlying103
 have HR0_0 := am hr0_0
 have HC0_0 := am hc0_0
 clear hr0_0 hc0_0
 have HR0_1 := am hr0_1
 have HC0_1 := am hc0_1
 clear hr0_1 hc0_1
 have HG0 := am hG
 clear hG
 have HB := am (Below.refl w.heap.size w)
 have H := h
 unfold size_terms_quick.f at H
 clear h
 obtain ⟨⟨t422, t423, t424⟩, A2, H⟩ := bo H
 try dsimp only at H
 by_cases c3 : t424 = true
 ·subst c3
  rw [if_pos rfl] at H
  by_cases c4 : t422 ≥ 0
  ·rw [if_pos c4] at H
   have c4b0 : decide (0 ≤ t422) = true := decide_eq_true c4
   clear c4
   obtain rfl := Option.some.inj H
   go_enter Tryz.func108, Tryz.ntmps108
   go_wp2_with (first | ((with_reducible refine gd (N := 1) rfl ?_); refine boxM (N := 1) #[.slice A0_0 l0_0.length c0_0, .slice A0_1 l0_1.length c0_1, .string a0_2] 103 ?_; intro gb421 hg w5 hbox hb; have BK421 := am (hbox); have GW421 := gw hg HB; have GE421 := GW421; replace HB := bs HB hb; clear hb hbox hg; have hcz6_0 := bc BK421 0 (.slice A0_0 l0_0.length c0_0); have hcz6_1 := bc BK421 1 (.slice A0_1 l0_1.length c0_1); have hcz6_2 := bc BK421 2 (.string a0_2); have hfz6_0 := blk_frozen BK421.out 0; have hfz6_1 := blk_frozen BK421.out 1; have hfz6_2 := blk_frozen BK421.out 2) | ((with_reducible refine gc (f := 134) rfl ?_); refine goesM (some 8) Tryz.func134 #[.agg #[.slice A0_0 l0_0.length c0_0, .slice A0_1 l0_1.length c0_1, .string a0_2], .int .i64 10000000] ?_; (with_reducible refine (tNear.calls _ _ l0_0 _ _ l0_1 a0_2 10000000 t422 t423 true _ ?s1 ?s2 ?s3 ?s4 ?s5 A2.out).mono ?_); (case s1 => exact gb HG0 HB); (case s2 => exact cb HR0_0 HB); (case s3 => exact HC0_0.out); (case s4 => exact cb HR0_1 HB); (case s5 => exact HC0_1.out); rintro e w7 ⟨rfl, hb⟩; refine ⟨_, rfl, ?_⟩; replace BK421 := kb BK421 hb; replace HB := bs HB hb; (try clear hb)))
   go_ret
   exact ⟨rl, bl HB⟩
  ·rw [if_neg c4] at H
   have c4b0 : decide (0 ≤ t422) = false := decide_eq_false c4
   clear c4
   by_cases c8 : t423 ≤ 0
   ·rw [if_pos c8] at H
    have c8b0 := decide_eq_true c8
    clear c8
    obtain rfl := Option.some.inj H
    go_enter Tryz.func108, Tryz.ntmps108
    go_wp2_with (first | ((with_reducible refine gd (N := 1) rfl ?_); refine boxM (N := 1) #[.slice A0_0 l0_0.length c0_0, .slice A0_1 l0_1.length c0_1, .string a0_2] 103 ?_; intro gb421 hg w9 hbox hb; have BK421 := am (hbox); have GW421 := gw hg HB; have GE421 := GW421; replace HB := bs HB hb; clear hb hbox hg; have hcz10_0 := bc BK421 0 (.slice A0_0 l0_0.length c0_0); have hcz10_1 := bc BK421 1 (.slice A0_1 l0_1.length c0_1); have hcz10_2 := bc BK421 2 (.string a0_2); have hfz10_0 := blk_frozen BK421.out 0; have hfz10_1 := blk_frozen BK421.out 1; have hfz10_2 := blk_frozen BK421.out 2) | ((with_reducible refine gc (f := 134) rfl ?_); refine goesM (some 8) Tryz.func134 #[.agg #[.slice A0_0 l0_0.length c0_0, .slice A0_1 l0_1.length c0_1, .string a0_2], .int .i64 10000000] ?_; (with_reducible refine (tNear.calls _ _ l0_0 _ _ l0_1 a0_2 10000000 t422 t423 true _ ?s1 ?s2 ?s3 ?s4 ?s5 A2.out).mono ?_); (case s1 => exact gb HG0 HB); (case s2 => exact cb HR0_0 HB); (case s3 => exact HC0_0.out); (case s4 => exact cb HR0_1 HB); (case s5 => exact HC0_1.out); rintro e w11 ⟨rfl, hb⟩; refine ⟨_, rfl, ?_⟩; replace BK421 := kb BK421 hb; replace HB := bs HB hb; (try clear hb)))
    go_ret
    exact ⟨rl, bl HB⟩
   ·rw [if_neg c8] at H
    have c8b0 := decide_eq_false c8
    clear c8
    obtain rfl := Option.some.inj H
    go_enter Tryz.func108, Tryz.ntmps108
    go_wp2_with (first | ((with_reducible refine gd (N := 1) rfl ?_); refine boxM (N := 1) #[.slice A0_0 l0_0.length c0_0, .slice A0_1 l0_1.length c0_1, .string a0_2] 103 ?_; intro gb421 hg w12 hbox hb; have BK421 := am (hbox); have GW421 := gw hg HB; have GE421 := GW421; replace HB := bs HB hb; clear hb hbox hg; have hcz13_0 := bc BK421 0 (.slice A0_0 l0_0.length c0_0); have hcz13_1 := bc BK421 1 (.slice A0_1 l0_1.length c0_1); have hcz13_2 := bc BK421 2 (.string a0_2); have hfz13_0 := blk_frozen BK421.out 0; have hfz13_1 := blk_frozen BK421.out 1; have hfz13_2 := blk_frozen BK421.out 2) | ((with_reducible refine gc (f := 134) rfl ?_); refine goesM (some 8) Tryz.func134 #[.agg #[.slice A0_0 l0_0.length c0_0, .slice A0_1 l0_1.length c0_1, .string a0_2], .int .i64 10000000] ?_; (with_reducible refine (tNear.calls _ _ l0_0 _ _ l0_1 a0_2 10000000 t422 t423 true _ ?s1 ?s2 ?s3 ?s4 ?s5 A2.out).mono ?_); (case s1 => exact gb HG0 HB); (case s2 => exact cb HR0_0 HB); (case s3 => exact HC0_0.out); (case s4 => exact cb HR0_1 HB); (case s5 => exact HC0_1.out); rintro e w14 ⟨rfl, hb⟩; refine ⟨_, rfl, ?_⟩; replace BK421 := kb BK421 hb; replace HB := bs HB hb; (try clear hb)))
    go_ret
    exact ⟨rl, bl HB⟩
 ·replace c3 := Bool.eq_false_iff.mpr c3
  subst c3
  rw [if_neg (show ¬ (false = true) by decide)] at H
  obtain rfl := Option.some.inj H
  go_enter Tryz.func108, Tryz.ntmps108
  go_wp2_with (first | ((with_reducible refine gd (N := 1) rfl ?_); refine boxM (N := 1) #[.slice A0_0 l0_0.length c0_0, .slice A0_1 l0_1.length c0_1, .string a0_2] 103 ?_; intro gb421 hg w15 hbox hb; have BK421 := am (hbox); have GW421 := gw hg HB; have GE421 := GW421; replace HB := bs HB hb; clear hb hbox hg; have hcz16_0 := bc BK421 0 (.slice A0_0 l0_0.length c0_0); have hcz16_1 := bc BK421 1 (.slice A0_1 l0_1.length c0_1); have hcz16_2 := bc BK421 2 (.string a0_2); have hfz16_0 := blk_frozen BK421.out 0; have hfz16_1 := blk_frozen BK421.out 1; have hfz16_2 := blk_frozen BK421.out 2) | ((with_reducible refine gc (f := 134) rfl ?_); refine goesM (some 8) Tryz.func134 #[.agg #[.slice A0_0 l0_0.length c0_0, .slice A0_1 l0_1.length c0_1, .string a0_2], .int .i64 10000000] ?_; (with_reducible refine (tNear.calls _ _ l0_0 _ _ l0_1 a0_2 10000000 t422 t423 false _ ?s1 ?s2 ?s3 ?s4 ?s5 A2.out).mono ?_); (case s1 => exact gb HG0 HB); (case s2 => exact cb HR0_0 HB); (case s3 => exact HC0_0.out); (case s4 => exact cb HR0_1 HB); (case s5 => exact HC0_1.out); rintro e w17 ⟨rfl, hb⟩; refine ⟨_, rfl, ?_⟩; replace BK421 := kb BK421 hb; replace HB := bs HB hb; (try clear hb)))
  go_ret
  exact ⟨rl, bl HB⟩
def size_terms_sign.f (l0_0 : List Int) (l0_1 : List ByteArray) (a0_2 : ByteArray) : Option (Int) := if (l0_0.length : Int) = 0 then (some 0) else ((size_terms_quick.f l0_0 l0_1 a0_2).bind fun t426 => (if t426 = 0 then (none) else (some t426)))
theorem size_terms_sign.calls (A0_0 : Option Addr) (c0_0 : Nat) (l0_0 : List Int) (A0_1 : Option Addr) (c0_1 : Nat) (l0_1 : List ByteArray) (a0_2 : ByteArray) (r : Int) (w : World) (hG : Glob w) (hr0_0 : Kd.C (Kd.int .i64) w A0_0 l0_0.length l0_0) (hc0_0 : l0_0.length ≤ c0_0) (hr0_1 : Kd.C Kd.string w A0_1 l0_1.length l0_1) (hc0_1 : l0_1.length ≤ c0_1) (h : size_terms_sign.f l0_0 l0_1 a0_2 = some r) :
  Calls Tryz.prog 67 #[.agg #[.slice A0_0 l0_0.length c0_0, .slice A0_1 l0_1.length c0_1, .string a0_2]] w fun e w' => e = .returned (.int .i64 r) ∧ Below w.heap.size w w' := by
 have hu103 := Tryz.underlying103
 have HR0_0 := am hr0_0
 have HC0_0 := am hc0_0
 clear hr0_0 hc0_0
 have HR0_1 := am hr0_1
 have HC0_1 := am hc0_1
 clear hr0_1 hc0_1
 have HG0 := am hG
 clear hG
 have HB := am (Below.refl w.heap.size w)
 have H := h
 unfold size_terms_sign.f at H
 clear h
 by_cases c2 : (l0_0.length : Int) = 0
 ·rw [if_pos c2] at H
  have c2b0 := beq_iff_eq.mpr c2
  have c2b1 := bne_eq_false_iff_eq.mpr c2
  clear c2
  obtain rfl := Option.some.inj H
  go_enter Tryz.func67, Tryz.ntmps67
  go_wp2_with (first | ((with_reducible refine gd (N := 1) rfl ?_); refine boxM (N := 1) #[.slice A0_0 l0_0.length c0_0, .slice A0_1 l0_1.length c0_1, .string a0_2] 103 ?_; intro gb425 hg w3 hbox hb; have BK425 := am (hbox); have GW425 := gw hg HB; have GE425 := GW425; replace HB := bs HB hb; clear hb hbox hg; have hcz4_0 := bc BK425 0 (.slice A0_0 l0_0.length c0_0); have hcz4_1 := bc BK425 1 (.slice A0_1 l0_1.length c0_1); have hcz4_2 := bc BK425 2 (.string a0_2); have hfz4_0 := blk_frozen BK425.out 0; have hfz4_1 := blk_frozen BK425.out 1; have hfz4_2 := blk_frozen BK425.out 2))
  go_step3
  go_wp2_with (first | ((with_reducible refine gd (N := 1) rfl ?_); refine boxM (N := 1) #[.slice A0_0 l0_0.length c0_0, .slice A0_1 l0_1.length c0_1, .string a0_2] 103 ?_; intro gb425 hg w3 hbox hb; have BK425 := am (hbox); have GW425 := gw hg HB; have GE425 := GW425; replace HB := bs HB hb; clear hb hbox hg; have hcz4_0 := bc BK425 0 (.slice A0_0 l0_0.length c0_0); have hcz4_1 := bc BK425 1 (.slice A0_1 l0_1.length c0_1); have hcz4_2 := bc BK425 2 (.string a0_2); have hfz4_0 := blk_frozen BK425.out 0; have hfz4_1 := blk_frozen BK425.out 1; have hfz4_2 := blk_frozen BK425.out 2))
  rw [Exit.noGoto_ret]
  go_ret
  exact ⟨rl, bl HB⟩
 ·rw [if_neg c2] at H
  have c2b0 := beq_eq_false_iff_ne.mpr c2
  have c2b1 := bne_iff_ne.mpr c2
  have c2b2 : ¬ (l0_0 = []) := fun h_ => c2 (by rw [h_]; rfl)
  obtain ⟨t426, A5, H⟩ := bo H
  try dsimp only at H
  by_cases c6 : t426 = 0
  case pos => rw [if_pos c6] at H; cases H
  rw [if_neg c6] at H
  have c6b0 := beq_eq_false_iff_ne.mpr c6
  have c6b1 := bne_iff_ne.mpr c6
  obtain rfl := Option.some.inj H
  go_enter Tryz.func67, Tryz.ntmps67
  go_wp2_with (first | ((with_reducible refine gd (N := 1) rfl ?_); refine boxM (N := 1) #[.slice A0_0 l0_0.length c0_0, .slice A0_1 l0_1.length c0_1, .string a0_2] 103 ?_; intro gb425 hg w7 hbox hb; have BK425 := am (hbox); have GW425 := gw hg HB; have GE425 := GW425; replace HB := bs HB hb; clear hb hbox hg; have hcz8_0 := bc BK425 0 (.slice A0_0 l0_0.length c0_0); have hcz8_1 := bc BK425 1 (.slice A0_1 l0_1.length c0_1); have hcz8_2 := bc BK425 2 (.string a0_2); have hfz8_0 := blk_frozen BK425.out 0; have hfz8_1 := blk_frozen BK425.out 1; have hfz8_2 := blk_frozen BK425.out 2) | ((with_reducible refine gc (f := 108) rfl ?_); refine goesM (some 12) Tryz.func108 #[.agg #[.slice A0_0 l0_0.length c0_0, .slice A0_1 l0_1.length c0_1, .string a0_2]] ?_; (with_reducible refine (size_terms_quick.calls _ _ l0_0 _ _ l0_1 a0_2 t426 _ ?s1 ?s2 ?s3 ?s4 ?s5 A5.out).mono ?_); (case s1 => exact gb HG0 HB); (case s2 => exact cb HR0_0 HB); (case s3 => exact HC0_0.out); (case s4 => exact cb HR0_1 HB); (case s5 => exact HC0_1.out); rintro e w9 ⟨rfl, hb⟩; refine ⟨_, rfl, ?_⟩; replace BK425 := kb BK425 hb; replace HB := bs HB hb; (try clear hb)))
  go_step3
  go_wp2_with (first | ((with_reducible refine gd (N := 1) rfl ?_); refine boxM (N := 1) #[.slice A0_0 l0_0.length c0_0, .slice A0_1 l0_1.length c0_1, .string a0_2] 103 ?_; intro gb425 hg w7 hbox hb; have BK425 := am (hbox); have GW425 := gw hg HB; have GE425 := GW425; replace HB := bs HB hb; clear hb hbox hg; have hcz8_0 := bc BK425 0 (.slice A0_0 l0_0.length c0_0); have hcz8_1 := bc BK425 1 (.slice A0_1 l0_1.length c0_1); have hcz8_2 := bc BK425 2 (.string a0_2); have hfz8_0 := blk_frozen BK425.out 0; have hfz8_1 := blk_frozen BK425.out 1; have hfz8_2 := blk_frozen BK425.out 2) | ((with_reducible refine gc (f := 108) rfl ?_); refine goesM (some 12) Tryz.func108 #[.agg #[.slice A0_0 l0_0.length c0_0, .slice A0_1 l0_1.length c0_1, .string a0_2]] ?_; (with_reducible refine (size_terms_quick.calls _ _ l0_0 _ _ l0_1 a0_2 t426 _ ?s1 ?s2 ?s3 ?s4 ?s5 A5.out).mono ?_); (case s1 => exact gb HG0 HB); (case s2 => exact cb HR0_0 HB); (case s3 => exact HC0_0.out); (case s4 => exact cb HR0_1 HB); (case s5 => exact HC0_1.out); rintro e w9 ⟨rfl, hb⟩; refine ⟨_, rfl, ?_⟩; replace BK425 := kb BK425 hb; replace HB := bs HB hb; (try clear hb)))
  rw [Exit.noGoto_ret]
  go_ret
  exact ⟨rl, bl HB⟩
def size_compare.f (k : Nat) (l0 : List Int) (l1 : List (S30)) (l2 : List (S30)) : Option (Int) := (size_number.f 1).bind fun bt430 => ((size_number.f (-1)).bind fun bt432 => ((size_sum.f k (l0.length : Int) (([l1, l2] : List (List (S30)))) (([(⟨bt430.1, bt430.2⟩ : S30), (⟨bt432.1, bt432.2⟩ : S30)] : List (S30)))).bind fun t437 => ((size_termsOf.f k l0 t437).bind fun bt440 => ((size_terms_sign.f bt440.1 bt440.2.1 bt440.2.2).bind fun t447 => (some t447)))))
theorem size_compare.calls (k : Nat) (A0 : Option Addr) (c0 : Nat) (l0 : List Int) (P1_ : Nat → Prop) (A1 : Option Addr) (c1 : Nat) (l1 : List (S30)) (P2_ : Nat → Prop) (A2 : Option Addr) (c2 : Nat) (l2 : List (S30)) (r : Int) (w : World) (hG : Glob w) (hr0 : Kd.C (Kd.int .i64) w A0 l0.length l0) (hc0 : l0.length ≤ c0) (hs1 : Kd.V k30 30 w w.heap.size (fun k_ => P1_ k_) (.slice A1 l1.length c1) l1) (hs2 : Kd.V k30 30 w w.heap.size (fun k_ => P2_ k_) (.slice A2 l2.length c2) l2) (h : size_compare.f k l0 l1 l2 = some r) :
  Calls Tryz.prog 64 #[.slice A0 l0.length c0, .slice A1 l1.length c1, .slice A2 l2.length c2] w fun e w' => e = .returned (.int .i64 r) ∧ Below w.heap.size w w' := by
 have HR0 := am hr0
 have HC0 := am hc0
 clear hr0 hc0
 have HO1 := am (show Kd.V k30 30 w w.heap.size (fun k_ => ((P1_ k_ ∨ P2_ k_) ∨ w.heap.size ≤ k_)) (.slice A1 l1.length c1) l1 from Kd.V_mono hs1 (fun k_ hk => .inl (.inl hk)))
 have HO2 := am (show Kd.V k30 30 w w.heap.size (fun k_ => ((P1_ k_ ∨ P2_ k_) ∨ w.heap.size ≤ k_)) (.slice A2 l2.length c2) l2 from Kd.V_mono hs2 (fun k_ hk => .inl (.inr hk)))
 have HG0 := am hG
 clear hG
 have HB := am (Below.refl w.heap.size w)
 have H := h
 unfold size_compare.f at H
 clear h
 obtain ⟨y427, hy427⟩ : ∃ y_ : List (List (S30)), y_ = (([l1, l2] : List (List (S30)))) := ⟨_, rfl⟩
 first | rw [Option.bind_some, ← hy427] at H | rw [← hy427] at H
 have Ny427 := am hy427
 clear hy427
 obtain ⟨⟨t430, t431⟩, A4, H⟩ := bo H
 try dsimp only at H
 obtain ⟨⟨t432, t433⟩, A5, H⟩ := bo H
 try dsimp only at H
 obtain ⟨y434, hy434⟩ : ∃ y_ : List (S30), y_ = (([(⟨t430, t431⟩ : S30), (⟨t432, t433⟩ : S30)] : List (S30))) := ⟨_, rfl⟩
 first | rw [Option.bind_some, ← hy434] at H | rw [← hy434] at H
 have Ny434 := am hy434
 clear hy434
 obtain ⟨t437, A6, H⟩ := bo H
 try dsimp only at H
 obtain ⟨⟨t440, t443, t446⟩, A7, H⟩ := bo H
 try dsimp only at H
 obtain ⟨t447, A8, H⟩ := bo H
 try dsimp only at H
 obtain rfl := Option.some.inj H
 go_enter Tryz.func64, Tryz.ntmps64
 go_wp2_with (first | ((with_reducible refine gd (N := 12) rfl ?_); refine Kd.N_lit (Kd.slice 30 k30) _ 34 ?hg (N' := 12) ?hd (xs := ([l1, l2] : List (List (S30)))) (inner := [.slice A1 l1.length c1, .slice A2 l2.length c2]) (ok := (fun k_ => ((P1_ k_ ∨ P2_ k_) ∨ w.heap.size ≤ k_))) (okp := (fun k_ => ((P1_ k_ ∨ P2_ k_) ∨ w.heap.size ≤ k_))) ?hr ?hp (fun _ hk => hk) ((show ∀ k_, w.heap.size ≤ k_ → (fun k_ => ((P1_ k_ ∨ P2_ k_) ∨ w.heap.size ≤ k_)) k_ from fun k_ hk => (.inr (Nat.le_trans (below_size (bl HB)) hk))) _ (Nat.le_refl _)) (Below.refl _ _) (Nat.le_refl _) (by simp) ?_; (case hd => rfl); (case hg => rfl); (case hr => first | (go_simp; done) | (go_simp; rfl)); (case hp => exact (Reps.one (show Kd.FK (Kd.slice 30 k30) _ _ l1 [.slice A1 l1.length c1] from (Kd.FK_slice_mk (Kd.V_reads' (Kd.V_mono (ok' := (fun k_ => ((P1_ k_ ∨ P2_ k_) ∨ w.heap.size ≤ k_))) (HO1.out) (fun k_ hk => hk))).2.1 (Kd.V_F (Kd.V_mono (ok' := (fun k_ => ((P1_ k_ ∨ P2_ k_) ∨ w.heap.size ≤ k_))) (HO1.out) (fun k_ hk => hk))))) (Reps.one (show Kd.FK (Kd.slice 30 k30) _ _ l2 [.slice A2 l2.length c2] from (Kd.FK_slice_mk (Kd.V_reads' (Kd.V_mono (ok' := (fun k_ => ((P1_ k_ ∨ P2_ k_) ∨ w.heap.size ≤ k_))) (HO2.out) (fun k_ hk => hk))).2.1 (Kd.V_F (Kd.V_mono (ok' := (fun k_ => ((P1_ k_ ∨ P2_ k_) ∨ w.heap.size ≤ k_))) (HO2.out) (fun k_ hk => hk))))) (Reps.none _ _)))); intro v428 w9 ho10 hb hg_ hnew_; clear hg_ hnew_; (first | rw [← Ny427.out] at ho10 | (simp only [Int.reduceToNat] at ho10; rw [← Ny427.out] at ho10)); replace HO1 := am (Kd.V_elder' (kv HO1) (Kd.N_base ho10) hb); replace HO2 := am (Kd.V_elder' (kv HO2) (Kd.N_base ho10) hb); have HO429 := am (Kd.N_lower ho10 (below_size (bl HB))); replace HB := bs HB hb; clear hb ho10) | ((with_reducible refine gc (f := 65) rfl ?_); refine goesM (some 13) Tryz.func65 #[.int .i64 1] ?_; (with_reducible refine (size_number.calls 1 t430 t431 _ ?s1 A4.out).mono ?_); (case s1 => exact gb HG0 HB); rintro e w11 ⟨rfl, hb⟩; refine ⟨_, rfl, ?_⟩; replace HO1 := am (Kd.V_below (kv HO1) hb); replace HO2 := am (Kd.V_below (kv HO2) hb); replace HO429 := am (Kd.N_below (by (with_reducible repeat (first | apply Kd.N_alloc | apply Kd.N_drewN | apply Kd.N_drew)); exact HO429.out) hb); replace HB := bs HB hb; (try clear hb)) | ((with_reducible refine gc (f := 65) rfl ?_); refine goesM (some 14) Tryz.func65 #[.int .i64 (-1)] ?_; (with_reducible refine (size_number.calls (-1) t432 t433 _ ?s1 A5.out).mono ?_); (case s1 => exact gb HG0 HB); rintro e w12 ⟨rfl, hb⟩; refine ⟨_, rfl, ?_⟩; replace HO1 := am (Kd.V_below (kv HO1) hb); replace HO2 := am (Kd.V_below (kv HO2) hb); replace HO429 := am (Kd.N_below (by (with_reducible repeat (first | apply Kd.N_alloc | apply Kd.N_drewN | apply Kd.N_drew)); exact HO429.out) hb); replace HB := bs HB hb; (try clear hb)) | ((with_reducible refine gd (N := 15) rfl ?_); refine Kd.R_lit k30 _ 30 ?hg (N := 15) ?hd (xs := ([(⟨t430, t431⟩ : S30), (⟨t432, t433⟩ : S30)] : List (S30))) (inner := [.string t430, .string t431, .string t432, .string t433]) (ok := fun _ => True) (okp := fun _ => True) ?hr ?hp (fun _ hk => hk) trivial (Below.refl _ _) (Nat.le_refl _) (by simp) ?_; (case hd => rfl); (case hg => rfl); (case hr => first | (go_simp; done) | (go_simp; rfl)); (case hp => exact (Reps.c2 (show Kd.M k30 _ _ _ (⟨t430, t431⟩ : S30) [.string t430, .string t431] from (k30_mkM _ _ _ (⟨t430, t431⟩ : S30) )) (Reps.c2 (show Kd.M k30 _ _ _ (⟨t432, t433⟩ : S30) [.string t432, .string t433] from (k30_mkM _ _ _ (⟨t432, t433⟩ : S30) )) (Reps.none _ _)))); intro v435 w13 ho14 hb hg_ hnew_; clear hg_ hnew_; (first | rw [← Ny434.out] at ho14 | (simp only [Int.reduceToNat] at ho14; rw [← Ny434.out] at ho14)); replace HO1 := am (Kd.V_elder' (kv HO1) (Kd.R_base ho14) hb); replace HO2 := am (Kd.V_elder' (kv HO2) (Kd.R_base ho14) hb); replace HO429 := am (Kd.N_elder' (by (with_reducible repeat (first | apply Kd.N_alloc | apply Kd.N_drewN | apply Kd.N_drew)); exact HO429.out) (Kd.R_base ho14) hb); have HO436 := am (Kd.R_lower (Kd.R_newM (M := fun k_ => (w.heap.size ≤ k_)) ho14 (below_size (bl HB)) (fun k_ h_ => h_)) (below_size (bl HB))); replace HB := bs HB hb; clear hb ho14; obtain ⟨Ao15, co15, eo15⟩ := Kd.N_slice HO429.out; subst eo15; obtain ⟨Ao16, co16, eo16⟩ := Kd.R_slice HO436.out; subst eo16) | ((with_reducible refine gc (f := 59) rfl ?_); refine goesM (some 16) Tryz.func59 #[.int .i64 (l0.length : Int), .slice Ao15 y427.length co15, .slice Ao16 y434.length co16] ?_; (with_reducible refine (size_sum.calls k (l0.length : Int) _ _ y427 _ _ y434 t437 _ ?s1 ?s2 ?s3 ?s4 ?s5 A6.out).mono ?_); (case s1 => exact gb HG0 HB); (case s2 => repeat (first | exact (Kd.N_reads' HO429.out).2.2 | (with_reducible refine Kd.C_alloc ?_ _) | (with_reducible refine Kd.C_drewN ?_ _) | (with_reducible refine Kd.C_drew ?_))); (case s3 => exact (Kd.N_reads' HO429.out).2.1); (case s4 => exact cR HO436); (case s5 => exact (Kd.R_reads' HO436.out).2.1); rintro e w17 ⟨v438, rfl, ho0, hb⟩; refine ⟨_, rfl, ?_⟩; replace HO1 := am (Kd.V_elder' (kv HO1) (Kd.R_base ho0) hb); replace HO2 := am (Kd.V_elder' (kv HO2) (Kd.R_base ho0) hb); replace HO429 := am (Kd.N_elder' (by (with_reducible repeat (first | apply Kd.N_alloc | apply Kd.N_drewN | apply Kd.N_drew)); exact HO429.out) (Kd.R_base ho0) hb); have HO439 := am (Kd.R_lower (Kd.R_new' (Kd.R_newM (M := fun k_ => (w.heap.size ≤ k_)) ho0 (below_size (bl HB)) (fun k_ h_ => h_)) (Kd.R_lt (kr HO436))) (below_size (bl HB))); replace HO436 := am (Kd.R_elder' (kr HO436) (Kd.R_base ho0) hb); replace HB := bs HB hb; (try clear hb); (try clear ho0); obtain ⟨Ao18, co18, eo18⟩ := Kd.R_slice HO439.out; subst eo18) | ((with_reducible refine gc (f := 66) rfl ?_); refine goesM (some 17) Tryz.func66 #[.slice A0 l0.length c0, .slice Ao18 t437.length co18] ?_; (with_reducible refine (size_termsOf.calls k _ _ l0 _ _ t437 t440 t443 t446 _ ?s1 ?s2 ?s3 ?s4 ?s5 A7.out).mono ?_); (case s1 => exact gb HG0 HB); (case s2 => exact cb HR0 HB); (case s3 => exact HC0.out); (case s4 => exact cR HO439); (case s5 => exact (Kd.R_reads' HO439.out).2.1); rintro e w19 ⟨v441, v444, rfl, ho0, ho1, hb⟩; refine ⟨_, rfl, ?_⟩; replace HO1 := am (Kd.V_mono (Kd.V_told (Kd.V_told (Kd.V_old (kv HO1) hb) (Kd.R_base ho0)) (Kd.R_base ho1)) (fun _ h_ => h_.1)); replace HO2 := am (Kd.V_mono (Kd.V_told (Kd.V_told (Kd.V_old (kv HO2) hb) (Kd.R_base ho0)) (Kd.R_base ho1)) (fun _ h_ => h_.1)); replace HO429 := am (Kd.N_mono (Kd.N_told (Kd.N_told (Kd.N_old (by (with_reducible repeat (first | apply Kd.N_alloc | apply Kd.N_drewN | apply Kd.N_drew)); exact HO429.out) hb) (Kd.R_base ho0)) (Kd.R_base ho1)) (fun _ h_ => h_.1)); replace HO436 := rb HO436 hb; replace HO439 := rb HO439 hb; have HO442 := am (Kd.R_lower (Kd.R_newM (M := fun k_ => (w.heap.size ≤ k_)) ho0 (below_size (bl HB)) (fun k_ h_ => h_)) (below_size (bl HB))); have HO445 := am (Kd.R_lower (Kd.R_newM (M := fun k_ => (w.heap.size ≤ k_)) ho1 (below_size (bl HB)) (fun k_ h_ => h_)) (below_size (bl HB))); replace HB := bs HB hb; (try clear hb); (try clear ho0); (try clear ho1); obtain ⟨Ao20, co20, eo20⟩ := Kd.R_slice HO442.out; subst eo20; obtain ⟨Ao21, co21, eo21⟩ := Kd.R_slice HO445.out; subst eo21) | ((with_reducible refine gc (f := 67) rfl ?_); refine goesM (some 18) Tryz.func67 #[.agg #[.slice Ao20 t440.length co20, .slice Ao21 t443.length co21, .string t446]] ?_; (with_reducible refine (size_terms_sign.calls _ _ t440 _ _ t443 t446 t447 _ ?s1 ?s2 ?s3 ?s4 ?s5 A8.out).mono ?_); (case s1 => exact gb HG0 HB); (case s2 => exact cR HO442); (case s3 => exact (Kd.R_reads' HO442.out).2.1); (case s4 => exact cR HO445); (case s5 => exact (Kd.R_reads' HO445.out).2.1); rintro e w22 ⟨rfl, hb⟩; refine ⟨_, rfl, ?_⟩; replace HO1 := am (Kd.V_below (kv HO1) hb); replace HO2 := am (Kd.V_below (kv HO2) hb); replace HO429 := am (Kd.N_below (by (with_reducible repeat (first | apply Kd.N_alloc | apply Kd.N_drewN | apply Kd.N_drew)); exact HO429.out) hb); replace HO436 := rb HO436 hb; replace HO439 := rb HO439 hb; replace HO442 := rb HO442 hb; replace HO445 := rb HO445 hb; replace HB := bs HB hb; (try clear hb)))
 go_ret
 exact ⟨rl, bl HB⟩
def size_Compare.f (k : Nat) (l0 : List Int) (l1 : List (S30)) (l2 : List (S30)) : Option (Int × Int) := (size_CheckAll.f k l0 (([l1, l2] : List (List (S30))))).bind fun t451 => (if t451 = 0 then ((size_compare.f k l0 l1 l2).bind fun t452 => (some (t452, 0))) else (some (0, t451)))
theorem size_Compare.calls (k : Nat) (A0 : Option Addr) (c0 : Nat) (l0 : List Int) (P1_ : Nat → Prop) (A1 : Option Addr) (c1 : Nat) (l1 : List (S30)) (P2_ : Nat → Prop) (A2 : Option Addr) (c2 : Nat) (l2 : List (S30)) (r1 : Int) (r2 : Int) (w : World) (hG : Glob w) (hr0 : Kd.C (Kd.int .i64) w A0 l0.length l0) (hc0 : l0.length ≤ c0) (hs1 : Kd.V k30 30 w w.heap.size (fun k_ => P1_ k_) (.slice A1 l1.length c1) l1) (hs2 : Kd.V k30 30 w w.heap.size (fun k_ => P2_ k_) (.slice A2 l2.length c2) l2) (h : size_Compare.f k l0 l1 l2 = some (r1, r2)) :
  Calls Tryz.prog 21 #[.slice A0 l0.length c0, .slice A1 l1.length c1, .slice A2 l2.length c2] w fun e w' => e = .returned (.tuple #[.int .i64 r1, .int .i64 r2]) ∧ Below w.heap.size w w' := by
 have HR0 := am hr0
 have HC0 := am hc0
 clear hr0 hc0
 have HO1 := am (show Kd.V k30 30 w w.heap.size (fun k_ => ((P1_ k_ ∨ P2_ k_) ∨ w.heap.size ≤ k_)) (.slice A1 l1.length c1) l1 from Kd.V_mono hs1 (fun k_ hk => .inl (.inl hk)))
 have HO2 := am (show Kd.V k30 30 w w.heap.size (fun k_ => ((P1_ k_ ∨ P2_ k_) ∨ w.heap.size ≤ k_)) (.slice A2 l2.length c2) l2 from Kd.V_mono hs2 (fun k_ hk => .inl (.inr hk)))
 have HG0 := am hG
 clear hG
 have HB := am (Below.refl w.heap.size w)
 have H := h
 unfold size_Compare.f at H
 clear h
 obtain ⟨y448, hy448⟩ : ∃ y_ : List (List (S30)), y_ = (([l1, l2] : List (List (S30)))) := ⟨_, rfl⟩
 first | rw [Option.bind_some, ← hy448] at H | rw [← hy448] at H
 have Ny448 := am hy448
 clear hy448
 obtain ⟨t451, A4, H⟩ := bo H
 try dsimp only at H
 by_cases c5 : t451 = 0
 ·rw [if_pos c5] at H
  have c5b0 := beq_iff_eq.mpr c5
  have c5b1 := bne_eq_false_iff_eq.mpr c5
  clear c5
  obtain ⟨t452, A6, H⟩ := bo H
  try dsimp only at H
  simp only [Option.some.injEq, Prod.mk.injEq] at H
  obtain ⟨rfl, rfl⟩ := H
  go_enter Tryz.func21, Tryz.ntmps21
  go_wp2_with (first | ((with_reducible refine gd (N := 12) rfl ?_); refine Kd.N_lit (Kd.slice 30 k30) _ 34 ?hg (N' := 12) ?hd (xs := ([l1, l2] : List (List (S30)))) (inner := [.slice A1 l1.length c1, .slice A2 l2.length c2]) (ok := (fun k_ => ((P1_ k_ ∨ P2_ k_) ∨ w.heap.size ≤ k_))) (okp := (fun k_ => ((P1_ k_ ∨ P2_ k_) ∨ w.heap.size ≤ k_))) ?hr ?hp (fun _ hk => hk) ((show ∀ k_, w.heap.size ≤ k_ → (fun k_ => ((P1_ k_ ∨ P2_ k_) ∨ w.heap.size ≤ k_)) k_ from fun k_ hk => (.inr (Nat.le_trans (below_size (bl HB)) hk))) _ (Nat.le_refl _)) (Below.refl _ _) (Nat.le_refl _) (by simp) ?_; (case hd => rfl); (case hg => rfl); (case hr => first | (go_simp; done) | (go_simp; rfl)); (case hp => exact (Reps.one (show Kd.FK (Kd.slice 30 k30) _ _ l1 [.slice A1 l1.length c1] from (Kd.FK_slice_mk (Kd.V_reads' (Kd.V_mono (ok' := (fun k_ => ((P1_ k_ ∨ P2_ k_) ∨ w.heap.size ≤ k_))) (HO1.out) (fun k_ hk => hk))).2.1 (Kd.V_F (Kd.V_mono (ok' := (fun k_ => ((P1_ k_ ∨ P2_ k_) ∨ w.heap.size ≤ k_))) (HO1.out) (fun k_ hk => hk))))) (Reps.one (show Kd.FK (Kd.slice 30 k30) _ _ l2 [.slice A2 l2.length c2] from (Kd.FK_slice_mk (Kd.V_reads' (Kd.V_mono (ok' := (fun k_ => ((P1_ k_ ∨ P2_ k_) ∨ w.heap.size ≤ k_))) (HO2.out) (fun k_ hk => hk))).2.1 (Kd.V_F (Kd.V_mono (ok' := (fun k_ => ((P1_ k_ ∨ P2_ k_) ∨ w.heap.size ≤ k_))) (HO2.out) (fun k_ hk => hk))))) (Reps.none _ _)))); intro v449 w7 ho8 hb hg_ hnew_; clear hg_ hnew_; (first | rw [← Ny448.out] at ho8 | (simp only [Int.reduceToNat] at ho8; rw [← Ny448.out] at ho8)); replace HO1 := am (Kd.V_elder' (kv HO1) (Kd.N_base ho8) hb); replace HO2 := am (Kd.V_elder' (kv HO2) (Kd.N_base ho8) hb); have HO450 := am (Kd.N_lower ho8 (below_size (bl HB))); replace HB := bs HB hb; clear hb ho8; obtain ⟨Ao9, co9, eo9⟩ := Kd.N_slice HO450.out; subst eo9) | ((with_reducible refine gc (f := 52) rfl ?_); refine goesM (some 13) Tryz.func52 #[.slice A0 l0.length c0, .slice Ao9 y448.length co9] ?_; (with_reducible refine (size_CheckAll.calls k _ _ l0 _ _ y448 t451 _ ?s1 ?s2 ?s3 ?s4 ?s5 A4.out).mono ?_); (case s1 => exact gb HG0 HB); (case s2 => exact cb HR0 HB); (case s3 => exact HC0.out); (case s4 => repeat (first | exact (Kd.N_reads' HO450.out).2.2 | (with_reducible refine Kd.C_alloc ?_ _) | (with_reducible refine Kd.C_drewN ?_ _) | (with_reducible refine Kd.C_drew ?_))); (case s5 => exact (Kd.N_reads' HO450.out).2.1); rintro e w10 ⟨rfl, hb⟩; refine ⟨_, rfl, ?_⟩; replace HO1 := am (Kd.V_below (kv HO1) hb); replace HO2 := am (Kd.V_below (kv HO2) hb); replace HO450 := am (Kd.N_below (by (with_reducible repeat (first | apply Kd.N_alloc | apply Kd.N_drewN | apply Kd.N_drew)); exact HO450.out) hb); replace HB := bs HB hb; (try clear hb)) | ((with_reducible refine gc (f := 64) rfl ?_); refine goesM (some 20) Tryz.func64 #[.slice A0 l0.length c0, .slice A1 l1.length c1, .slice A2 l2.length c2] ?_; (with_reducible refine (size_compare.calls k _ _ l0 (fun k_ => (((P1_ k_ ∨ P2_ k_) ∨ w.heap.size ≤ k_) ∧ some k_ ≠ (.slice Ao9 y448.length co9 : Value).ownBlock)) _ _ l1 (fun k_ => (((P1_ k_ ∨ P2_ k_) ∨ w.heap.size ≤ k_) ∧ some k_ ≠ (.slice Ao9 y448.length co9 : Value).ownBlock)) _ _ l2 t452 _ ?s1 ?s2 ?s3 ?s4 ?s5 A6.out).mono ?_); (case s1 => exact gb HG0 HB); (case s2 => exact cb HR0 HB); (case s3 => exact HC0.out); (case s4 => exact HO1.out); (case s5 => exact HO2.out); rintro e w11 ⟨rfl, hb⟩; refine ⟨_, rfl, ?_⟩; replace HO1 := am (Kd.V_below (kv HO1) hb); replace HO2 := am (Kd.V_below (kv HO2) hb); replace HO450 := am (Kd.N_below (by (with_reducible repeat (first | apply Kd.N_alloc | apply Kd.N_drewN | apply Kd.N_drew)); exact HO450.out) hb); replace HB := bs HB hb; (try clear hb)))
  go_ret2
  exact ⟨rl, bl HB⟩
 ·rw [if_neg c5] at H
  have c5b0 := beq_eq_false_iff_ne.mpr c5
  have c5b1 := bne_iff_ne.mpr c5
  simp only [Option.some.injEq, Prod.mk.injEq] at H
  obtain ⟨rfl, rfl⟩ := H
  go_enter Tryz.func21, Tryz.ntmps21
  go_wp2_with (first | ((with_reducible refine gd (N := 12) rfl ?_); refine Kd.N_lit (Kd.slice 30 k30) _ 34 ?hg (N' := 12) ?hd (xs := ([l1, l2] : List (List (S30)))) (inner := [.slice A1 l1.length c1, .slice A2 l2.length c2]) (ok := (fun k_ => ((P1_ k_ ∨ P2_ k_) ∨ w.heap.size ≤ k_))) (okp := (fun k_ => ((P1_ k_ ∨ P2_ k_) ∨ w.heap.size ≤ k_))) ?hr ?hp (fun _ hk => hk) ((show ∀ k_, w.heap.size ≤ k_ → (fun k_ => ((P1_ k_ ∨ P2_ k_) ∨ w.heap.size ≤ k_)) k_ from fun k_ hk => (.inr (Nat.le_trans (below_size (bl HB)) hk))) _ (Nat.le_refl _)) (Below.refl _ _) (Nat.le_refl _) (by simp) ?_; (case hd => rfl); (case hg => rfl); (case hr => first | (go_simp; done) | (go_simp; rfl)); (case hp => exact (Reps.one (show Kd.FK (Kd.slice 30 k30) _ _ l1 [.slice A1 l1.length c1] from (Kd.FK_slice_mk (Kd.V_reads' (Kd.V_mono (ok' := (fun k_ => ((P1_ k_ ∨ P2_ k_) ∨ w.heap.size ≤ k_))) (HO1.out) (fun k_ hk => hk))).2.1 (Kd.V_F (Kd.V_mono (ok' := (fun k_ => ((P1_ k_ ∨ P2_ k_) ∨ w.heap.size ≤ k_))) (HO1.out) (fun k_ hk => hk))))) (Reps.one (show Kd.FK (Kd.slice 30 k30) _ _ l2 [.slice A2 l2.length c2] from (Kd.FK_slice_mk (Kd.V_reads' (Kd.V_mono (ok' := (fun k_ => ((P1_ k_ ∨ P2_ k_) ∨ w.heap.size ≤ k_))) (HO2.out) (fun k_ hk => hk))).2.1 (Kd.V_F (Kd.V_mono (ok' := (fun k_ => ((P1_ k_ ∨ P2_ k_) ∨ w.heap.size ≤ k_))) (HO2.out) (fun k_ hk => hk))))) (Reps.none _ _)))); intro v449 w12 ho13 hb hg_ hnew_; clear hg_ hnew_; (first | rw [← Ny448.out] at ho13 | (simp only [Int.reduceToNat] at ho13; rw [← Ny448.out] at ho13)); replace HO1 := am (Kd.V_elder' (kv HO1) (Kd.N_base ho13) hb); replace HO2 := am (Kd.V_elder' (kv HO2) (Kd.N_base ho13) hb); have HO450 := am (Kd.N_lower ho13 (below_size (bl HB))); replace HB := bs HB hb; clear hb ho13; obtain ⟨Ao14, co14, eo14⟩ := Kd.N_slice HO450.out; subst eo14) | ((with_reducible refine gc (f := 52) rfl ?_); refine goesM (some 13) Tryz.func52 #[.slice A0 l0.length c0, .slice Ao14 y448.length co14] ?_; (with_reducible refine (size_CheckAll.calls k _ _ l0 _ _ y448 t451 _ ?s1 ?s2 ?s3 ?s4 ?s5 A4.out).mono ?_); (case s1 => exact gb HG0 HB); (case s2 => exact cb HR0 HB); (case s3 => exact HC0.out); (case s4 => repeat (first | exact (Kd.N_reads' HO450.out).2.2 | (with_reducible refine Kd.C_alloc ?_ _) | (with_reducible refine Kd.C_drewN ?_ _) | (with_reducible refine Kd.C_drew ?_))); (case s5 => exact (Kd.N_reads' HO450.out).2.1); rintro e w15 ⟨rfl, hb⟩; refine ⟨_, rfl, ?_⟩; replace HO1 := am (Kd.V_below (kv HO1) hb); replace HO2 := am (Kd.V_below (kv HO2) hb); replace HO450 := am (Kd.N_below (by (with_reducible repeat (first | apply Kd.N_alloc | apply Kd.N_drewN | apply Kd.N_drew)); exact HO450.out) hb); replace HB := bs HB hb; (try clear hb)))
  go_ret2
  exact ⟨rl, bl HB⟩
end Go.Proofs.YtailoobjgbldgaaGreatDoor.P
end
section
namespace Go.Proofs.YtailoobjgbldgaaGreatDoor.P
set_option linter.unusedVariables false
set_option linter.unusedSimpArgs false
open Go Go.RowKit Go.Proofs.YtailoobjgbldgaaGreatDoorW.PrintWords Go.Proofs.YtailoobjgbldgaaGreatDoorW.PrintLast Go.Proofs.YtailoobjgbldgaaGreatDoorW.PrintMore
def anyO {α : Type} (g : α → Option Bool) : List α → Option Bool
  | [] => some false
  | x :: xs => (g x).bind fun b => if b then some true else anyO g xs
def cCombine.f (k : Nat) (l : List S30) : Option Bool := if l.length ≤ 1000000000 then anyO (fun x : S30 => size_Combine_1.f k x.f0 x.f1) l else none
set_option maxRecDepth 100000 in
set_option maxHeartbeats 2000000 in
theorem cCombine.index (k : Nat) (A0 : Option Addr) (c0 : Nat) (l0 : List S30) (r : Bool) (w : World) (hG : Glob w) (hr0 : Kd.C k30 w A0 l0.length l0) (hl : l0.length ≤ 1000000000) (h : anyO (fun x : S30 => size_Combine_1.f k x.f0 x.f1) l0 = some r) :
    Calls Tryz.prog 100 #[.slice A0 l0.length c0, .func (.func 57) #[] #[]] w fun e w' => (∃ i : Int, e = .returned (.int .i64 i) ∧ decide (0 ≤ i) = r) ∧ Below w.heap.size w w' := by
  go_enter Tryz.func100, Tryz.ntmps100
  go_wp2
  go_loopw [8] (fun i wr => ∃ j : Nat, j ≤ l0.length ∧ i = .int .i64 j ∧ anyO (fun x : S30 => size_Combine_1.f k x.f0 x.f1) (l0.drop j) = some r ∧ Below w.heap.size w wr)
    (fun i _ => l0.length - (intOf i).toNat)
  case atStart => exact ⟨0, Nat.zero_le _, rfl, h, Below.refl _ _⟩
  case round =>
    obtain ⟨j, hj, rfl, ha, hB⟩ := hrel
    by_cases hlt : j < l0.length
    · obtain ⟨ad, rfl, hx0, hx1⟩ := at_T30 hr0 (j : Int) (by omega) (by omega)
      replace hx0 := (hB.cell (World.block_lt_of_cell? w _ hx0)).trans hx0
      replace hx1 := (hB.cell (World.block_lt_of_cell? w _ hx1)).trans hx1
      rw [List.drop_eq_getElem_cons hlt] at ha
      have hrd : rd_T30 l0 (j : Int) = l0[j] := by simp [rd_T30, hlt]
      rw [hrd] at hx0 hx1
      simp only [Int.toNat_natCast] at hx0 hx1
      generalize l0[j] = x at ha hx0 hx1
      obtain ⟨b, hb, ha⟩ := Option.bind_eq_some_iff.1 ha
      cases b with
      | true =>
        obtain rfl : true = r := by simpa using ha
        go_wp2_with (go_at_call 57; refine (size_Combine_1.calls k _ _ true _ (hG.below hB) hb).mono ?_; rintro e w1 ⟨rfl, hb1⟩)
        go_ret
        exact ⟨⟨_, rfl, by simp⟩, hB.trans (hb1.mono hB.size)⟩
      | false =>
        have ha : anyO (fun x : S30 => size_Combine_1.f k x.f0 x.f1) (l0.drop (j + 1)) = some r := by simpa using ha
        go_wp2_with (go_at_call 57; refine (size_Combine_1.calls k _ _ false _ (hG.below hB) hb).mono ?_; rintro e w1 ⟨rfl, hb1⟩)
        go_roundw
        case rel => exact ⟨j + 1, by omega, by simp [wrap64] <;> omega, ha, hB.trans (hb1.mono hB.size)⟩
        case measure => simp [intOf, wrap64] <;> omega
    · obtain rfl : j = l0.length := by omega
      simp only [List.drop_length, anyO, Option.some.injEq] at ha
      subst ha
      go_wp2
      go_ret
      exact ⟨⟨_, rfl, by simp⟩, hB⟩
set_option maxHeartbeats 2000000 in
theorem cCombine.calls (k : Nat) (A0 : Option Addr) (c0 : Nat) (l0 : List S30) (r : Bool) (w : World) (hG : Glob w) (hr0 : Kd.C k30 w A0 l0.length l0) (hc0 : l0.length ≤ c0) (h : cCombine.f k l0 = some r) :
    Calls Tryz.prog 56 #[.slice A0 l0.length c0, .func (.func 57) #[] #[]] w fun e w' => e = .returned (.bool r) ∧ Below w.heap.size w w' := by
  unfold cCombine.f at h
  by_cases hl : l0.length ≤ 1000000000
  · rw [if_pos hl] at h
    go_enter Tryz.func56, Tryz.ntmps56
    go_wp2_with (go_at_call 100; refine (cCombine.index k _ _ _ r _ hG hr0 hl h).mono ?_; rintro e w1 ⟨⟨i, rfl, hi⟩, hb1⟩)
    go_ret
    subst hi
    exact ⟨by simp, hb1⟩
  · rw [if_neg hl] at h; cases h
def cResult.f (l : List S30) : Option Bool := if l.length ≤ 1000000000 then anyO (fun x : S30 => size_result_1.f x.f0 x.f1) l else none
set_option maxRecDepth 100000 in
set_option maxHeartbeats 2000000 in
theorem cResult.index (A0 : Option Addr) (c0 : Nat) (l0 : List S30) (r : Bool) (w : World) (hr0 : Kd.C k30 w A0 l0.length l0) (hl : l0.length ≤ 1000000000) (h : anyO (fun x : S30 => size_result_1.f x.f0 x.f1) l0 = some r) :
    Calls Tryz.prog 130 #[.slice A0 l0.length c0, .func (.func 102) #[] #[]] w fun e w' => (∃ i : Int, e = .returned (.int .i64 i) ∧ decide (0 ≤ i) = r) ∧ Below w.heap.size w w' := by
  go_enter Tryz.func130, Tryz.ntmps130
  go_wp2
  go_loopw [8] (fun i wr => ∃ j : Nat, j ≤ l0.length ∧ i = .int .i64 j ∧ anyO (fun x : S30 => size_result_1.f x.f0 x.f1) (l0.drop j) = some r ∧ Below w.heap.size w wr)
    (fun i _ => l0.length - (intOf i).toNat)
  case atStart => exact ⟨0, Nat.zero_le _, rfl, h, Below.refl _ _⟩
  case round =>
    obtain ⟨j, hj, rfl, ha, hB⟩ := hrel
    by_cases hlt : j < l0.length
    · obtain ⟨ad, rfl, hx0, hx1⟩ := at_T30 hr0 (j : Int) (by omega) (by omega)
      replace hx0 := (hB.cell (World.block_lt_of_cell? w _ hx0)).trans hx0
      replace hx1 := (hB.cell (World.block_lt_of_cell? w _ hx1)).trans hx1
      rw [List.drop_eq_getElem_cons hlt] at ha
      have hrd : rd_T30 l0 (j : Int) = l0[j] := by simp [rd_T30, hlt]
      rw [hrd] at hx0 hx1
      simp only [Int.toNat_natCast] at hx0 hx1
      generalize l0[j] = x at ha hx0 hx1
      obtain ⟨b, hb, ha⟩ := Option.bind_eq_some_iff.1 ha
      cases b with
      | true =>
        obtain rfl : true = r := by simpa using ha
        go_wp2_with (go_at_call 102; refine (size_result_1.calls _ _ true _ hb).mono ?_; rintro e w1 ⟨rfl, hb1⟩)
        go_ret
        exact ⟨⟨_, rfl, by simp⟩, hB.trans (hb1.mono hB.size)⟩
      | false =>
        have ha : anyO (fun x : S30 => size_result_1.f x.f0 x.f1) (l0.drop (j + 1)) = some r := by simpa using ha
        go_wp2_with (go_at_call 102; refine (size_result_1.calls _ _ false _ hb).mono ?_; rintro e w1 ⟨rfl, hb1⟩)
        go_roundw
        case rel => exact ⟨j + 1, by omega, by simp [wrap64] <;> omega, ha, hB.trans (hb1.mono hB.size)⟩
        case measure => simp [intOf, wrap64] <;> omega
    · obtain rfl : j = l0.length := by omega
      simp only [List.drop_length, anyO, Option.some.injEq] at ha
      subst ha
      go_wp2
      go_ret
      exact ⟨⟨_, rfl, by simp⟩, hB⟩
set_option maxHeartbeats 2000000 in
theorem cResult.calls (A0 : Option Addr) (c0 : Nat) (l0 : List S30) (r : Bool) (w : World) (hr0 : Kd.C k30 w A0 l0.length l0) (hc0 : l0.length ≤ c0) (h : cResult.f l0 = some r) :
    Calls Tryz.prog 101 #[.slice A0 l0.length c0, .func (.func 102) #[] #[]] w fun e w' => e = .returned (.bool r) ∧ Below w.heap.size w w' := by
  unfold cResult.f at h
  by_cases hl : l0.length ≤ 1000000000
  · rw [if_pos hl] at h
    go_enter Tryz.func101, Tryz.ntmps101
    go_wp2_with (go_at_call 130; refine (cResult.index _ _ _ r _ hr0 hl h).mono ?_; rintro e w1 ⟨⟨i, rfl, hi⟩, hb1⟩)
    go_ret
    subst hi
    exact ⟨by simp, hb1⟩
  · rw [if_neg hl] at h; cases h
end Go.Proofs.YtailoobjgbldgaaGreatDoor.P
end
section
namespace Go.Proofs.YtailoobjgbldgaaGreatDoor.P
open Go.RowKit Go.Proofs.YtailoobjgbldgaaGreatDoorW.PrintWords Go.Proofs.YtailoobjgbldgaaGreatDoorW.PrintLast Go.Proofs.YtailoobjgbldgaaGreatDoorW.PrintMore
attribute [local go_sem] max2_int min2_int max_two min_two max_three min_three max_four min_four   
set_option linter.unusedVariables false
set_option linter.unusedSimpArgs false
set_option maxHeartbeats 8000000
set_option maxRecDepth 100000
def size_result.f (l0 : List (S30)) : Option ((List (S30)) × Int) := (cResult.f l0).bind fun t453 => (if t453 = true then (some (([] : List (S30)), 4)) else (some (l0, 0)))
theorem size_result.calls (P0_ : Nat → Prop) (u9000_ : Value) (l0 : List (S30)) (r1 : List (S30)) (r2 : Int) (w0 w : World) (hB : Below w0.heap.size w0 w) (ho0 : Kd.R k30 30 w w0.heap.size P0_ u9000_ l0) (h : size_result.f l0 = some (r1, r2)) :
  Calls Tryz.prog 58 #[u9000_] w fun e w' => ∃ v0_ : Value, e = .returned (.tuple #[v0_, .int .i64 r2]) ∧ Kd.R k30 30 w' w0.heap.size (fun k_ => (P0_ k_ ∨ w.heap.size ≤ k_)) v0_ r1 ∧ Below w0.heap.size w0 w' ∧ Kept w w' (fun k_ => P0_ k_) := by
 have HO0 := am (show Kd.R k30 30 w w0.heap.size (fun k_ => (P0_ k_ ∨ w.heap.size ≤ k_)) u9000_ l0 from Kd.R_mono ho0 (fun k_ hk => (.inl hk)))
 have HK := am (Kept.refl w (fun k_ => P0_ k_))
 have HW0 := am hB.size
 have HB := am hB
 clear hB
 have H := h
 unfold size_result.f at H
 clear h
 obtain ⟨t453, A2, H⟩ := bo H
 try dsimp only at H
 by_cases c3 : t453 = true
 ·subst c3
  rw [if_pos rfl] at H
  simp only [Option.some.injEq, Prod.mk.injEq] at H
  obtain ⟨rfl, rfl⟩ := H
  obtain ⟨Ao4, co4, eo4⟩ := Kd.R_slice HO0.out
  subst eo4
  go_enter Tryz.func58, Tryz.ntmps58
  go_wp2_with (first | ((with_reducible refine gc (f := 101) rfl ?_); refine goesM (some 5) Tryz.func101 #[.slice Ao4 l0.length co4, .func (.func 102) #[] #[]] ?_; (with_reducible refine (cResult.calls _ _ l0 true _ ?s1 ?s2 A2.out).mono ?_); (case s1 => exact cR HO0); (case s2 => exact (Kd.R_reads' HO0.out).2.1); rintro e w5 ⟨rfl, hb⟩; refine ⟨_, rfl, ?_⟩; replace HO0 := rb HO0 hb; replace HK := am (Kept.below (S := (fun k_ => P0_ k_)) (by repeat (first | (with_reducible first | exact HK.out | apply Kept.alloc | apply Kept.drewN | apply Kept.drew) | exact HK.out)) hb); replace HB := bs HB hb; (try clear hb)))
  go_ret2
  exact ⟨_, rl, by first | exact Kd.R_nil _ _ _ _ _ | exact Kd.N_nil _ _ _ _ _ | exact Kd.V_nil _ _ _ _ _ | exact Kd.Q_nil _ _ _ _ _ | exact Kd.S_nil _ _ _ _ _, bl HB, by repeat (first | (with_reducible first | exact HK.out | apply Kept.alloc | apply Kept.drewN | apply Kept.drew) | exact HK.out)⟩
 ·replace c3 := Bool.eq_false_iff.mpr c3
  subst c3
  rw [if_neg (show ¬ (false = true) by decide)] at H
  simp only [Option.some.injEq, Prod.mk.injEq] at H
  obtain ⟨rfl, rfl⟩ := H
  obtain ⟨Ao6, co6, eo6⟩ := Kd.R_slice HO0.out
  subst eo6
  go_enter Tryz.func58, Tryz.ntmps58
  go_wp2_with (first | ((with_reducible refine gc (f := 101) rfl ?_); refine goesM (some 5) Tryz.func101 #[.slice Ao6 l0.length co6, .func (.func 102) #[] #[]] ?_; (with_reducible refine (cResult.calls _ _ l0 false _ ?s1 ?s2 A2.out).mono ?_); (case s1 => exact cR HO0); (case s2 => exact (Kd.R_reads' HO0.out).2.1); rintro e w7 ⟨rfl, hb⟩; refine ⟨_, rfl, ?_⟩; replace HO0 := rb HO0 hb; replace HK := am (Kept.below (S := (fun k_ => P0_ k_)) (by repeat (first | (with_reducible first | exact HK.out | apply Kept.alloc | apply Kept.drewN | apply Kept.drew) | exact HK.out)) hb); replace HB := bs HB hb; (try clear hb)))
  go_ret2
  exact ⟨_, rl, kr HO0, bl HB, by repeat (first | (with_reducible first | exact HK.out | apply Kept.alloc | apply Kept.drewN | apply Kept.drew) | exact HK.out)⟩
def size_Combine.f (k : Nat) (l0 : List Int) (l1 : List (List (S30))) (l2 : List (S30)) : Option ((List (S30)) × Int) := (size_CheckAll.f k l0 l1).bind fun t454 => (if t454 = 0 then (if (l2.length : Int) = (l1.length : Int) then ((cCombine.f k l2).bind fun t455 => (if t455 = true then (some (([] : List (S30)), 2)) else ((size_sum.f k (l0.length : Int) l1 l2).bind fun t456 => ((size_result.f t456).bind fun bt459 => (some (bt459.1, bt459.2)))))) else (some (([] : List (S30)), 5))) else (some (([] : List (S30)), t454)))
theorem size_Combine.calls (k : Nat) (A0 : Option Addr) (c0 : Nat) (l0 : List Int) (A1 : Option Addr) (c1 : Nat) (l1 : List (List (S30))) (A2 : Option Addr) (c2 : Nat) (l2 : List (S30)) (r1 : List (S30)) (r2 : Int) (w : World) (hG : Glob w) (hr0 : Kd.C (Kd.int .i64) w A0 l0.length l0) (hc0 : l0.length ≤ c0) (hr1 : Kd.C (Kd.slice 30 k30) w A1 l1.length l1) (hc1 : l1.length ≤ c1) (hr2 : Kd.C k30 w A2 l2.length l2) (hc2 : l2.length ≤ c2) (h : size_Combine.f k l0 l1 l2 = some (r1, r2)) :
  Calls Tryz.prog 16 #[.slice A0 l0.length c0, .slice A1 l1.length c1, .slice A2 l2.length c2] w fun e w' => ∃ v0_ : Value, e = .returned (.tuple #[v0_, .int .i64 r2]) ∧ Kd.R k30 30 w' w.heap.size (fun _ => True) v0_ r1 ∧ Below w.heap.size w w' := by
 have HR0 := am hr0
 have HC0 := am hc0
 clear hr0 hc0
 have HR1 := am hr1
 have HC1 := am hc1
 clear hr1 hc1
 have HR2 := am hr2
 have HC2 := am hc2
 clear hr2 hc2
 have HG0 := am hG
 clear hG
 have HB := am (Below.refl w.heap.size w)
 have H := h
 unfold size_Combine.f at H
 clear h
 obtain ⟨t454, A4, H⟩ := bo H
 try dsimp only at H
 by_cases c5 : t454 = 0
 ·rw [if_pos c5] at H
  have c5b0 := beq_iff_eq.mpr c5
  have c5b1 := bne_eq_false_iff_eq.mpr c5
  clear c5
  by_cases c6 : (l2.length : Int) = (l1.length : Int)
  ·rw [if_pos c6] at H
   have c6b0 := beq_iff_eq.mpr c6
   have c6b1 := bne_eq_false_iff_eq.mpr c6
   have c6b2 : (l2.length == l1.length) = true := by first | simpa using c6 | (simp at c6 ⊢; omega)
   clear c6
   obtain ⟨t455, A7, H⟩ := bo H
   try dsimp only at H
   by_cases c8 : t455 = true
   ·subst c8
    rw [if_pos rfl] at H
    simp only [Option.some.injEq, Prod.mk.injEq] at H
    obtain ⟨rfl, rfl⟩ := H
    go_enter Tryz.func16, Tryz.ntmps16
    go_wp2_with (first | ((with_reducible refine gc (f := 52) rfl ?_); refine goesM (some 11) Tryz.func52 #[.slice A0 l0.length c0, .slice A1 l1.length c1] ?_; (with_reducible refine (size_CheckAll.calls k _ _ l0 _ _ l1 t454 _ ?s1 ?s2 ?s3 ?s4 ?s5 A4.out).mono ?_); (case s1 => exact gb HG0 HB); (case s2 => exact cr HR0); (case s3 => exact HC0.out); (case s4 => exact cr HR1); (case s5 => exact HC1.out); rintro e w9 ⟨rfl, hb⟩; refine ⟨_, rfl, ?_⟩; replace HB := bs HB hb; (try clear hb)) | ((with_reducible refine gc (f := 56) rfl ?_); refine goesM (some 21) Tryz.func56 #[.slice A2 l2.length c2, .func (.func 57) #[] #[]] ?_; (with_reducible refine (cCombine.calls k _ _ l2 true _ ?s1 ?s2 ?s3 A7.out).mono ?_); (case s1 => exact gb HG0 HB); (case s2 => exact cb HR2 HB); (case s3 => exact HC2.out); rintro e w10 ⟨rfl, hb⟩; refine ⟨_, rfl, ?_⟩; replace HB := bs HB hb; (try clear hb)))
    go_ret2
    exact ⟨_, rl, by first | exact Kd.R_nil _ _ _ _ _ | exact Kd.N_nil _ _ _ _ _ | exact Kd.V_nil _ _ _ _ _ | exact Kd.Q_nil _ _ _ _ _ | exact Kd.S_nil _ _ _ _ _, bl HB⟩
   ·replace c8 := Bool.eq_false_iff.mpr c8
    subst c8
    rw [if_neg (show ¬ (false = true) by decide)] at H
    obtain ⟨t456, A11, H⟩ := bo H
    try dsimp only at H
    obtain ⟨⟨t459, t462⟩, A12, H⟩ := bo H
    try dsimp only at H
    simp only [Option.some.injEq, Prod.mk.injEq] at H
    obtain ⟨rfl, rfl⟩ := H
    go_enter Tryz.func16, Tryz.ntmps16
    go_wp2_with (first | ((with_reducible refine gc (f := 52) rfl ?_); refine goesM (some 11) Tryz.func52 #[.slice A0 l0.length c0, .slice A1 l1.length c1] ?_; (with_reducible refine (size_CheckAll.calls k _ _ l0 _ _ l1 t454 _ ?s1 ?s2 ?s3 ?s4 ?s5 A4.out).mono ?_); (case s1 => exact gb HG0 HB); (case s2 => exact cr HR0); (case s3 => exact HC0.out); (case s4 => exact cr HR1); (case s5 => exact HC1.out); rintro e w13 ⟨rfl, hb⟩; refine ⟨_, rfl, ?_⟩; replace HB := bs HB hb; (try clear hb)) | ((with_reducible refine gc (f := 56) rfl ?_); refine goesM (some 21) Tryz.func56 #[.slice A2 l2.length c2, .func (.func 57) #[] #[]] ?_; (with_reducible refine (cCombine.calls k _ _ l2 false _ ?s1 ?s2 ?s3 A7.out).mono ?_); (case s1 => exact gb HG0 HB); (case s2 => exact cb HR2 HB); (case s3 => exact HC2.out); rintro e w14 ⟨rfl, hb⟩; refine ⟨_, rfl, ?_⟩; replace HB := bs HB hb; (try clear hb)) | ((with_reducible refine gc (f := 59) rfl ?_); refine goesM (some 26) Tryz.func59 #[.int .i64 (l0.length : Int), .slice A1 l1.length c1, .slice A2 l2.length c2] ?_; (with_reducible refine (size_sum.calls k (l0.length : Int) _ _ l1 _ _ l2 t456 _ ?s1 ?s2 ?s3 ?s4 ?s5 A11.out).mono ?_); (case s1 => exact gb HG0 HB); (case s2 => exact cb HR1 HB); (case s3 => exact HC1.out); (case s4 => exact cb HR2 HB); (case s5 => exact HC2.out); rintro e w15 ⟨v457, rfl, ho0, hb⟩; refine ⟨_, rfl, ?_⟩; have HO458 := am (Kd.R_lower ho0 (below_size (bl HB))); replace HB := bs HB hb; (try clear hb); (try clear ho0); obtain ⟨Ao16, co16, eo16⟩ := Kd.R_slice HO458.out; subst eo16) | ((with_reducible refine gc (f := 58) rfl ?_); refine goesM (some 27) Tryz.func58 #[.slice Ao16 t456.length co16] ?_; (with_reducible refine (size_result.calls (fun k_ => some k_ = (.slice Ao16 t456.length co16 : Value).ownBlock) (.slice Ao16 t456.length co16) t456 t459 t462 w _ ?s1 ?s2 A12.out).mono ?_); (case s1 => repeat (first | (with_reducible first | exact HB.out | apply below_alloc | apply pw_below_drewN | apply below_drew1) | exact HB.out)); (case s2 => exact Kd.R_tight rfl HO458.out); rintro e w17 ⟨v460, rfl, ho0, hb, hkp⟩; refine ⟨_, rfl, ?_⟩; have n0_ := am (Kd.R_mono (ok' := fun k_ => True) ho0 (fun k_ hk_ => trivial)); have n1_ := am (hb); clear HB; clear HO458; have HO461 := n0_; have HB := n1_; clear n0_ n1_; (try clear hb); (try clear hkp); (try clear ho0)))
    go_ret2
    exact ⟨_, rl, kr HO461, bl HB⟩
  ·rw [if_neg c6] at H
   have c6b0 := beq_eq_false_iff_ne.mpr c6
   have c6b1 := bne_iff_ne.mpr c6
   have c6b2 : (l2.length == l1.length) = false := by first | simpa using c6 | (simp at c6 ⊢; omega)
   simp only [Option.some.injEq, Prod.mk.injEq] at H
   obtain ⟨rfl, rfl⟩ := H
   go_enter Tryz.func16, Tryz.ntmps16
   go_wp2_with (first | ((with_reducible refine gc (f := 52) rfl ?_); refine goesM (some 11) Tryz.func52 #[.slice A0 l0.length c0, .slice A1 l1.length c1] ?_; (with_reducible refine (size_CheckAll.calls k _ _ l0 _ _ l1 t454 _ ?s1 ?s2 ?s3 ?s4 ?s5 A4.out).mono ?_); (case s1 => exact gb HG0 HB); (case s2 => exact cr HR0); (case s3 => exact HC0.out); (case s4 => exact cr HR1); (case s5 => exact HC1.out); rintro e w18 ⟨rfl, hb⟩; refine ⟨_, rfl, ?_⟩; replace HB := bs HB hb; (try clear hb)))
   go_ret2
   exact ⟨_, rl, by first | exact Kd.R_nil _ _ _ _ _ | exact Kd.N_nil _ _ _ _ _ | exact Kd.V_nil _ _ _ _ _ | exact Kd.Q_nil _ _ _ _ _ | exact Kd.S_nil _ _ _ _ _, bl HB⟩
 ·rw [if_neg c5] at H
  have c5b0 := beq_eq_false_iff_ne.mpr c5
  have c5b1 := bne_iff_ne.mpr c5
  simp only [Option.some.injEq, Prod.mk.injEq] at H
  obtain ⟨rfl, rfl⟩ := H
  go_enter Tryz.func16, Tryz.ntmps16
  go_wp2_with (first | ((with_reducible refine gc (f := 52) rfl ?_); refine goesM (some 11) Tryz.func52 #[.slice A0 l0.length c0, .slice A1 l1.length c1] ?_; (with_reducible refine (size_CheckAll.calls k _ _ l0 _ _ l1 t454 _ ?s1 ?s2 ?s3 ?s4 ?s5 A4.out).mono ?_); (case s1 => exact gb HG0 HB); (case s2 => exact cr HR0); (case s3 => exact HC0.out); (case s4 => exact cr HR1); (case s5 => exact HC1.out); rintro e w19 ⟨rfl, hb⟩; refine ⟨_, rfl, ?_⟩; replace HB := bs HB hb; (try clear hb)))
  go_ret2
  exact ⟨_, rl, by first | exact Kd.R_nil _ _ _ _ _ | exact Kd.N_nil _ _ _ _ _ | exact Kd.V_nil _ _ _ _ _ | exact Kd.Q_nil _ _ _ _ _ | exact Kd.S_nil _ _ _ _ _, bl HB⟩
def size_Scale.f (k : Nat) (l0 : List Int) (l1 : List (S30)) (a2_0 : ByteArray) (a2_1 : ByteArray) : Option ((List (S30)) × Int) := (size_Combine.f k l0 (([l1] : List (List (S30)))) (([(⟨a2_0, a2_1⟩ : S30)] : List (S30)))).bind fun bt470 => (some (bt470.1, bt470.2))
theorem size_Scale.calls (k : Nat) (A0 : Option Addr) (c0 : Nat) (l0 : List Int) (P1_ : Nat → Prop) (A1 : Option Addr) (c1 : Nat) (l1 : List (S30)) (a2_0 : ByteArray) (a2_1 : ByteArray) (r1 : List (S30)) (r2 : Int) (w : World) (hG : Glob w) (hr0 : Kd.C (Kd.int .i64) w A0 l0.length l0) (hc0 : l0.length ≤ c0) (hs1 : Kd.V k30 30 w w.heap.size (fun k_ => P1_ k_) (.slice A1 l1.length c1) l1) (h : size_Scale.f k l0 l1 a2_0 a2_1 = some (r1, r2)) :
  Calls Tryz.prog 23 #[.slice A0 l0.length c0, .slice A1 l1.length c1, .agg #[.string a2_0, .string a2_1]] w fun e w' => ∃ v0_ : Value, e = .returned (.tuple #[v0_, .int .i64 r2]) ∧ Kd.R k30 30 w' w.heap.size (fun k_ => (w.heap.size ≤ k_)) v0_ r1 ∧ Below w.heap.size w w' := by
 have hu30 := Tryz.underlying30
 have HR0 := am hr0
 have HC0 := am hc0
 clear hr0 hc0
 have HO1 := am (show Kd.V k30 30 w w.heap.size (fun k_ => (P1_ k_ ∨ w.heap.size ≤ k_)) (.slice A1 l1.length c1) l1 from Kd.V_mono hs1 (fun k_ hk => .inl hk))
 have HG0 := am hG
 clear hG
 have HB := am (Below.refl w.heap.size w)
 have H := h
 unfold size_Scale.f at H
 clear h
 obtain ⟨y464, hy464⟩ : ∃ y_ : List (List (S30)), y_ = (([l1] : List (List (S30)))) := ⟨_, rfl⟩
 first | rw [Option.bind_some, ← hy464] at H | rw [← hy464] at H
 have Ny464 := am hy464
 clear hy464
 obtain ⟨y467, hy467⟩ : ∃ y_ : List (S30), y_ = (([(⟨a2_0, a2_1⟩ : S30)] : List (S30))) := ⟨_, rfl⟩
 first | rw [Option.bind_some, ← hy467] at H | rw [← hy467] at H
 have Ny467 := am hy467
 clear hy467
 obtain ⟨⟨t470, t471⟩, A4, H⟩ := bo H
 try dsimp only at H
 simp only [Option.some.injEq, Prod.mk.injEq] at H
 obtain ⟨rfl, rfl⟩ := H
 go_enter Tryz.func23, Tryz.ntmps23
 go_wp2_with (first | ((with_reducible refine gd (N := 5) rfl ?_); refine boxM (N := 5) #[.string a2_0, .string a2_1] 30 ?_; intro gb463 hg w5 hbox hb; replace HO1 := am (Kd.V_below (Kd.V_elderB (kv HO1) gb463 (Nat.le_of_eq hg.symm)) hb); have BK463 := am (hbox); have GW463 := gw hg HB; have GE463 := GW463; replace HB := bs HB hb; clear hb hbox hg) | ((with_reducible refine gd (N := 10) rfl ?_); refine Kd.N_lit (Kd.slice 30 k30) _ 34 ?hg (N' := 10) ?hd (xs := ([l1] : List (List (S30)))) (inner := [.slice A1 l1.length c1]) (ok := (fun k_ => (P1_ k_ ∨ w.heap.size ≤ k_) ∧ k_ ≠ gb463)) (okp := (fun k_ => (P1_ k_ ∨ w.heap.size ≤ k_) ∧ k_ ≠ gb463)) ?hr ?hp (fun _ hk => hk) ((show ∀ k_, w5.heap.size ≤ k_ → (fun k_ => (P1_ k_ ∨ w.heap.size ≤ k_) ∧ k_ ≠ gb463) k_ from fun k_ hk => ⟨(.inr (Nat.le_trans (below_size (bl HB)) hk)), Kd.freshB (g := gb463) (o := .cells #[.string a2_0, .string a2_1] 30 (0, 0)) (bk BK463) k_ hk⟩) _ (Nat.le_refl _)) (Below.refl _ _) (Nat.le_refl _) (by simp) ?_; (case hd => rfl); (case hg => rfl); (case hr => first | (go_simp; done) | (go_simp; rfl)); (case hp => exact (Reps.one (show Kd.FK (Kd.slice 30 k30) _ _ l1 [.slice A1 l1.length c1] from (Kd.FK_slice_mk (Kd.V_reads' (Kd.V_mono (ok' := (fun k_ => (P1_ k_ ∨ w.heap.size ≤ k_) ∧ k_ ≠ gb463)) (HO1.out) (fun k_ hk => ⟨hk.1, hk.2⟩))).2.1 (Kd.V_F (Kd.V_mono (ok' := (fun k_ => (P1_ k_ ∨ w.heap.size ≤ k_) ∧ k_ ≠ gb463)) (HO1.out) (fun k_ hk => ⟨hk.1, hk.2⟩))))) (Reps.none _ _))); intro v465 w6 ho7 hb hg_ hnew_; clear hg_ hnew_; (first | rw [← Ny464.out] at ho7 | (simp only [Int.reduceToNat] at ho7; rw [← Ny464.out] at ho7)); replace HO1 := am (Kd.V_elder' (kv HO1) (Kd.N_base ho7) hb); have HO466 := am (Kd.N_lower ho7 (below_size (bl HB))); replace BK463 := kb BK463 hb; replace HB := bs HB hb; clear hb ho7; have hcz8_0 := bc BK463 0 (.string a2_0); have hcz8_1 := bc BK463 1 (.string a2_1); have hfz8_0 := blk_frozen BK463.out 0; have hfz8_1 := blk_frozen BK463.out 1) | ((with_reducible refine gd (N := 12) rfl ?_); refine Kd.R_lit k30 _ 30 ?hg (N := 12) ?hd (xs := ([(⟨a2_0, a2_1⟩ : S30)] : List (S30))) (inner := [.string a2_0, .string a2_1]) (ok := fun _ => True) (okp := fun _ => True) ?hr ?hp (fun _ hk => hk) trivial (Below.refl _ _) (Nat.le_refl _) (by simp) ?_; (case hd => rfl); (case hg => rfl); (case hr => first | (go_simp; done) | (go_simp; rfl)); (case hp => exact (Reps.c2 (show Kd.M k30 _ _ _ (⟨a2_0, a2_1⟩ : S30) [.string a2_0, .string a2_1] from (k30_mkM _ _ _ (⟨a2_0, a2_1⟩ : S30) )) (Reps.none _ _))); intro v468 w9 ho10 hb hg_ hnew_; clear hg_ hnew_; (first | rw [← Ny467.out] at ho10 | (simp only [Int.reduceToNat] at ho10; rw [← Ny467.out] at ho10)); replace HO1 := am (Kd.V_elder' (kv HO1) (Kd.R_base ho10) hb); replace HO466 := am (Kd.N_elder' (by (with_reducible repeat (first | apply Kd.N_alloc | apply Kd.N_drewN | apply Kd.N_drew)); exact HO466.out) (Kd.R_base ho10) hb); have HO469 := am (Kd.R_lower (Kd.R_newB (Kd.R_newM (M := fun k_ => (w.heap.size ≤ k_)) ho10 (below_size (bl HB)) (fun k_ h_ => h_)) (g := gb463) (o := .cells #[.string a2_0, .string a2_1] 30 (0, 0)) (bk BK463)) (below_size (bl HB))); replace BK463 := kb BK463 hb; replace HB := bs HB hb; clear hb ho10; obtain ⟨Ao11, co11, eo11⟩ := Kd.N_slice HO466.out; subst eo11; obtain ⟨Ao12, co12, eo12⟩ := Kd.R_slice HO469.out; subst eo12) | ((with_reducible refine gc (f := 16) rfl ?_); refine goesM (some 13) Tryz.func16 #[.slice A0 l0.length c0, .slice Ao11 y464.length co11, .slice Ao12 y467.length co12] ?_; (with_reducible refine (size_Combine.calls k _ _ l0 _ _ y464 _ _ y467 t470 t471 _ ?s1 ?s2 ?s3 ?s4 ?s5 ?s6 ?s7 A4.out).mono ?_); (case s1 => exact gb HG0 HB); (case s2 => exact cb HR0 HB); (case s3 => exact HC0.out); (case s4 => repeat (first | exact (Kd.N_reads' HO466.out).2.2 | (with_reducible refine Kd.C_alloc ?_ _) | (with_reducible refine Kd.C_drewN ?_ _) | (with_reducible refine Kd.C_drew ?_))); (case s5 => exact (Kd.N_reads' HO466.out).2.1); (case s6 => exact cR HO469); (case s7 => exact (Kd.R_reads' HO469.out).2.1); rintro e w13 ⟨v472, rfl, ho0, hb⟩; refine ⟨_, rfl, ?_⟩; replace HO1 := am (Kd.V_elder' (kv HO1) (Kd.R_base ho0) hb); replace HO466 := am (Kd.N_elder' (by (with_reducible repeat (first | apply Kd.N_alloc | apply Kd.N_drewN | apply Kd.N_drew)); exact HO466.out) (Kd.R_base ho0) hb); have HO473 := am (Kd.R_lower (Kd.R_newB (Kd.R_new' (Kd.R_newM (M := fun k_ => (w.heap.size ≤ k_)) ho0 (below_size (bl HB)) (fun k_ h_ => h_)) (Kd.R_lt (kr HO469))) (g := gb463) (o := .cells #[.string a2_0, .string a2_1] 30 (0, 0)) (bk BK463)) (below_size (bl HB))); replace HO469 := am (Kd.R_elder' (kr HO469) (Kd.R_base ho0) hb); replace BK463 := kb BK463 hb; replace HB := bs HB hb; (try clear hb); (try clear ho0)))
 go_ret2
 exact ⟨_, rl, by (with_reducible repeat (first | apply Kd.R_alloc | apply Kd.R_drewN | apply Kd.R_drew)); exact Kd.R_mono HO473.out (fun _ hk => hk.1.1.1), bl HB⟩
def size_checkQuotient.f (k : Nat) (l0 : List Int) (l1 : List (S30)) (l2 : List (S30)) : Option (Int) := (size_CheckAll.f k l0 (([l1, l2] : List (List (S30))))).bind fun t477 => (if t477 = 0 then ((size_termsOf.f k l0 l2).bind fun bt478 => (if (bt478.1.length : Int) = 0 then (some 17) else (some 0))) else (some t477))
theorem size_checkQuotient.calls (k : Nat) (A0 : Option Addr) (c0 : Nat) (l0 : List Int) (P1_ : Nat → Prop) (A1 : Option Addr) (c1 : Nat) (l1 : List (S30)) (P2_ : Nat → Prop) (A2 : Option Addr) (c2 : Nat) (l2 : List (S30)) (r : Int) (w : World) (hG : Glob w) (hr0 : Kd.C (Kd.int .i64) w A0 l0.length l0) (hc0 : l0.length ≤ c0) (hs1 : Kd.V k30 30 w w.heap.size (fun k_ => P1_ k_) (.slice A1 l1.length c1) l1) (hs2 : Kd.V k30 30 w w.heap.size (fun k_ => P2_ k_) (.slice A2 l2.length c2) l2) (h : size_checkQuotient.f k l0 l1 l2 = some r) :
  Calls Tryz.prog 74 #[.slice A0 l0.length c0, .slice A1 l1.length c1, .slice A2 l2.length c2] w fun e w' => e = .returned (.int .i64 r) ∧ Below w.heap.size w w' := by
 have hfd103_0 : ∀ (x0_ x1_ x2_ : Value) (W : World), (Instr.field 103 (.agg #[x0_, x1_, x2_]) 0).run Tryz.prog W = .ok x0_ W := fun _ _ _ _ => by kernel_rfl
 have HR0 := am hr0
 have HC0 := am hc0
 clear hr0 hc0
 have HO1 := am (show Kd.V k30 30 w w.heap.size (fun k_ => ((P1_ k_ ∨ P2_ k_) ∨ w.heap.size ≤ k_)) (.slice A1 l1.length c1) l1 from Kd.V_mono hs1 (fun k_ hk => .inl (.inl hk)))
 have HO2 := am (show Kd.V k30 30 w w.heap.size (fun k_ => ((P1_ k_ ∨ P2_ k_) ∨ w.heap.size ≤ k_)) (.slice A2 l2.length c2) l2 from Kd.V_mono hs2 (fun k_ hk => .inl (.inr hk)))
 have HG0 := am hG
 clear hG
 have HB := am (Below.refl w.heap.size w)
 have H := h
 unfold size_checkQuotient.f at H
 clear h
 obtain ⟨y474, hy474⟩ : ∃ y_ : List (List (S30)), y_ = (([l1, l2] : List (List (S30)))) := ⟨_, rfl⟩
 first | rw [Option.bind_some, ← hy474] at H | rw [← hy474] at H
 have Ny474 := am hy474
 clear hy474
 obtain ⟨t477, A4, H⟩ := bo H
 try dsimp only at H
 by_cases c5 : t477 = 0
 ·rw [if_pos c5] at H
  have c5b0 := beq_iff_eq.mpr c5
  have c5b1 := bne_eq_false_iff_eq.mpr c5
  clear c5
  obtain ⟨⟨t478, t481, t484⟩, A6, H⟩ := bo H
  try dsimp only at H
  by_cases c7 : (t478.length : Int) = 0
  ·rw [if_pos c7] at H
   have c7b0 := beq_iff_eq.mpr c7
   have c7b1 := bne_eq_false_iff_eq.mpr c7
   clear c7
   obtain rfl := Option.some.inj H
   go_enter Tryz.func74, Tryz.ntmps74
   go_wp2_with (first | ((with_reducible refine gd (N := 11) rfl ?_); refine Kd.N_lit (Kd.slice 30 k30) _ 34 ?hg (N' := 11) ?hd (xs := ([l1, l2] : List (List (S30)))) (inner := [.slice A1 l1.length c1, .slice A2 l2.length c2]) (ok := (fun k_ => ((P1_ k_ ∨ P2_ k_) ∨ w.heap.size ≤ k_))) (okp := (fun k_ => ((P1_ k_ ∨ P2_ k_) ∨ w.heap.size ≤ k_))) ?hr ?hp (fun _ hk => hk) ((show ∀ k_, w.heap.size ≤ k_ → (fun k_ => ((P1_ k_ ∨ P2_ k_) ∨ w.heap.size ≤ k_)) k_ from fun k_ hk => (.inr (Nat.le_trans (below_size (bl HB)) hk))) _ (Nat.le_refl _)) (Below.refl _ _) (Nat.le_refl _) (by simp) ?_; (case hd => rfl); (case hg => rfl); (case hr => first | (go_simp; done) | (go_simp; rfl)); (case hp => exact (Reps.one (show Kd.FK (Kd.slice 30 k30) _ _ l1 [.slice A1 l1.length c1] from (Kd.FK_slice_mk (Kd.V_reads' (Kd.V_mono (ok' := (fun k_ => ((P1_ k_ ∨ P2_ k_) ∨ w.heap.size ≤ k_))) (HO1.out) (fun k_ hk => hk))).2.1 (Kd.V_F (Kd.V_mono (ok' := (fun k_ => ((P1_ k_ ∨ P2_ k_) ∨ w.heap.size ≤ k_))) (HO1.out) (fun k_ hk => hk))))) (Reps.one (show Kd.FK (Kd.slice 30 k30) _ _ l2 [.slice A2 l2.length c2] from (Kd.FK_slice_mk (Kd.V_reads' (Kd.V_mono (ok' := (fun k_ => ((P1_ k_ ∨ P2_ k_) ∨ w.heap.size ≤ k_))) (HO2.out) (fun k_ hk => hk))).2.1 (Kd.V_F (Kd.V_mono (ok' := (fun k_ => ((P1_ k_ ∨ P2_ k_) ∨ w.heap.size ≤ k_))) (HO2.out) (fun k_ hk => hk))))) (Reps.none _ _)))); intro v475 w8 ho9 hb hg_ hnew_; clear hg_ hnew_; (first | rw [← Ny474.out] at ho9 | (simp only [Int.reduceToNat] at ho9; rw [← Ny474.out] at ho9)); replace HO1 := am (Kd.V_elder' (kv HO1) (Kd.N_base ho9) hb); replace HO2 := am (Kd.V_elder' (kv HO2) (Kd.N_base ho9) hb); have HO476 := am (Kd.N_lower ho9 (below_size (bl HB))); replace HB := bs HB hb; clear hb ho9; obtain ⟨Ao10, co10, eo10⟩ := Kd.N_slice HO476.out; subst eo10) | ((with_reducible refine gc (f := 52) rfl ?_); refine goesM (some 12) Tryz.func52 #[.slice A0 l0.length c0, .slice Ao10 y474.length co10] ?_; (with_reducible refine (size_CheckAll.calls k _ _ l0 _ _ y474 t477 _ ?s1 ?s2 ?s3 ?s4 ?s5 A4.out).mono ?_); (case s1 => exact gb HG0 HB); (case s2 => exact cb HR0 HB); (case s3 => exact HC0.out); (case s4 => repeat (first | exact (Kd.N_reads' HO476.out).2.2 | (with_reducible refine Kd.C_alloc ?_ _) | (with_reducible refine Kd.C_drewN ?_ _) | (with_reducible refine Kd.C_drew ?_))); (case s5 => exact (Kd.N_reads' HO476.out).2.1); rintro e w11 ⟨rfl, hb⟩; refine ⟨_, rfl, ?_⟩; replace HO1 := am (Kd.V_below (kv HO1) hb); replace HO2 := am (Kd.V_below (kv HO2) hb); replace HO476 := am (Kd.N_below (by (with_reducible repeat (first | apply Kd.N_alloc | apply Kd.N_drewN | apply Kd.N_drew)); exact HO476.out) hb); replace HB := bs HB hb; (try clear hb)) | ((with_reducible refine gc (f := 66) rfl ?_); refine goesM (some 18) Tryz.func66 #[.slice A0 l0.length c0, .slice A2 l2.length c2] ?_; (with_reducible refine (size_termsOf.calls k _ _ l0 _ _ l2 t478 t481 t484 _ ?s1 ?s2 ?s3 ?s4 ?s5 A6.out).mono ?_); (case s1 => exact gb HG0 HB); (case s2 => exact cb HR0 HB); (case s3 => exact HC0.out); (case s4 => exact cv HO2); (case s5 => exact (Kd.V_reads' HO2.out).2.1); rintro e w12 ⟨v479, v482, rfl, ho0, ho1, hb⟩; refine ⟨_, rfl, ?_⟩; replace HO1 := am (Kd.V_mono (Kd.V_told (Kd.V_told (Kd.V_old (kv HO1) hb) (Kd.R_base ho0)) (Kd.R_base ho1)) (fun _ h_ => h_.1)); replace HO2 := am (Kd.V_mono (Kd.V_told (Kd.V_told (Kd.V_old (kv HO2) hb) (Kd.R_base ho0)) (Kd.R_base ho1)) (fun _ h_ => h_.1)); replace HO476 := am (Kd.N_mono (Kd.N_told (Kd.N_told (Kd.N_old (by (with_reducible repeat (first | apply Kd.N_alloc | apply Kd.N_drewN | apply Kd.N_drew)); exact HO476.out) hb) (Kd.R_base ho0)) (Kd.R_base ho1)) (fun _ h_ => h_.1)); have HO480 := am (Kd.R_lower (Kd.R_newM (M := fun k_ => (w.heap.size ≤ k_)) ho0 (below_size (bl HB)) (fun k_ h_ => h_)) (below_size (bl HB))); have HO483 := am (Kd.R_lower (Kd.R_newM (M := fun k_ => (w.heap.size ≤ k_)) ho1 (below_size (bl HB)) (fun k_ h_ => h_)) (below_size (bl HB))); replace HB := bs HB hb; (try clear hb); (try clear ho0); (try clear ho1); obtain ⟨Ao13, co13, eo13⟩ := Kd.R_slice HO480.out; subst eo13))
   go_ret
   exact ⟨rl, bl HB⟩
  ·rw [if_neg c7] at H
   have c7b0 := beq_eq_false_iff_ne.mpr c7
   have c7b1 := bne_iff_ne.mpr c7
   have c7b2 : ¬ (t478 = []) := fun h_ => c7 (by rw [h_]; rfl)
   obtain rfl := Option.some.inj H
   go_enter Tryz.func74, Tryz.ntmps74
   go_wp2_with (first | ((with_reducible refine gd (N := 11) rfl ?_); refine Kd.N_lit (Kd.slice 30 k30) _ 34 ?hg (N' := 11) ?hd (xs := ([l1, l2] : List (List (S30)))) (inner := [.slice A1 l1.length c1, .slice A2 l2.length c2]) (ok := (fun k_ => ((P1_ k_ ∨ P2_ k_) ∨ w.heap.size ≤ k_))) (okp := (fun k_ => ((P1_ k_ ∨ P2_ k_) ∨ w.heap.size ≤ k_))) ?hr ?hp (fun _ hk => hk) ((show ∀ k_, w.heap.size ≤ k_ → (fun k_ => ((P1_ k_ ∨ P2_ k_) ∨ w.heap.size ≤ k_)) k_ from fun k_ hk => (.inr (Nat.le_trans (below_size (bl HB)) hk))) _ (Nat.le_refl _)) (Below.refl _ _) (Nat.le_refl _) (by simp) ?_; (case hd => rfl); (case hg => rfl); (case hr => first | (go_simp; done) | (go_simp; rfl)); (case hp => exact (Reps.one (show Kd.FK (Kd.slice 30 k30) _ _ l1 [.slice A1 l1.length c1] from (Kd.FK_slice_mk (Kd.V_reads' (Kd.V_mono (ok' := (fun k_ => ((P1_ k_ ∨ P2_ k_) ∨ w.heap.size ≤ k_))) (HO1.out) (fun k_ hk => hk))).2.1 (Kd.V_F (Kd.V_mono (ok' := (fun k_ => ((P1_ k_ ∨ P2_ k_) ∨ w.heap.size ≤ k_))) (HO1.out) (fun k_ hk => hk))))) (Reps.one (show Kd.FK (Kd.slice 30 k30) _ _ l2 [.slice A2 l2.length c2] from (Kd.FK_slice_mk (Kd.V_reads' (Kd.V_mono (ok' := (fun k_ => ((P1_ k_ ∨ P2_ k_) ∨ w.heap.size ≤ k_))) (HO2.out) (fun k_ hk => hk))).2.1 (Kd.V_F (Kd.V_mono (ok' := (fun k_ => ((P1_ k_ ∨ P2_ k_) ∨ w.heap.size ≤ k_))) (HO2.out) (fun k_ hk => hk))))) (Reps.none _ _)))); intro v475 w14 ho15 hb hg_ hnew_; clear hg_ hnew_; (first | rw [← Ny474.out] at ho15 | (simp only [Int.reduceToNat] at ho15; rw [← Ny474.out] at ho15)); replace HO1 := am (Kd.V_elder' (kv HO1) (Kd.N_base ho15) hb); replace HO2 := am (Kd.V_elder' (kv HO2) (Kd.N_base ho15) hb); have HO476 := am (Kd.N_lower ho15 (below_size (bl HB))); replace HB := bs HB hb; clear hb ho15; obtain ⟨Ao16, co16, eo16⟩ := Kd.N_slice HO476.out; subst eo16) | ((with_reducible refine gc (f := 52) rfl ?_); refine goesM (some 12) Tryz.func52 #[.slice A0 l0.length c0, .slice Ao16 y474.length co16] ?_; (with_reducible refine (size_CheckAll.calls k _ _ l0 _ _ y474 t477 _ ?s1 ?s2 ?s3 ?s4 ?s5 A4.out).mono ?_); (case s1 => exact gb HG0 HB); (case s2 => exact cb HR0 HB); (case s3 => exact HC0.out); (case s4 => repeat (first | exact (Kd.N_reads' HO476.out).2.2 | (with_reducible refine Kd.C_alloc ?_ _) | (with_reducible refine Kd.C_drewN ?_ _) | (with_reducible refine Kd.C_drew ?_))); (case s5 => exact (Kd.N_reads' HO476.out).2.1); rintro e w17 ⟨rfl, hb⟩; refine ⟨_, rfl, ?_⟩; replace HO1 := am (Kd.V_below (kv HO1) hb); replace HO2 := am (Kd.V_below (kv HO2) hb); replace HO476 := am (Kd.N_below (by (with_reducible repeat (first | apply Kd.N_alloc | apply Kd.N_drewN | apply Kd.N_drew)); exact HO476.out) hb); replace HB := bs HB hb; (try clear hb)) | ((with_reducible refine gc (f := 66) rfl ?_); refine goesM (some 18) Tryz.func66 #[.slice A0 l0.length c0, .slice A2 l2.length c2] ?_; (with_reducible refine (size_termsOf.calls k _ _ l0 _ _ l2 t478 t481 t484 _ ?s1 ?s2 ?s3 ?s4 ?s5 A6.out).mono ?_); (case s1 => exact gb HG0 HB); (case s2 => exact cb HR0 HB); (case s3 => exact HC0.out); (case s4 => exact cv HO2); (case s5 => exact (Kd.V_reads' HO2.out).2.1); rintro e w18 ⟨v479, v482, rfl, ho0, ho1, hb⟩; refine ⟨_, rfl, ?_⟩; replace HO1 := am (Kd.V_mono (Kd.V_told (Kd.V_told (Kd.V_old (kv HO1) hb) (Kd.R_base ho0)) (Kd.R_base ho1)) (fun _ h_ => h_.1)); replace HO2 := am (Kd.V_mono (Kd.V_told (Kd.V_told (Kd.V_old (kv HO2) hb) (Kd.R_base ho0)) (Kd.R_base ho1)) (fun _ h_ => h_.1)); replace HO476 := am (Kd.N_mono (Kd.N_told (Kd.N_told (Kd.N_old (by (with_reducible repeat (first | apply Kd.N_alloc | apply Kd.N_drewN | apply Kd.N_drew)); exact HO476.out) hb) (Kd.R_base ho0)) (Kd.R_base ho1)) (fun _ h_ => h_.1)); have HO480 := am (Kd.R_lower (Kd.R_newM (M := fun k_ => (w.heap.size ≤ k_)) ho0 (below_size (bl HB)) (fun k_ h_ => h_)) (below_size (bl HB))); have HO483 := am (Kd.R_lower (Kd.R_newM (M := fun k_ => (w.heap.size ≤ k_)) ho1 (below_size (bl HB)) (fun k_ h_ => h_)) (below_size (bl HB))); replace HB := bs HB hb; (try clear hb); (try clear ho0); (try clear ho1); obtain ⟨Ao19, co19, eo19⟩ := Kd.R_slice HO480.out; subst eo19))
   go_ret
   exact ⟨rl, bl HB⟩
 ·rw [if_neg c5] at H
  have c5b0 := beq_eq_false_iff_ne.mpr c5
  have c5b1 := bne_iff_ne.mpr c5
  obtain rfl := Option.some.inj H
  go_enter Tryz.func74, Tryz.ntmps74
  go_wp2_with (first | ((with_reducible refine gd (N := 11) rfl ?_); refine Kd.N_lit (Kd.slice 30 k30) _ 34 ?hg (N' := 11) ?hd (xs := ([l1, l2] : List (List (S30)))) (inner := [.slice A1 l1.length c1, .slice A2 l2.length c2]) (ok := (fun k_ => ((P1_ k_ ∨ P2_ k_) ∨ w.heap.size ≤ k_))) (okp := (fun k_ => ((P1_ k_ ∨ P2_ k_) ∨ w.heap.size ≤ k_))) ?hr ?hp (fun _ hk => hk) ((show ∀ k_, w.heap.size ≤ k_ → (fun k_ => ((P1_ k_ ∨ P2_ k_) ∨ w.heap.size ≤ k_)) k_ from fun k_ hk => (.inr (Nat.le_trans (below_size (bl HB)) hk))) _ (Nat.le_refl _)) (Below.refl _ _) (Nat.le_refl _) (by simp) ?_; (case hd => rfl); (case hg => rfl); (case hr => first | (go_simp; done) | (go_simp; rfl)); (case hp => exact (Reps.one (show Kd.FK (Kd.slice 30 k30) _ _ l1 [.slice A1 l1.length c1] from (Kd.FK_slice_mk (Kd.V_reads' (Kd.V_mono (ok' := (fun k_ => ((P1_ k_ ∨ P2_ k_) ∨ w.heap.size ≤ k_))) (HO1.out) (fun k_ hk => hk))).2.1 (Kd.V_F (Kd.V_mono (ok' := (fun k_ => ((P1_ k_ ∨ P2_ k_) ∨ w.heap.size ≤ k_))) (HO1.out) (fun k_ hk => hk))))) (Reps.one (show Kd.FK (Kd.slice 30 k30) _ _ l2 [.slice A2 l2.length c2] from (Kd.FK_slice_mk (Kd.V_reads' (Kd.V_mono (ok' := (fun k_ => ((P1_ k_ ∨ P2_ k_) ∨ w.heap.size ≤ k_))) (HO2.out) (fun k_ hk => hk))).2.1 (Kd.V_F (Kd.V_mono (ok' := (fun k_ => ((P1_ k_ ∨ P2_ k_) ∨ w.heap.size ≤ k_))) (HO2.out) (fun k_ hk => hk))))) (Reps.none _ _)))); intro v475 w20 ho21 hb hg_ hnew_; clear hg_ hnew_; (first | rw [← Ny474.out] at ho21 | (simp only [Int.reduceToNat] at ho21; rw [← Ny474.out] at ho21)); replace HO1 := am (Kd.V_elder' (kv HO1) (Kd.N_base ho21) hb); replace HO2 := am (Kd.V_elder' (kv HO2) (Kd.N_base ho21) hb); have HO476 := am (Kd.N_lower ho21 (below_size (bl HB))); replace HB := bs HB hb; clear hb ho21; obtain ⟨Ao22, co22, eo22⟩ := Kd.N_slice HO476.out; subst eo22) | ((with_reducible refine gc (f := 52) rfl ?_); refine goesM (some 12) Tryz.func52 #[.slice A0 l0.length c0, .slice Ao22 y474.length co22] ?_; (with_reducible refine (size_CheckAll.calls k _ _ l0 _ _ y474 t477 _ ?s1 ?s2 ?s3 ?s4 ?s5 A4.out).mono ?_); (case s1 => exact gb HG0 HB); (case s2 => exact cb HR0 HB); (case s3 => exact HC0.out); (case s4 => repeat (first | exact (Kd.N_reads' HO476.out).2.2 | (with_reducible refine Kd.C_alloc ?_ _) | (with_reducible refine Kd.C_drewN ?_ _) | (with_reducible refine Kd.C_drew ?_))); (case s5 => exact (Kd.N_reads' HO476.out).2.1); rintro e w23 ⟨rfl, hb⟩; refine ⟨_, rfl, ?_⟩; replace HO1 := am (Kd.V_below (kv HO1) hb); replace HO2 := am (Kd.V_below (kv HO2) hb); replace HO476 := am (Kd.N_below (by (with_reducible repeat (first | apply Kd.N_alloc | apply Kd.N_drewN | apply Kd.N_drew)); exact HO476.out) hb); replace HB := bs HB hb; (try clear hb)))
  go_ret
  exact ⟨rl, bl HB⟩
def fraction_Sign.f (a0_0 : ByteArray) (a0_1 : ByteArray) : Option (Int) := (whole_Sign.f a0_0).bind fun t486 => (some t486)
theorem fraction_Sign.calls (a0_0 : ByteArray) (a0_1 : ByteArray) (r : Int) (w : World) (h : fraction_Sign.f a0_0 a0_1 = some r) :
  Calls Tryz.prog 25 #[.agg #[.string a0_0, .string a0_1]] w fun e w' => e = .returned (.int .i64 r) ∧ Below w.heap.size w w' := by
 have hu30 := Tryz.underlying30
 have HB := am (Below.refl w.heap.size w)
 have H := h
 unfold fraction_Sign.f at H
 clear h
 obtain ⟨t486, A2, H⟩ := bo H
 try dsimp only at H
 obtain rfl := Option.some.inj H
 go_enter Tryz.func25, Tryz.ntmps25
 go_wp2_with (first | ((with_reducible refine gd (N := 1) rfl ?_); refine boxM (N := 1) #[.string a0_0, .string a0_1] 30 ?_; intro gb485 hg w3 hbox hb; have BK485 := am (hbox); have GW485 := gw hg HB; have GE485 := GW485; replace HB := bs HB hb; clear hb hbox hg; have hcz4_0 := bc BK485 0 (.string a0_0); have hcz4_1 := bc BK485 1 (.string a0_1); have hfz4_0 := blk_frozen BK485.out 0; have hfz4_1 := blk_frozen BK485.out 1) | ((with_reducible refine gc (f := 54) rfl ?_); refine goesM (some 5) Tryz.func54 #[.string a0_0] ?_; (with_reducible refine (whole_Sign.calls a0_0 t486 _ A2.out).mono ?_); rintro e w' ⟨rfl, ⟨nd, rfl⟩⟩; refine ⟨_, rfl, ?_⟩))
 go_ret
 exact ⟨rl, bl HB⟩
def fraction_Div.f (k : Nat) (a0_0 : ByteArray) (a0_1 : ByteArray) (a1_0 : ByteArray) (a1_1 : ByteArray) : Option (ByteArray × ByteArray × Int) := (fraction_Sign.f a1_0 a1_1).bind fun t490 => (if t490 = 0 then (some ((⟨#[]⟩ : ByteArray), (⟨#[]⟩ : ByteArray), 17)) else ((whole_Mul.f k a0_0 a1_1).bind fun t491 => ((whole_Mul.f k a0_1 a1_0).bind fun t492 => ((fraction_lowest.f k t491 t492).bind fun bt493 => (some (bt493.1, bt493.2, 0))))))
def fraction_Div.T3 : Bool × List (List Nat × List Nat) := (true, [([], []), ([0], [0]), ([], []), ([2], [2]), ([1, 3], [1, 3]), ([], []), ([5], [5]), ([], []), ([7], [7]), ([6, 8, 4], [6, 8]), ([4, 9, 9], [4, 9]), ([10, 10, 0, 1, 2, 3, 4, 5, 6, 7, 8, 9, 10], [10]), ([11, 0, 1, 2, 3, 4, 5, 6, 7, 8, 9, 10, 11], [])])
def fraction_Div.B3 : List Nat := [0, 1, 0, 4, 15, 0, 32, 0, 128, 511, 1023, 2047, 4095]
theorem fraction_Div.tab3 : rtab .any (opsOf Tryz.f139 3) = fraction_Div.T3 := by kernel_rfl
theorem fraction_Div.bits3 : waitsOk fraction_Div.T3.2 fraction_Div.B3 = true := by kernel_rfl
theorem fraction_Div.calls (k : Nat) (a0_0 : ByteArray) (a0_1 : ByteArray) (a1_0 : ByteArray) (a1_1 : ByteArray) (r1 : ByteArray) (r2 : ByteArray) (r3 : Int) (w : World) (hG : Glob w) (h : fraction_Div.f k a0_0 a0_1 a1_0 a1_1 = some (r1, r2, r3)) :
  Calls Tryz.prog 139 #[.agg #[.string a0_0, .string a0_1], .agg #[.string a1_0, .string a1_1]] w fun e w' => e = .returned (.tuple #[.agg #[.string r1, .string r2], .int .i64 r3]) ∧ Below w.heap.size w w' := by
 have hu30 := Tryz.underlying30
 have HG0 := am hG
 clear hG
 have HB := am (Below.refl w.heap.size w)
 have H := h
 unfold fraction_Div.f at H
 clear h
 obtain ⟨t490, A3, H⟩ := bo H
 try dsimp only at H
 by_cases c4 : t490 = 0
 ·rw [if_pos c4] at H
  have c4b0 := beq_iff_eq.mpr c4
  have c4b1 := bne_eq_false_iff_eq.mpr c4
  clear c4
  simp only [Option.some.injEq, Prod.mk.injEq] at H
  obtain ⟨rfl, rfl, rfl⟩ := H
  go_enter Tryz.func139, Tryz.ntmps139
  go_wp2_with (first | ((with_reducible refine gd (N := 2) rfl ?_); refine boxM (N := 2) #[.string a0_0, .string a0_1] 30 ?_; intro gb487 hg w5 hbox hb; have BK487 := am (hbox); have GW487 := gw hg HB; have GE487 := GW487; replace HB := bs HB hb; clear hb hbox hg) | ((with_reducible refine gd (N := 3) rfl ?_); refine boxM (N := 3) #[.string a1_0, .string a1_1] 30 ?_; intro gb488 hg w6 hbox hb; have BK488 := am (hbox); have GW488 := gw hg HB; have GE488 := GW488; replace HB := bs HB hb; have NB487_488 := nl hg BK487; have NB488_487 := ng hg BK487; replace BK487 := kb BK487 hb; clear hb hbox hg) | ((with_reducible refine gd (N := 4) rfl ?_); refine boxM (N := 4) #[.string (⟨#[]⟩ : ByteArray), .string (⟨#[]⟩ : ByteArray)] 30 ?_; intro gb489 hg w7 hbox hb; have BK489 := am (hbox); have GW489 := gw hg HB; have GE489 := GW489; replace HB := bs HB hb; have NB487_489 := nl hg BK487; have NB489_487 := ng hg BK487; replace BK487 := kb BK487 hb; have NB488_489 := nl hg BK488; have NB489_488 := ng hg BK488; replace BK488 := kb BK488 hb; clear hb hbox hg; have hnb8 := NB488_487.out; have hnc8 := NB487_488.out; have hnb9 := NB488_489.out; have hnc9 := NB489_488.out; have hcz10_0 := bc BK488 0 (.string a1_0); have hcz10_1 := bc BK488 1 (.string a1_1); have hfz10_0 := blk_frozen BK488.out 0; have hfz10_1 := blk_frozen BK488.out 1) | ((with_reducible refine gc (f := 25) rfl ?_); refine goesM (some 7) Tryz.func25 #[.agg #[.string a1_0, .string a1_1]] ?_; (with_reducible refine (fraction_Sign.calls a1_0 a1_1 t490 _ A3.out).mono ?_); rintro e w11 ⟨rfl, hb⟩; refine ⟨_, rfl, ?_⟩; replace BK487 := kb BK487 hb; replace BK488 := kb BK488 hb; replace BK489 := kb BK489 hb; replace HB := bs HB hb; (try clear hb); have hnb12 := NB489_487.out; have hnc12 := NB487_489.out; have hcz13_0 := bc BK489 0 (.string (⟨#[]⟩ : ByteArray)); have hcz13_1 := bc BK489 1 (.string (⟨#[]⟩ : ByteArray)); have hfz13_0 := blk_frozen BK489.out 0; have hfz13_1 := blk_frozen BK489.out 1))
  refine bodyPost_ret (results_ct rfl _ _ gb489 30 #[.string (⟨#[]⟩ : ByteArray), .string (⟨#[]⟩ : ByteArray)] (0, 0) _ rfl (by (with_reducible repeat (first | refine blk_drewN ?_ _ | refine blk_drew ?_ | refine blk_alloc ?_ _)); refine blk_put (cs := #[.string (⟨#[]⟩ : ByteArray), .string (⟨#[]⟩ : ByteArray)]) ?_ 1 _ rfl; (with_reducible repeat (first | refine blk_drewN ?_ _ | refine blk_drew ?_ | refine blk_alloc ?_ _)); refine blk_put (cs := #[.string (⟨#[]⟩ : ByteArray), .string (⟨#[]⟩ : ByteArray)]) ?_ 0 _ rfl; (with_reducible repeat (first | refine blk_drewN ?_ _ | refine blk_drew ?_ | refine blk_alloc ?_ _)); exact BK489.out) Tryz.underlying30 rfl (by kernel_rfl)) rfl ?_
  exact ⟨rl, bl HB⟩
 ·rw [if_neg c4] at H
  have c4b0 := beq_eq_false_iff_ne.mpr c4
  have c4b1 := bne_iff_ne.mpr c4
  obtain ⟨t491, A14, H⟩ := bo H
  try dsimp only at H
  obtain ⟨t492, A15, H⟩ := bo H
  try dsimp only at H
  obtain ⟨⟨t493, t494⟩, A16, H⟩ := bo H
  try dsimp only at H
  simp only [Option.some.injEq, Prod.mk.injEq] at H
  obtain ⟨rfl, rfl, rfl⟩ := H
  go_enter Tryz.func139, Tryz.ntmps139
  try go_wp2_with (first | ((with_reducible refine gd (N := 2) rfl ?_); refine boxM (N := 2) #[.string a0_0, .string a0_1] 30 ?_; intro gb487 hg w17 hbox hb; have BK487 := am (hbox); have GW487 := gw hg HB; have GE487 := GW487; replace HB := bs HB hb; clear hb hbox hg) | ((with_reducible refine gd (N := 3) rfl ?_); refine boxM (N := 3) #[.string a1_0, .string a1_1] 30 ?_; intro gb488 hg w18 hbox hb; have BK488 := am (hbox); have GW488 := gw hg HB; have GE488 := GW488; replace HB := bs HB hb; have NB487_488 := nl hg BK487; have NB488_487 := ng hg BK487; replace BK487 := kb BK487 hb; clear hb hbox hg) | ((with_reducible refine gd (N := 4) rfl ?_); refine boxM (N := 4) #[.string (⟨#[]⟩ : ByteArray), .string (⟨#[]⟩ : ByteArray)] 30 ?_; intro gb489 hg w19 hbox hb; have BK489 := am (hbox); have GW489 := gw hg HB; have GE489 := GW489; replace HB := bs HB hb; have NB487_489 := nl hg BK487; have NB489_487 := ng hg BK487; replace BK487 := kb BK487 hb; have NB488_489 := nl hg BK488; have NB489_488 := ng hg BK488; replace BK488 := kb BK488 hb; clear hb hbox hg; have hnb20 := NB488_487.out; have hnc20 := NB487_488.out; have hnb21 := NB488_489.out; have hnc21 := NB489_488.out; have hcz22_0 := bc BK488 0 (.string a1_0); have hcz22_1 := bc BK488 1 (.string a1_1); have hfz22_0 := blk_frozen BK488.out 0; have hfz22_1 := blk_frozen BK488.out 1) | ((with_reducible refine gc (f := 25) rfl ?_); refine goesM (some 7) Tryz.func25 #[.agg #[.string a1_0, .string a1_1]] ?_; (with_reducible refine (fraction_Sign.calls a1_0 a1_1 t490 _ A3.out).mono ?_); rintro e w23 ⟨rfl, hb⟩; refine ⟨_, rfl, ?_⟩; replace BK487 := kb BK487 hb; replace BK488 := kb BK488 hb; replace BK489 := kb BK489 hb; replace HB := bs HB hb; (try clear hb)))
  replace BK487 := am (blk_drew BK487.out)
  replace BK488 := am (blk_drew BK488.out)
  replace BK489 := am (blk_drew BK489.out)
  replace HB := am (below_drew1 HB.out)
  refine start_ (n := 13) (S := fun w' => w'.cell? ⟨gb487, 0, none⟩ = some (.string a0_0) ∧ w'.cell? ⟨gb487, 1, none⟩ = some (.string a0_1) ∧ w'.cell? ⟨gb488, 0, none⟩ = some (.string a1_0) ∧ w'.cell? ⟨gb488, 1, none⟩ = some (.string a1_1)) (ds := []) #[false, false, false, false, false, false, false, false, false, false, false, false, false] (by kernel_rfl) rfl rfl ⟨(blk_cell BK487.out 0).trans rfl, (blk_cell BK487.out 1).trans rfl, (blk_cell BK488.out 0).trans rfl, (blk_cell BK488.out 1).trans rfl⟩ (fun hHeld => ?_); refine with_tabW fraction_Div.tab3 fraction_Div.bits3 (fun HT_ HW_ => ?_)
  generalize w23.drew = w24 at BK487 BK488 BK489 HB hHeld ⊢
  refine purM (i := 0) (N := some 10) #[true, false, false, false, false, false, false, false, false, false, false, false, false] ?_
  refine purM (i := 2) (N := some 12) #[true, false, true, false, false, false, false, false, false, false, false, false, false] ?_
  refine purM (i := 5) (N := some 15) #[true, false, true, false, false, true, false, false, false, false, false, false, false] ?_
  refine purM (i := 7) (N := some 17) #[true, false, true, false, false, true, false, true, false, false, false, false, false] ?_
  refine take_ (i := 1) (N := some 11) (v := ?_) (a' := ?_) #[true, true, true, false, false, true, false, true, false, false, false, false, false] rfl rfl (take_ofW HT_.out HW_.out (by kernel_rfl)) (fun _ _ _ h => h) (Or.inl ⟨by rfl, ?_⟩) hHeld ?_ ?_
  rotate_left
  ·rintro w' ⟨s0, s1, s2, s3⟩
   go_simp
   with_reducible rfl
  rotate_left
  ·simp only [Act.put, List.setIfInBounds_toArray, List.set_cons_zero, List.set_cons_succ, i64_w, i32_w]
   rfl
  refine take_ (i := 3) (N := some 13) (v := ?_) (a' := ?_) #[true, true, true, true, false, true, false, true, false, false, false, false, false] rfl rfl (take_ofW HT_.out HW_.out (by kernel_rfl)) (fun _ _ _ h => h) (Or.inl ⟨by rfl, ?_⟩) hHeld ?_ ?_
  rotate_left
  ·rintro w' ⟨s0, s1, s2, s3⟩
   go_simp
   with_reducible rfl
  rotate_left
  ·simp only [Act.put, List.setIfInBounds_toArray, List.set_cons_zero, List.set_cons_succ, i64_w, i32_w]
   rfl
  refine take_ (i := 6) (N := some 16) (v := ?_) (a' := ?_) #[true, true, true, true, false, true, true, true, false, false, false, false, false] rfl rfl (take_ofW HT_.out HW_.out (by kernel_rfl)) (fun _ _ _ h => h) (Or.inl ⟨by rfl, ?_⟩) hHeld ?_ ?_
  rotate_left
  ·rintro w' ⟨s0, s1, s2, s3⟩
   go_simp
   with_reducible rfl
  rotate_left
  ·simp only [Act.put, List.setIfInBounds_toArray, List.set_cons_zero, List.set_cons_succ, i64_w, i32_w]
   rfl
  refine take_ (i := 8) (N := some 18) (v := ?_) (a' := ?_) #[true, true, true, true, false, true, true, true, true, false, false, false, false] rfl rfl (take_ofW HT_.out HW_.out (by kernel_rfl)) (fun _ _ _ h => h) (Or.inl ⟨by rfl, ?_⟩) hHeld ?_ ?_
  rotate_left
  ·rintro w' ⟨s0, s1, s2, s3⟩
   go_simp
   with_reducible rfl
  rotate_left
  ·simp only [Act.put, List.setIfInBounds_toArray, List.set_cons_zero, List.set_cons_succ, i64_w, i32_w]
   rfl
  refine one_ (i := 4) (N := some 14) #[true, true, true, true, true, true, true, true, true, false, false, false, false] rfl rfl (one_of HT_.out (by kernel_rfl)) (by decide) (fun K hK => ?_)
  refine goesR Tryz.func82 #[.string a0_0, .string a1_1] ?_
  with_reducible refine (whole_Mul.calls k a0_0 a1_1 t491 _ ?s1 A14.out).mono ?_
  (case s1 => exact gb HG0 HB)
  rintro e w25 ⟨rfl, hb⟩
  refine ⟨_, rfl, ?_⟩
  replace BK487 := kb BK487 hb
  replace BK488 := kb BK488 hb
  replace BK489 := kb BK489 hb
  replace HB := bs HB hb
  (try clear hb)
  (try clear hb2)
  (try clear hk)
  (try clear hi)
  refine hK.out _ _ ⟨(blk_cell BK487.out 0).trans rfl, (blk_cell BK487.out 1).trans rfl, (blk_cell BK488.out 0).trans rfl, (blk_cell BK488.out 1).trans rfl⟩ (fun hHeld => ?_)
  clear hK K
  refine norm_ (a' := ?_) ?_ ?_
  rotate_left
  ·show Act.put _ (some 14) _ = _
   simp only [Act.put, List.setIfInBounds_toArray, List.set_cons_zero, List.set_cons_succ, i64_w, i32_w]
   rfl
  refine one_ (i := 9) (N := some 19) #[true, true, true, true, true, true, true, true, true, true, false, false, false] rfl rfl (one_of HT_.out (by kernel_rfl)) (by decide) (fun K hK => ?_)
  refine goesR Tryz.func82 #[.string a0_1, .string a1_0] ?_
  with_reducible refine (whole_Mul.calls k a0_1 a1_0 t492 _ ?s1 A15.out).mono ?_
  (case s1 => exact gb HG0 HB)
  rintro e w26 ⟨rfl, hb⟩
  refine ⟨_, rfl, ?_⟩
  replace BK487 := kb BK487 hb
  replace BK488 := kb BK488 hb
  replace BK489 := kb BK489 hb
  replace HB := bs HB hb
  (try clear hb)
  (try clear hb2)
  (try clear hk)
  (try clear hi)
  refine hK.out _ _ ⟨(blk_cell BK487.out 0).trans rfl, (blk_cell BK487.out 1).trans rfl, (blk_cell BK488.out 0).trans rfl, (blk_cell BK488.out 1).trans rfl⟩ (fun hHeld => ?_)
  clear hK K
  refine norm_ (a' := ?_) ?_ ?_
  rotate_left
  ·show Act.put _ (some 19) _ = _
   simp only [Act.put, List.setIfInBounds_toArray, List.set_cons_zero, List.set_cons_succ, i64_w, i32_w]
   rfl
  refine one_ (i := 10) (N := some 20) #[true, true, true, true, true, true, true, true, true, true, true, false, false] rfl rfl (one_of HT_.out (by kernel_rfl)) (by decide) (fun K hK => ?_)
  refine goesR Tryz.func81 #[.string t491, .string t492] ?_
  with_reducible refine (fraction_lowest.calls k t491 t492 t493 t494 _ ?s1 A16.out).mono ?_
  (case s1 => exact gb HG0 HB)
  rintro e w27 ⟨rfl, hb⟩
  refine ⟨_, rfl, ?_⟩
  replace BK487 := kb BK487 hb
  replace BK488 := kb BK488 hb
  replace BK489 := kb BK489 hb
  replace HB := bs HB hb
  (try clear hb)
  (try clear hb2)
  (try clear hk)
  (try clear hi)
  refine hK.out _ _ ⟨(blk_cell BK487.out 0).trans rfl, (blk_cell BK487.out 1).trans rfl, (blk_cell BK488.out 0).trans rfl, (blk_cell BK488.out 1).trans rfl⟩ (fun hHeld => ?_)
  clear hK K
  refine norm_ (a' := ?_) ?_ ?_
  rotate_left
  ·show Act.put _ (some 20) _ = _
   simp only [Act.put, List.setIfInBounds_toArray, List.set_cons_zero, List.set_cons_succ, i64_w, i32_w]
   rfl
  refine one_ (i := 11) (N := none) #[true, true, true, true, true, true, true, true, true, true, true, true, false] rfl rfl (one_of HT_.out (by kernel_rfl)) (by decide) (fun K hK => ?_)
  have hs28 := bc BK489 0 (.string (⟨#[]⟩ : ByteArray))
  have hfs28 := blk_frozen BK489.out 0
  have hns28_0 := NB487_489.out
  have hns28_1 := NB488_489.out
  have hms28_0 := NB489_487.out
  have hms28_1 := NB489_488.out
  have hs29 := bc BK489 1 (.string (⟨#[]⟩ : ByteArray))
  have hfs29 := blk_frozen BK489.out 1
  have hns29_0 := NB487_489.out
  have hns29_1 := NB488_489.out
  have hms29_0 := NB489_487.out
  have hms29_1 := NB489_488.out
  refine skip_ (w1 := ?_) (by rfl) rfl ?_ ?_
  rotate_left
  ·go_simp
   rfl
  refine hK.out _ _ ⟨((cell_far (p := ⟨gb489, _, none⟩) NB487_489.out _).trans (((cell_far (p := ⟨gb489, _, none⟩) NB487_489.out _).trans (hHeld.1)))), ((cell_far (p := ⟨gb489, _, none⟩) NB487_489.out _).trans (((cell_far (p := ⟨gb489, _, none⟩) NB487_489.out _).trans (hHeld.2.1)))), ((cell_far (p := ⟨gb489, _, none⟩) NB488_489.out _).trans (((cell_far (p := ⟨gb489, _, none⟩) NB488_489.out _).trans (hHeld.2.2.1)))), ((cell_far (p := ⟨gb489, _, none⟩) NB488_489.out _).trans (((cell_far (p := ⟨gb489, _, none⟩) NB488_489.out _).trans (hHeld.2.2.2))))⟩ (fun hHeld => ?_)
  clear hK K
  refine purM (i := 12) (N := some 5) #[true, true, true, true, true, true, true, true, true, true, true, true, true] ?_
  refine done_ (done_of HT_.out (by kernel_rfl)) ?_
  try go_wp2
  refine bodyPost_ret (results_ct rfl _ _ gb489 30 #[.string t493, .string t494] (0, 0) _ rfl (by (with_reducible repeat (first | refine blk_drewN ?_ _ | refine blk_drew ?_ | refine blk_alloc ?_ _)); refine blk_put (cs := #[.string t493, .string (⟨#[]⟩ : ByteArray)]) ?_ 1 _ rfl; (with_reducible repeat (first | refine blk_drewN ?_ _ | refine blk_drew ?_ | refine blk_alloc ?_ _)); refine blk_put (cs := #[.string (⟨#[]⟩ : ByteArray), .string (⟨#[]⟩ : ByteArray)]) ?_ 0 _ rfl; (with_reducible repeat (first | refine blk_drewN ?_ _ | refine blk_drew ?_ | refine blk_alloc ?_ _)); exact BK489.out) Tryz.underlying30 rfl (by kernel_rfl)) rfl ?_
  exact ⟨rl, bl HB⟩
end Go.Proofs.YtailoobjgbldgaaGreatDoor.P
end
section
namespace Go.Proofs.YtailoobjgbldgaaGreatDoor.P
open Go.RowKit Go.Proofs.YtailoobjgbldgaaGreatDoorW.PrintWords Go.Proofs.YtailoobjgbldgaaGreatDoorW.PrintLast Go.Proofs.YtailoobjgbldgaaGreatDoorW.PrintMore
attribute [local go_sem] max2_int min2_int max_two min_two max_three min_three max_four min_four   
set_option linter.unusedVariables false
set_option linter.unusedSimpArgs false
attribute [local go_sem high] eqA30
set_option maxHeartbeats 8000000
set_option maxRecDepth 100000
mutual
def size_ratio.l0 : Nat → List (S30) → List (S30) → List (S30) → Int → Int → ByteArray → ByteArray → Option (ByteArray × ByteArray × Bool)
 | 0, _, _, _, _, _, _, _ => none
 | k + 1, x0, x1, x12, x13, x14, x499000, x499001 => if x14 < x13 then (if 0 ≤ x14 then (if x14 < (x12.length : Int) then (if ((rd_T30 x12 x14).f0).toList = ([48] : List UInt8) then (size_ratio.l0 k x0 x1 x12 x13 (wrap64 (x14 + 1)) x499000 x499001) else (if x14 < (x0.length : Int) then ((fraction_Div.f k ((rd_T30 x0 x14).f0) ((rd_T30 x0 x14).f1) ((rd_T30 x12 x14).f0) ((rd_T30 x12 x14).f1)).bind fun bt502 => (size_ratio.l0 k x0 x1 x12 x13 (wrap64 (x14 + 1)) bt502.1 bt502.2.1)) else (none))) else (none)) else (none)) else (size_ratio.l1 k x0 x1 (x1.length : Int) 0 x499000 x499001)
def size_ratio.l1 : Nat → List (S30) → List (S30) → Int → Int → ByteArray → ByteArray → Option (ByteArray × ByteArray × Bool)
 | 0, _, _, _, _, _, _ => none
 | k + 1, x0, x32, x33, x34, x499000, x499001 => if x34 < x33 then (if 0 ≤ x34 then (if x34 < (x32.length : Int) then ((fraction_Mul.f k x499000 x499001 ((rd_T30 x32 x34).f0) ((rd_T30 x32 x34).f1)).bind fun bt507 => (if x34 < (x0.length : Int) then (if (!(bt507.1.toList == (((rd_T30 x0 x34).f0).toList)) || (!(bt507.2.toList == (((rd_T30 x0 x34).f1).toList)))) = true then (some (x499000, x499001, false)) else (size_ratio.l1 k x0 x32 x33 (wrap64 (x34 + 1)) x499000 x499001)) else (none))) else (none)) else (none)) else (some (x499000, x499001, true))
end
def size_ratio.f (k : Nat) (l0 : List (S30)) (l1 : List (S30)) : Option (ByteArray × ByteArray × Bool) := (size_number.f 0).bind fun bt496 => (size_ratio.l0 k l0 l1 l1 (l1.length : Int) 0 bt496.1 bt496.2)
def size_ratio.T6 : Bool × List (List Nat × List Nat) := (true, [([], []), ([], []), ([0, 1], [0, 1]), ([2], [2]), ([], []), ([3, 4], [3, 4]), ([5], [5]), ([6], [6]), ([6], [6]), ([7, 5, 0, 1, 2, 3, 4, 5, 6, 7], [7])])
def size_ratio.B6 : List Nat := [0, 0, 3, 7, 0, 31, 63, 127, 127, 255]
theorem size_ratio.tab6 : rtab .any (opsOf Tryz.f114 6) = size_ratio.T6 := by kernel_rfl
theorem size_ratio.bits6 : waitsOk size_ratio.T6.2 size_ratio.B6 = true := by kernel_rfl
def size_ratio.T11 : Bool × List (List Nat × List Nat) := (true, [([], []), ([], []), ([0, 1], [0, 1]), ([], []), ([], []), ([3, 4], [3, 4]), ([5], [5]), ([2, 6], [2, 6])])
def size_ratio.B11 : List Nat := [0, 0, 3, 0, 0, 24, 56, 127]
theorem size_ratio.tab11 : rtab .any (opsOf Tryz.f114 11) = size_ratio.T11 := by kernel_rfl
theorem size_ratio.bits11 : waitsOk size_ratio.T11.2 size_ratio.B11 = true := by kernel_rfl
theorem size_ratio.calls (k : Nat) (A0 : Option Addr) (c0 : Nat) (l0 : List (S30)) (A1 : Option Addr) (c1 : Nat) (l1 : List (S30)) (r1 : ByteArray) (r2 : ByteArray) (r3 : Bool) (w : World) (hG : Glob w) (hr0 : Kd.C k30 w A0 l0.length l0) (hc0 : l0.length ≤ c0) (hr1 : Kd.C k30 w A1 l1.length l1) (hc1 : l1.length ≤ c1) (h : size_ratio.f k l0 l1 = some (r1, r2, r3)) :
  Calls Tryz.prog 114 #[.slice A0 l0.length c0, .slice A1 l1.length c1] w fun e w' => e = .returned (.tuple #[.agg #[.string r1, .string r2], .bool r3]) ∧ Below w.heap.size w w' := by
 have hu30 := Tryz.underlying30
 have HR0 := am hr0
 have HC0 := am hc0
 clear hr0 hc0
 have HR1 := am hr1
 have HC1 := am hc1
 clear hr1 hc1
 have HG0 := am hG
 clear hG
 have HB := am (Below.refl w.heap.size w)
 have H := h
 unfold size_ratio.f at H
 clear h
 obtain ⟨⟨t496, t497⟩, A3, H⟩ := bo H
 try dsimp only at H
 have H' := am H
 clear H
 go_enter Tryz.func114, Tryz.ntmps114
 go_wp2_with (first | ((with_reducible refine gd (N := 4) rfl ?_); refine boxM (N := 4) #[.string (⟨#[]⟩ : ByteArray), .string (⟨#[]⟩ : ByteArray)] 30 ?_; intro gb495 hg w4 hbox hb; have BK495 := am (hbox); have GW495 := gw hg HB; have GE495 := GW495; replace HB := bs HB hb; clear hb hbox hg) | ((with_reducible refine gc (f := 65) rfl ?_); refine goesM (some 11) Tryz.func65 #[.int .i64 0] ?_; (with_reducible refine (size_number.calls 0 t496 t497 _ ?s1 A3.out).mono ?_); (case s1 => exact gb HG0 HB); rintro e w5 ⟨rfl, hb⟩; refine ⟨_, rfl, ?_⟩; replace BK495 := kb BK495 hb; replace HB := bs HB hb; (try clear hb)) | ((with_reducible refine gd (N := 6) rfl ?_); refine boxM (N := 6) #[.string (⟨#[]⟩ : ByteArray), .string (⟨#[]⟩ : ByteArray)] 30 ?_; intro gb498 hg w6 hbox hb; have BK498 := am (hbox); have GW498 := gw hg HB; have GE498 := GW498; replace HB := bs HB hb; have NB495_498 := nl hg BK495; have NB498_495 := ng hg BK495; replace BK495 := kb BK495 hb; clear hb hbox hg; have hnb7 := NB498_495.out; have hnc7 := NB495_498.out; have hcz8_0 := bc BK498 0 (.string (⟨#[]⟩ : ByteArray)); have hcz8_1 := bc BK498 1 (.string (⟨#[]⟩ : ByteArray)); have hfz8_0 := blk_frozen BK498.out 0; have hfz8_1 := blk_frozen BK498.out 1))
 go_loopg [14] k (fun kq v14 w' => ∃ (x14_1 : Int) (x499000_1 : ByteArray) (x499001_1 : ByteArray), v14 = .int .i64 x14_1 ∧ Aside0 (size_ratio.l0 kq l0 l1 l1 (l1.length : Int) x14_1 x499000_1 x499001_1 = some (r1, r2, r3)) ∧ Aside0 (kq ≤ k) ∧ Aside0 (w'.heap[gb495]? = some (.cells #[.string (⟨#[]⟩ : ByteArray), .string (⟨#[]⟩ : ByteArray)] 30 (0, 0))) ∧ Aside0 (w'.heap[gb498]? = some (.cells #[.string x499000_1, .string x499001_1] 30 (0, 0))) ∧ Aside0 (Below w.heap.size w w'))
 case atStart => exact ⟨(0), (t496), (t497), rs, H', ⟨Nat.le_refl _⟩, ⟨by (with_reducible repeat (first | refine blk_drewN ?_ _ | refine blk_drew ?_ | refine blk_alloc ?_ _)); refine blk_far ?_ NB495_498.out _; (with_reducible repeat (first | refine blk_drewN ?_ _ | refine blk_drew ?_ | refine blk_alloc ?_ _)); refine blk_far ?_ NB495_498.out _; (with_reducible repeat (first | refine blk_drewN ?_ _ | refine blk_drew ?_ | refine blk_alloc ?_ _)); exact BK495.out⟩, ⟨by (with_reducible repeat (first | refine blk_drewN ?_ _ | refine blk_drew ?_ | refine blk_alloc ?_ _)); refine blk_put (cs := #[.string t496, .string (⟨#[]⟩ : ByteArray)]) ?_ 1 _ rfl; (with_reducible repeat (first | refine blk_drewN ?_ _ | refine blk_drew ?_ | refine blk_alloc ?_ _)); refine blk_put (cs := #[.string (⟨#[]⟩ : ByteArray), .string (⟨#[]⟩ : ByteArray)]) ?_ 0 _ rfl; (with_reducible repeat (first | refine blk_drewN ?_ _ | refine blk_drew ?_ | refine blk_alloc ?_ _)); exact BK498.out⟩, ⟨bl HB⟩⟩
 case round =>
  clear H'
  try clear c1
  try clear p2
  try clear c6
  try clear c7
  try clear hcz8_0
  try clear hcz8_1
  try clear hfz8_0
  try clear hfz8_1
  obtain ⟨x14_1, x499000_1, x499001_1, rfl, HA, HK1, BK495, BK498, HB⟩ := hrel
  cases gk with
  | zero => exact absurd HA.out (by simp [size_ratio.l0])
  | succ k1 =>
   have H := HA.out
   clear HA
   simp only [size_ratio.l0] at H
   by_cases c9 : x14_1 < (l1.length : Int)
   ·rw [if_pos c9] at H
    have c9b0 := decide_eq_true c9
    clear c9
    by_cases c10 : 0 ≤ x14_1
    case neg => rw [if_neg c10] at H; cases H
    rw [if_pos c10] at H
    have c10b0 := decide_eq_true c10
    clear c10
    by_cases c11 : x14_1 < (l1.length : Int)
    case neg => rw [if_neg c11] at H; cases H
    rw [if_pos c11] at H
    have c11b0 := decide_eq_true c11
    clear c11
    by_cases c12 : ((rd_T30 l1 x14_1).f0).toList = ([48] : List UInt8)
    ·rw [if_pos c12] at H
     have c12b0 := beq_iff_eq.mpr c12
     have c12b1 := bne_eq_false_iff_eq.mpr c12
     clear c12
     have H' := am H
     clear H
     have p499 : 0 ≤ (x14_1 : Int) := of_decide_eq_true (by first | (with_reducible assumption) | assumption)
     have q499 : x14_1 < (l1.length : Int) := of_decide_eq_true (by first | (with_reducible assumption) | assumption)
     obtain ⟨ad499, e499, hx499_0, hx499_1⟩ := at_T30 HR1.out x14_1 p499 q499
     cases e499
     replace hx499_0 := (HB.out.cell (World.block_lt_of_cell? w _ hx499_0)).trans hx499_0
     replace hx499_1 := (HB.out.cell (World.block_lt_of_cell? w _ hx499_1)).trans hx499_1
     replace p499 := eq_true p499
     replace q499 := eq_true q499
     go_wp2_with (first | ((with_reducible refine gd (N := 8) rfl ?_); refine boxM (N := 8) #[.string (⟨#[]⟩ : ByteArray), .string (⟨#[]⟩ : ByteArray)] 30 ?_; intro gb500 hg w13 hbox hb; have BK500 := am (hbox); have GW500 := gw hg HB; have GE500 := GW500; replace HB := bs HB hb; have NB495_500 := nl hg BK495; have NB500_495 := ng hg BK495; replace BK495 := kb BK495 hb; have NB498_500 := nl hg BK498; have NB500_498 := ng hg BK498; replace BK498 := kb BK498 hb; clear hb hbox hg; have hnb14 := NB500_495.out; have hnc14 := NB495_500.out; have hnb15 := NB500_498.out; have hnc15 := NB498_500.out; have hcz16_0 := bc BK500 0 (.string (⟨#[]⟩ : ByteArray)); have hcz16_1 := bc BK500 1 (.string (⟨#[]⟩ : ByteArray)); have hfz16_0 := blk_frozen BK500.out 0; have hfz16_1 := blk_frozen BK500.out 1))
     go_roundg k1
     case measure => have := HK1.out; omega
     case rel => exact ⟨(wrap64 (x14_1 + 1)), (x499000_1), (x499001_1), rs, H', ⟨by have := HK1.out; omega⟩, ⟨by (with_reducible repeat (first | refine blk_drewN ?_ _ | refine blk_drew ?_ | refine blk_alloc ?_ _)); refine blk_far ?_ NB495_500.out _; (with_reducible repeat (first | refine blk_drewN ?_ _ | refine blk_drew ?_ | refine blk_alloc ?_ _)); refine blk_far ?_ NB495_500.out _; (with_reducible repeat (first | refine blk_drewN ?_ _ | refine blk_drew ?_ | refine blk_alloc ?_ _)); exact BK495.out⟩, ⟨by (with_reducible repeat (first | refine blk_drewN ?_ _ | refine blk_drew ?_ | refine blk_alloc ?_ _)); refine blk_far ?_ NB498_500.out _; (with_reducible repeat (first | refine blk_drewN ?_ _ | refine blk_drew ?_ | refine blk_alloc ?_ _)); refine blk_far ?_ NB498_500.out _; (with_reducible repeat (first | refine blk_drewN ?_ _ | refine blk_drew ?_ | refine blk_alloc ?_ _)); exact BK498.out⟩, ⟨bl HB⟩⟩
    ·rw [if_neg c12] at H
     have c12b0 := beq_eq_false_iff_ne.mpr c12
     have c12b1 := bne_iff_ne.mpr c12
     by_cases c17 : x14_1 < (l0.length : Int)
     case neg => rw [if_neg c17] at H; cases H
     rw [if_pos c17] at H
     have c17b0 := decide_eq_true c17
     clear c17
     obtain ⟨⟨t502, t503, t504⟩, A18, H⟩ := bo H
     try dsimp only at H
     have H' := am H
     clear H
     have p499 : 0 ≤ (x14_1 : Int) := of_decide_eq_true (by first | (with_reducible assumption) | assumption)
     have q499 : x14_1 < (l1.length : Int) := of_decide_eq_true (by first | (with_reducible assumption) | assumption)
     obtain ⟨ad499, e499, hx499_0, hx499_1⟩ := at_T30 HR1.out x14_1 p499 q499
     cases e499
     replace hx499_0 := (HB.out.cell (World.block_lt_of_cell? w _ hx499_0)).trans hx499_0
     replace hx499_1 := (HB.out.cell (World.block_lt_of_cell? w _ hx499_1)).trans hx499_1
     replace p499 := eq_true p499
     replace q499 := eq_true q499
     try go_wp2_with (first | ((with_reducible refine gd (N := 8) rfl ?_); refine boxM (N := 8) #[.string (⟨#[]⟩ : ByteArray), .string (⟨#[]⟩ : ByteArray)] 30 ?_; intro gb500 hg w19 hbox hb; have BK500 := am (hbox); have GW500 := gw hg HB; have GE500 := GW500; replace HB := bs HB hb; have NB495_500 := nl hg BK495; have NB500_495 := ng hg BK495; replace BK495 := kb BK495 hb; have NB498_500 := nl hg BK498; have NB500_498 := ng hg BK498; replace BK498 := kb BK498 hb; clear hb hbox hg; have hnb20 := NB500_495.out; have hnc20 := NB495_500.out; have hnb21 := NB500_498.out; have hnc21 := NB498_500.out; have hcz22_0 := bc BK500 0 (.string (⟨#[]⟩ : ByteArray)); have hcz22_1 := bc BK500 1 (.string (⟨#[]⟩ : ByteArray)); have hfz22_0 := blk_frozen BK500.out 0; have hfz22_1 := blk_frozen BK500.out 1))
     have n0_ : Aside0 (((w19.setCell ⟨gb500, 0, none⟩ (.string ((rd_T30 l1 x14_1).f0))).setCell ⟨gb500, 1, none⟩ (.string ((rd_T30 l1 x14_1).f1))).heap[gb495]? = some (.cells #[.string (⟨#[]⟩ : ByteArray), .string (⟨#[]⟩ : ByteArray)] 30 (0, 0))) := ⟨by (with_reducible repeat (first | refine blk_drewN ?_ _ | refine blk_drew ?_ | refine blk_alloc ?_ _)); refine blk_far ?_ NB495_500.out _; (with_reducible repeat (first | refine blk_drewN ?_ _ | refine blk_drew ?_ | refine blk_alloc ?_ _)); refine blk_far ?_ NB495_500.out _; (with_reducible repeat (first | refine blk_drewN ?_ _ | refine blk_drew ?_ | refine blk_alloc ?_ _)); exact BK495.out⟩
     have n1_ : Aside0 (((w19.setCell ⟨gb500, 0, none⟩ (.string ((rd_T30 l1 x14_1).f0))).setCell ⟨gb500, 1, none⟩ (.string ((rd_T30 l1 x14_1).f1))).heap[gb498]? = some (.cells #[.string x499000_1, .string x499001_1] 30 (0, 0))) := ⟨by (with_reducible repeat (first | refine blk_drewN ?_ _ | refine blk_drew ?_ | refine blk_alloc ?_ _)); refine blk_far ?_ NB498_500.out _; (with_reducible repeat (first | refine blk_drewN ?_ _ | refine blk_drew ?_ | refine blk_alloc ?_ _)); refine blk_far ?_ NB498_500.out _; (with_reducible repeat (first | refine blk_drewN ?_ _ | refine blk_drew ?_ | refine blk_alloc ?_ _)); exact BK498.out⟩
     have n2_ : Aside0 (((w19.setCell ⟨gb500, 0, none⟩ (.string ((rd_T30 l1 x14_1).f0))).setCell ⟨gb500, 1, none⟩ (.string ((rd_T30 l1 x14_1).f1))).heap[gb500]? = some (.cells #[.string ((rd_T30 l1 x14_1).f0), .string ((rd_T30 l1 x14_1).f1)] 30 (0, 0))) := ⟨by (with_reducible repeat (first | refine blk_drewN ?_ _ | refine blk_drew ?_ | refine blk_alloc ?_ _)); refine blk_put (cs := #[.string ((rd_T30 l1 x14_1).f0), .string (⟨#[]⟩ : ByteArray)]) ?_ 1 _ rfl; (with_reducible repeat (first | refine blk_drewN ?_ _ | refine blk_drew ?_ | refine blk_alloc ?_ _)); refine blk_put (cs := #[.string (⟨#[]⟩ : ByteArray), .string (⟨#[]⟩ : ByteArray)]) ?_ 0 _ rfl; (with_reducible repeat (first | refine blk_drewN ?_ _ | refine blk_drew ?_ | refine blk_alloc ?_ _)); exact BK500.out⟩
     have n3_ : Aside0 (Below w.heap.size w ((w19.setCell ⟨gb500, 0, none⟩ (.string ((rd_T30 l1 x14_1).f0))).setCell ⟨gb500, 1, none⟩ (.string ((rd_T30 l1 x14_1).f1)))) := ⟨bl HB⟩
     (try clear BK495)
     (try clear BK498)
     (try clear BK500)
     (try clear HB)
     generalize ((w19.setCell ⟨gb500, 0, none⟩ (.string ((rd_T30 l1 x14_1).f0))).setCell ⟨gb500, 1, none⟩ (.string ((rd_T30 l1 x14_1).f1))) = w23 at n0_ n1_ n2_ n3_ ⊢
     have BK495 := n0_
     have BK498 := n1_
     have BK500 := n2_
     have HB := n3_
     clear n0_ n1_ n2_ n3_
     replace BK495 := am (blk_drew BK495.out)
     replace BK498 := am (blk_drew BK498.out)
     replace BK500 := am (blk_drew BK500.out)
     replace HB := am (below_drew1 HB.out)
     have p501 : 0 ≤ (x14_1 : Int) := of_decide_eq_true (by first | (with_reducible assumption) | assumption)
     have q501 : x14_1 < (l0.length : Int) := of_decide_eq_true (by first | (with_reducible assumption) | assumption)
     obtain ⟨ad501, e501, hx501_0, hx501_1⟩ := at_T30 HR0.out x14_1 p501 q501
     have hw501_1 := hx501_1
     have hw501_0 := hx501_0
     cases e501
     replace hx501_0 := (HB.out.cell (World.block_lt_of_cell? w _ hx501_0)).trans hx501_0
     replace hx501_1 := (HB.out.cell (World.block_lt_of_cell? w _ hx501_1)).trans hx501_1
     replace p501 := eq_true p501
     replace q501 := eq_true q501
     refine start_ (n := 10) (S := fun w' => w'.cell? ⟨gb500, 0, none⟩ = some (.string ((rd_T30 l1 x14_1).f0)) ∧ w'.cell? ⟨gb500, 1, none⟩ = some (.string ((rd_T30 l1 x14_1).f1)) ∧ w'.cell? (ad501.add ((x14_1).toNat * 2)) = some (.string ((rd_T30 l0 x14_1).f0)) ∧ w'.cell? ⟨(ad501.add ((x14_1).toNat * 2)).block, (ad501.add ((x14_1).toNat * 2)).off + 1, none⟩ = some (.string ((rd_T30 l0 x14_1).f1))) (ds := []) #[false, false, false, false, false, false, false, false, false, false] (by kernel_rfl) rfl rfl ⟨(blk_cell BK500.out 0).trans rfl, (blk_cell BK500.out 1).trans rfl, ((HB.out.cell (World.block_lt_of_cell? w _ hw501_0)).trans hw501_0), ((HB.out.cell (World.block_lt_of_cell? w _ hw501_1)).trans hw501_1)⟩ (fun hHeld => ?_); refine with_tabW size_ratio.tab6 size_ratio.bits6 (fun HT_ HW_ => ?_)
     generalize w23.drew = w24 at BK495 BK498 BK500 HB hx501_0 hx501_1 hHeld ⊢
     refine purM (i := 0) (N := some 23) #[true, false, false, false, false, false, false, false, false, false] ?_
     refine purM (i := 1) (N := some 24) #[true, true, false, false, false, false, false, false, false, false] ?_
     refine purM (i := 2) (N := some 25) #[true, true, true, false, false, false, false, false, false, false] ?_
     refine take_ (i := 3) (N := some 26) (v := ?_) (a' := ?_) #[true, true, true, true, false, false, false, false, false, false] rfl rfl (take_ofW HT_.out HW_.out (by kernel_rfl)) (fun _ _ _ h => h) (Or.inl ⟨by rfl, ?_⟩) hHeld ?_ ?_
     rotate_left
     ·rintro w' ⟨s0, s1, s2, s3⟩
      go_simp
      with_reducible rfl
     rotate_left
     ·simp only [Act.put, List.setIfInBounds_toArray, List.set_cons_zero, List.set_cons_succ, i64_w, i32_w]
      rfl
     refine take_ (i := 4) (N := some 27) (v := ?_) (a' := ?_) #[true, true, true, true, true, false, false, false, false, false] rfl rfl (take_ofW HT_.out HW_.out (by kernel_rfl)) (fun _ _ _ h => h) (Or.inl ⟨by rfl, ?_⟩) hHeld ?_ ?_
     rotate_left
     ·rintro w' ⟨s0, s1, s2, s3⟩
      go_simp
      with_reducible rfl
     rotate_left
     ·simp only [Act.put, List.setIfInBounds_toArray, List.set_cons_zero, List.set_cons_succ, i64_w, i32_w]
      rfl
     refine one_ (i := 5) (N := some 28) #[true, true, true, true, true, true, false, false, false, false] rfl rfl (one_of HT_.out (by kernel_rfl)) (by decide) (fun K hK => ?_)
     refine goesR Tryz.func139 #[.agg #[.string ((rd_T30 l0 x14_1).f0), .string ((rd_T30 l0 x14_1).f1)], .agg #[.string ((rd_T30 l1 x14_1).f0), .string ((rd_T30 l1 x14_1).f1)]] ?_
     with_reducible refine (fraction_Div.calls k1 ((rd_T30 l0 x14_1).f0) ((rd_T30 l0 x14_1).f1) ((rd_T30 l1 x14_1).f0) ((rd_T30 l1 x14_1).f1) t502 t503 t504 _ ?s1 A18.out).mono ?_
     (case s1 => exact gb HG0 HB)
     rintro e w25 ⟨rfl, hb⟩
     refine ⟨_, rfl, ?_⟩
     replace BK495 := kb BK495 hb
     replace BK498 := kb BK498 hb
     replace BK500 := kb BK500 hb
     replace HB := bs HB hb
     (try clear hb)
     (try clear hb2)
     (try clear hk)
     (try clear hi)
     refine hK.out _ _ ⟨(blk_cell BK500.out 0).trans rfl, (blk_cell BK500.out 1).trans rfl, ((HB.out.cell (World.block_lt_of_cell? w _ hw501_0)).trans hw501_0), ((HB.out.cell (World.block_lt_of_cell? w _ hw501_1)).trans hw501_1)⟩ (fun hHeld => ?_)
     clear hK K
     refine norm_ (a' := ?_) ?_ ?_
     rotate_left
     ·show Act.put _ (some 28) _ = _
      simp only [Act.put, List.setIfInBounds_toArray, List.set_cons_zero, List.set_cons_succ, i64_w, i32_w]
      rfl
     refine purM (i := 6) (N := some 22) #[true, true, true, true, true, true, true, false, false, false] ?_
     refine purM (i := 7) (N := some 29) #[true, true, true, true, true, true, true, true, false, false] ?_
     refine purM (i := 8) (N := some 30) #[true, true, true, true, true, true, true, true, true, false] ?_
     refine one_ (i := 9) (N := none) #[true, true, true, true, true, true, true, true, true, true] rfl rfl (one_of HT_.out (by kernel_rfl)) (by decide) (fun K hK => ?_)
     have hs26 := bc BK498 0 (.string x499000_1)
     have hfs26 := blk_frozen BK498.out 0
     have hns26_0 := NB495_498.out
     have hns26_2 := NB500_498.out
     have hms26_0 := NB498_495.out
     have hms26_2 := NB498_500.out
     have hs27 := bc BK498 1 (.string x499001_1)
     have hfs27 := blk_frozen BK498.out 1
     have hns27_0 := NB495_498.out
     have hns27_2 := NB500_498.out
     have hms27_0 := NB498_495.out
     have hms27_2 := NB498_500.out
     refine skip_ (w1 := ?_) (by rfl) rfl ?_ ?_
     rotate_left
     ·go_simp
      rfl
     refine hK.out _ _ ⟨((cell_far (p := ⟨gb498, _, none⟩) NB500_498.out _).trans (((cell_far (p := ⟨gb498, _, none⟩) NB500_498.out _).trans (hHeld.1)))), ((cell_far (p := ⟨gb498, _, none⟩) NB500_498.out _).trans (((cell_far (p := ⟨gb498, _, none⟩) NB500_498.out _).trans (hHeld.2.1)))), ((cell_far (p := ⟨gb498, _, none⟩) (by first | exact Nat.ne_of_lt (Nat.lt_of_lt_of_le (by have := World.block_lt_of_cell? _ _ hw501_0; first | rwa [add_block] at this | exact this) GW498.out) | (rw [add_block]; exact Nat.ne_of_lt (Nat.lt_of_lt_of_le (by have := World.block_lt_of_cell? _ _ hw501_0; first | rwa [add_block] at this | exact this) GW498.out)) | (show (Addr.add _ _).block ≠ _; rw [add_block]; exact Nat.ne_of_lt (Nat.lt_of_lt_of_le (by have := World.block_lt_of_cell? _ _ hw501_0; first | rwa [add_block] at this | exact this) GW498.out)) | (dsimp only; exact Nat.ne_of_lt (Nat.lt_of_lt_of_le (by have := World.block_lt_of_cell? _ _ hw501_0; first | rwa [add_block] at this | exact this) GW498.out))) _).trans (((cell_far (p := ⟨gb498, _, none⟩) (by first | exact Nat.ne_of_lt (Nat.lt_of_lt_of_le (by have := World.block_lt_of_cell? _ _ hw501_0; first | rwa [add_block] at this | exact this) GW498.out) | (rw [add_block]; exact Nat.ne_of_lt (Nat.lt_of_lt_of_le (by have := World.block_lt_of_cell? _ _ hw501_0; first | rwa [add_block] at this | exact this) GW498.out)) | (show (Addr.add _ _).block ≠ _; rw [add_block]; exact Nat.ne_of_lt (Nat.lt_of_lt_of_le (by have := World.block_lt_of_cell? _ _ hw501_0; first | rwa [add_block] at this | exact this) GW498.out)) | (dsimp only; exact Nat.ne_of_lt (Nat.lt_of_lt_of_le (by have := World.block_lt_of_cell? _ _ hw501_0; first | rwa [add_block] at this | exact this) GW498.out))) _).trans (hHeld.2.2.1)))), ((cell_far (p := ⟨gb498, _, none⟩) (by first | exact Nat.ne_of_lt (Nat.lt_of_lt_of_le (by have := World.block_lt_of_cell? _ _ hw501_1; first | rwa [add_block] at this | exact this) GW498.out) | (rw [add_block]; exact Nat.ne_of_lt (Nat.lt_of_lt_of_le (by have := World.block_lt_of_cell? _ _ hw501_1; first | rwa [add_block] at this | exact this) GW498.out)) | (show (Addr.add _ _).block ≠ _; rw [add_block]; exact Nat.ne_of_lt (Nat.lt_of_lt_of_le (by have := World.block_lt_of_cell? _ _ hw501_1; first | rwa [add_block] at this | exact this) GW498.out)) | (dsimp only; exact Nat.ne_of_lt (Nat.lt_of_lt_of_le (by have := World.block_lt_of_cell? _ _ hw501_1; first | rwa [add_block] at this | exact this) GW498.out))) _).trans (((cell_far (p := ⟨gb498, _, none⟩) (by first | exact Nat.ne_of_lt (Nat.lt_of_lt_of_le (by have := World.block_lt_of_cell? _ _ hw501_1; first | rwa [add_block] at this | exact this) GW498.out) | (rw [add_block]; exact Nat.ne_of_lt (Nat.lt_of_lt_of_le (by have := World.block_lt_of_cell? _ _ hw501_1; first | rwa [add_block] at this | exact this) GW498.out)) | (show (Addr.add _ _).block ≠ _; rw [add_block]; exact Nat.ne_of_lt (Nat.lt_of_lt_of_le (by have := World.block_lt_of_cell? _ _ hw501_1; first | rwa [add_block] at this | exact this) GW498.out)) | (dsimp only; exact Nat.ne_of_lt (Nat.lt_of_lt_of_le (by have := World.block_lt_of_cell? _ _ hw501_1; first | rwa [add_block] at this | exact this) GW498.out))) _).trans (hHeld.2.2.2))))⟩ (fun hHeld => ?_)
     clear hK K
     refine done_ (done_of HT_.out (by kernel_rfl)) ?_
     try go_wp2
     go_roundg k1
     case measure => have := HK1.out; omega
     case rel => exact ⟨(wrap64 (x14_1 + 1)), (t502), (t503), rs, H', ⟨by have := HK1.out; omega⟩, ⟨by (with_reducible repeat (first | refine blk_drewN ?_ _ | refine blk_drew ?_ | refine blk_alloc ?_ _)); refine blk_far ?_ NB495_498.out _; (with_reducible repeat (first | refine blk_drewN ?_ _ | refine blk_drew ?_ | refine blk_alloc ?_ _)); refine blk_far ?_ NB495_498.out _; (with_reducible repeat (first | refine blk_drewN ?_ _ | refine blk_drew ?_ | refine blk_alloc ?_ _)); exact BK495.out⟩, ⟨by (with_reducible repeat (first | refine blk_drewN ?_ _ | refine blk_drew ?_ | refine blk_alloc ?_ _)); refine blk_put (cs := #[.string t502, .string x499001_1]) ?_ 1 _ rfl; (with_reducible repeat (first | refine blk_drewN ?_ _ | refine blk_drew ?_ | refine blk_alloc ?_ _)); refine blk_put (cs := #[.string x499000_1, .string x499001_1]) ?_ 0 _ rfl; (with_reducible repeat (first | refine blk_drewN ?_ _ | refine blk_drew ?_ | refine blk_alloc ?_ _)); exact BK498.out⟩, ⟨bl HB⟩⟩
   ·rw [if_neg c9] at H
    have c9b0 := decide_eq_false c9
    clear c9
    have H' := am H
    clear H
    go_wp2
    go_loopg [34] k1 (fun kq v34 w' => ∃ (x34_2 : Int) (x496000_2 : ByteArray) (x496001_2 : ByteArray), v34 = .int .i64 x34_2 ∧ Aside0 (size_ratio.l1 kq l0 l1 (l1.length : Int) x34_2 x499000_1 x499001_1 = some (r1, r2, r3)) ∧ Aside0 (kq ≤ k1) ∧ Aside0 (w'.heap[gb495]? = some (.cells #[.string x496000_2, .string x496001_2] 30 (0, 0))) ∧ Aside0 (w'.heap[gb498]? = some (.cells #[.string x499000_1, .string x499001_1] 30 (0, 0))) ∧ Aside0 (Below w.heap.size w w'))
    case atStart => exact ⟨(0), ((⟨#[]⟩ : ByteArray)), ((⟨#[]⟩ : ByteArray)), rs, H', ⟨Nat.le_refl _⟩, ⟨bk BK495⟩, ⟨bk BK498⟩, ⟨bl HB⟩⟩
    case round =>
     clear H'
     try clear c1
     try clear c2
     try clear p2
     try clear p4
     try clear q4
     try clear hx4
     try clear p5
     try clear q5
     try clear hx5
     try clear c6
     try clear p6
     try clear c7
     try clear c9
     try clear c9b0
     try clear c10
     try clear c10b0
     try clear c11
     try clear c11b0
     try clear c12
     try clear c12b0
     try clear c12b1
     try clear c13
     try clear c14
     try clear c15
     try clear c17
     try clear c17b0
     try clear c20
     try clear c21
     try clear hcz16_0
     try clear hcz16_1
     try clear hcz22_0
     try clear hcz22_1
     try clear hcz8_0
     try clear hcz8_1
     try clear hfz16_0
     try clear hfz16_1
     try clear hfz22_0
     try clear hfz22_1
     try clear hfz8_0
     try clear hfz8_1
     try clear hx499_0
     try clear hx499_1
     try clear hx501_0
     try clear hx501_1
     try clear p2
     try clear p499
     try clear p501
     try clear q499
     try clear q501
     obtain ⟨x34_2, x496000_2, x496001_2, rfl, HA, HK2, BK495, BK498, HB⟩ := hrel
     cases gk with
     | zero => exact absurd HA.out (by simp [size_ratio.l1])
     | succ k2 =>
      have H := HA.out
      clear HA
      simp only [size_ratio.l1] at H
      by_cases c28 : x34_2 < (l1.length : Int)
      ·rw [if_pos c28] at H
       have c28b0 := decide_eq_true c28
       clear c28
       by_cases c29 : 0 ≤ x34_2
       case neg => rw [if_neg c29] at H; cases H
       rw [if_pos c29] at H
       have c29b0 := decide_eq_true c29
       clear c29
       by_cases c30 : x34_2 < (l1.length : Int)
       case neg => rw [if_neg c30] at H; cases H
       rw [if_pos c30] at H
       have c30b0 := decide_eq_true c30
       clear c30
       obtain ⟨⟨t507, t508⟩, A31, H⟩ := bo H
       try dsimp only at H
       by_cases c32 : x34_2 < (l0.length : Int)
       case neg => rw [if_neg c32] at H; cases H
       rw [if_pos c32] at H
       have c32b0 := decide_eq_true c32
       clear c32
       by_cases c33 : (!(t507.toList == (((rd_T30 l0 x34_2).f0).toList)) || (!(t508.toList == (((rd_T30 l0 x34_2).f1).toList)))) = true
       ·rw [if_pos c33] at H
        have c33b0 : (!(t507.toList == (((rd_T30 l0 x34_2).f0).toList)) || (!(t508.toList == (((rd_T30 l0 x34_2).f1).toList)))) = true := c33
        clear c33
        simp only [Option.some.injEq, Prod.mk.injEq] at H
        obtain ⟨rfl, rfl, rfl⟩ := H
        have p505 : 0 ≤ (x34_2 : Int) := of_decide_eq_true (by first | (with_reducible assumption) | assumption)
        have q505 : x34_2 < (l1.length : Int) := of_decide_eq_true (by first | (with_reducible assumption) | assumption)
        obtain ⟨ad505, e505, hx505_0, hx505_1⟩ := at_T30 HR1.out x34_2 p505 q505
        cases e505
        replace hx505_0 := (HB.out.cell (World.block_lt_of_cell? w _ hx505_0)).trans hx505_0
        replace hx505_1 := (HB.out.cell (World.block_lt_of_cell? w _ hx505_1)).trans hx505_1
        replace p505 := eq_true p505
        replace q505 := eq_true q505
        try go_wp2_with (first | ((with_reducible refine gd (N := 10) rfl ?_); refine boxM (N := 10) #[.string (⟨#[]⟩ : ByteArray), .string (⟨#[]⟩ : ByteArray)] 30 ?_; intro gb506 hg w34 hbox hb; have BK506 := am (hbox); have GW506 := gw hg HB; have GE506 := GW506; replace HB := bs HB hb; have NB495_506 := nl hg BK495; have NB506_495 := ng hg BK495; replace BK495 := kb BK495 hb; have NB498_506 := nl hg BK498; have NB506_498 := ng hg BK498; replace BK498 := kb BK498 hb; clear hb hbox hg; have hnb35 := NB506_495.out; have hnc35 := NB495_506.out; have hnb36 := NB506_498.out; have hnc36 := NB498_506.out; have hcz37_0 := bc BK506 0 (.string (⟨#[]⟩ : ByteArray)); have hcz37_1 := bc BK506 1 (.string (⟨#[]⟩ : ByteArray)); have hfz37_0 := blk_frozen BK506.out 0; have hfz37_1 := blk_frozen BK506.out 1))
        have n0_ : Aside0 (((w34.setCell ⟨gb506, 0, none⟩ (.string ((rd_T30 l1 x34_2).f0))).setCell ⟨gb506, 1, none⟩ (.string ((rd_T30 l1 x34_2).f1))).heap[gb495]? = some (.cells #[.string x496000_2, .string x496001_2] 30 (0, 0))) := ⟨by (with_reducible repeat (first | refine blk_drewN ?_ _ | refine blk_drew ?_ | refine blk_alloc ?_ _)); refine blk_far ?_ NB495_506.out _; (with_reducible repeat (first | refine blk_drewN ?_ _ | refine blk_drew ?_ | refine blk_alloc ?_ _)); refine blk_far ?_ NB495_506.out _; (with_reducible repeat (first | refine blk_drewN ?_ _ | refine blk_drew ?_ | refine blk_alloc ?_ _)); exact BK495.out⟩
        have n1_ : Aside0 (((w34.setCell ⟨gb506, 0, none⟩ (.string ((rd_T30 l1 x34_2).f0))).setCell ⟨gb506, 1, none⟩ (.string ((rd_T30 l1 x34_2).f1))).heap[gb498]? = some (.cells #[.string x499000_1, .string x499001_1] 30 (0, 0))) := ⟨by (with_reducible repeat (first | refine blk_drewN ?_ _ | refine blk_drew ?_ | refine blk_alloc ?_ _)); refine blk_far ?_ NB498_506.out _; (with_reducible repeat (first | refine blk_drewN ?_ _ | refine blk_drew ?_ | refine blk_alloc ?_ _)); refine blk_far ?_ NB498_506.out _; (with_reducible repeat (first | refine blk_drewN ?_ _ | refine blk_drew ?_ | refine blk_alloc ?_ _)); exact BK498.out⟩
        have n2_ : Aside0 (((w34.setCell ⟨gb506, 0, none⟩ (.string ((rd_T30 l1 x34_2).f0))).setCell ⟨gb506, 1, none⟩ (.string ((rd_T30 l1 x34_2).f1))).heap[gb506]? = some (.cells #[.string ((rd_T30 l1 x34_2).f0), .string ((rd_T30 l1 x34_2).f1)] 30 (0, 0))) := ⟨by (with_reducible repeat (first | refine blk_drewN ?_ _ | refine blk_drew ?_ | refine blk_alloc ?_ _)); refine blk_put (cs := #[.string ((rd_T30 l1 x34_2).f0), .string (⟨#[]⟩ : ByteArray)]) ?_ 1 _ rfl; (with_reducible repeat (first | refine blk_drewN ?_ _ | refine blk_drew ?_ | refine blk_alloc ?_ _)); refine blk_put (cs := #[.string (⟨#[]⟩ : ByteArray), .string (⟨#[]⟩ : ByteArray)]) ?_ 0 _ rfl; (with_reducible repeat (first | refine blk_drewN ?_ _ | refine blk_drew ?_ | refine blk_alloc ?_ _)); exact BK506.out⟩
        have n3_ : Aside0 (Below w.heap.size w ((w34.setCell ⟨gb506, 0, none⟩ (.string ((rd_T30 l1 x34_2).f0))).setCell ⟨gb506, 1, none⟩ (.string ((rd_T30 l1 x34_2).f1)))) := ⟨bl HB⟩
        (try clear BK495)
        (try clear BK498)
        (try clear BK506)
        (try clear HB)
        generalize ((w34.setCell ⟨gb506, 0, none⟩ (.string ((rd_T30 l1 x34_2).f0))).setCell ⟨gb506, 1, none⟩ (.string ((rd_T30 l1 x34_2).f1))) = w38 at n0_ n1_ n2_ n3_ ⊢
        have BK495 := n0_
        have BK498 := n1_
        have BK506 := n2_
        have HB := n3_
        clear n0_ n1_ n2_ n3_
        replace BK495 := am (blk_drew BK495.out)
        replace BK498 := am (blk_drew BK498.out)
        replace BK506 := am (blk_drew BK506.out)
        replace HB := am (below_drew1 HB.out)
        have p509 : 0 ≤ (x34_2 : Int) := of_decide_eq_true (by first | (with_reducible assumption) | assumption)
        have q509 : x34_2 < (l0.length : Int) := of_decide_eq_true (by first | (with_reducible assumption) | assumption)
        obtain ⟨ad509, e509, hx509_0, hx509_1⟩ := at_T30 HR0.out x34_2 p509 q509
        have hw509_1 := hx509_1
        have hw509_0 := hx509_0
        cases e509
        replace hx509_0 := (HB.out.cell (World.block_lt_of_cell? w _ hx509_0)).trans hx509_0
        replace hx509_1 := (HB.out.cell (World.block_lt_of_cell? w _ hx509_1)).trans hx509_1
        replace p509 := eq_true p509
        replace q509 := eq_true q509
        refine start_ (n := 8) (S := fun w' => w'.cell? ⟨gb498, 0, none⟩ = some (.string x499000_1) ∧ w'.cell? ⟨gb498, 1, none⟩ = some (.string x499001_1) ∧ w'.cell? ⟨gb506, 0, none⟩ = some (.string ((rd_T30 l1 x34_2).f0)) ∧ w'.cell? ⟨gb506, 1, none⟩ = some (.string ((rd_T30 l1 x34_2).f1)) ∧ w'.cell? (ad509.add ((x34_2).toNat * 2)) = some (.string ((rd_T30 l0 x34_2).f0)) ∧ w'.cell? ⟨(ad509.add ((x34_2).toNat * 2)).block, (ad509.add ((x34_2).toNat * 2)).off + 1, none⟩ = some (.string ((rd_T30 l0 x34_2).f1))) (ds := []) #[false, false, false, false, false, false, false, false] (by kernel_rfl) rfl rfl ⟨(blk_cell BK498.out 0).trans rfl, (blk_cell BK498.out 1).trans rfl, (blk_cell BK506.out 0).trans rfl, (blk_cell BK506.out 1).trans rfl, ((HB.out.cell (World.block_lt_of_cell? w _ hw509_0)).trans hw509_0), ((HB.out.cell (World.block_lt_of_cell? w _ hw509_1)).trans hw509_1)⟩ (fun hHeld => ?_); refine with_tabW size_ratio.tab11 size_ratio.bits11 (fun HT_ HW_ => ?_)
        generalize w38.drew = w39 at BK495 BK498 BK506 HB hx509_0 hx509_1 hHeld ⊢
        refine purM (i := 3) (N := some 42) #[false, false, false, true, false, false, false, false] ?_
        refine purM (i := 4) (N := some 43) #[false, false, false, true, true, false, false, false] ?_
        refine purM (i := 5) (N := some 44) #[false, false, false, true, true, true, false, false] ?_
        refine take_ (i := 0) (N := some 39) (v := ?_) (a' := ?_) #[true, false, false, true, true, true, false, false] rfl rfl (take_ofW HT_.out HW_.out (by kernel_rfl)) (fun _ _ _ h => h) (Or.inl ⟨by rfl, ?_⟩) hHeld ?_ ?_
        rotate_left
        ·rintro w' ⟨s0, s1, s2, s3, s4, s5⟩
         go_simp
         with_reducible rfl
        rotate_left
        ·simp only [Act.put, List.setIfInBounds_toArray, List.set_cons_zero, List.set_cons_succ, i64_w, i32_w]
         rfl
        refine take_ (i := 1) (N := some 40) (v := ?_) (a' := ?_) #[true, true, false, true, true, true, false, false] rfl rfl (take_ofW HT_.out HW_.out (by kernel_rfl)) (fun _ _ _ h => h) (Or.inl ⟨by rfl, ?_⟩) hHeld ?_ ?_
        rotate_left
        ·rintro w' ⟨s0, s1, s2, s3, s4, s5⟩
         go_simp
         with_reducible rfl
        rotate_left
        ·simp only [Act.put, List.setIfInBounds_toArray, List.set_cons_zero, List.set_cons_succ, i64_w, i32_w]
         rfl
        refine take_ (i := 6) (N := some 45) (v := ?_) (a' := ?_) #[true, true, false, true, true, true, true, false] rfl rfl (take_ofW HT_.out HW_.out (by kernel_rfl)) (fun _ _ _ h => h) (Or.inl ⟨by rfl, ?_⟩) hHeld ?_ ?_
        rotate_left
        ·rintro w' ⟨s0, s1, s2, s3, s4, s5⟩
         go_simp
         with_reducible rfl
        rotate_left
        ·simp only [Act.put, List.setIfInBounds_toArray, List.set_cons_zero, List.set_cons_succ, i64_w, i32_w]
         rfl
        refine one_ (i := 2) (N := some 41) #[true, true, true, true, true, true, true, false] rfl rfl (one_of HT_.out (by kernel_rfl)) (by decide) (fun K hK => ?_)
        refine goesR Tryz.func35 #[.agg #[.string x499000_1, .string x499001_1], .agg #[.string ((rd_T30 l1 x34_2).f0), .string ((rd_T30 l1 x34_2).f1)]] ?_
        with_reducible refine (fraction_Mul.calls k2 x499000_1 x499001_1 ((rd_T30 l1 x34_2).f0) ((rd_T30 l1 x34_2).f1) t507 t508 _ ?s1 A31.out).mono ?_
        (case s1 => exact gb HG0 HB)
        rintro e w40 ⟨rfl, hb⟩
        refine ⟨_, rfl, ?_⟩
        replace BK495 := kb BK495 hb
        replace BK498 := kb BK498 hb
        replace BK506 := kb BK506 hb
        replace HB := bs HB hb
        (try clear hb)
        (try clear hb2)
        (try clear hk)
        (try clear hi)
        refine hK.out _ _ ⟨(blk_cell BK498.out 0).trans rfl, (blk_cell BK498.out 1).trans rfl, (blk_cell BK506.out 0).trans rfl, (blk_cell BK506.out 1).trans rfl, ((HB.out.cell (World.block_lt_of_cell? w _ hw509_0)).trans hw509_0), ((HB.out.cell (World.block_lt_of_cell? w _ hw509_1)).trans hw509_1)⟩ (fun hHeld => ?_)
        clear hK K
        refine norm_ (a' := ?_) ?_ ?_
        rotate_left
        ·show Act.put _ (some 41) _ = _
         simp only [Act.put, List.setIfInBounds_toArray, List.set_cons_zero, List.set_cons_succ, i64_w, i32_w]
         rfl
        refine purM (i := 7) (N := some 46) #[true, true, true, true, true, true, true, true] ?_
        refine done_ (done_of HT_.out (by kernel_rfl)) ?_
        have hnb41 := NB498_495.out
        have hnc41 := NB495_498.out
        have hcz42_0 := bc BK498 0 (.string x499000_1)
        have hcz42_1 := bc BK498 1 (.string x499001_1)
        have hfz42_0 := blk_frozen BK498.out 0
        have hfz42_1 := blk_frozen BK498.out 1
        have hcz43_0 := bc BK495 0 (.string x496000_2)
        have hcz43_1 := bc BK495 1 (.string x496001_2)
        have hfz43_0 := blk_frozen BK495.out 0
        have hfz43_1 := blk_frozen BK495.out 1
        try go_wp2
        refine bodyPost_ret (results_ct rfl _ _ gb495 30 #[.string x499000_1, .string x499001_1] (0, 0) _ rfl (by (with_reducible repeat (first | refine blk_drewN ?_ _ | refine blk_drew ?_ | refine blk_alloc ?_ _)); refine blk_put (cs := #[.string x499000_1, .string x496001_2]) ?_ 1 _ rfl; (with_reducible repeat (first | refine blk_drewN ?_ _ | refine blk_drew ?_ | refine blk_alloc ?_ _)); refine blk_put (cs := #[.string x496000_2, .string x496001_2]) ?_ 0 _ rfl; (with_reducible repeat (first | refine blk_drewN ?_ _ | refine blk_drew ?_ | refine blk_alloc ?_ _)); exact BK495.out) Tryz.underlying30 rfl (by kernel_rfl)) rfl ?_
        exact ⟨rl, bl HB⟩
       ·rw [if_neg c33] at H
        have c33b0 : (!(t507.toList == (((rd_T30 l0 x34_2).f0).toList)) || (!(t508.toList == (((rd_T30 l0 x34_2).f1).toList)))) = false := by simpa using c33
        clear c33
        have H' := am H
        clear H
        have p505 : 0 ≤ (x34_2 : Int) := of_decide_eq_true (by first | (with_reducible assumption) | assumption)
        have q505 : x34_2 < (l1.length : Int) := of_decide_eq_true (by first | (with_reducible assumption) | assumption)
        obtain ⟨ad505, e505, hx505_0, hx505_1⟩ := at_T30 HR1.out x34_2 p505 q505
        cases e505
        replace hx505_0 := (HB.out.cell (World.block_lt_of_cell? w _ hx505_0)).trans hx505_0
        replace hx505_1 := (HB.out.cell (World.block_lt_of_cell? w _ hx505_1)).trans hx505_1
        replace p505 := eq_true p505
        replace q505 := eq_true q505
        try go_wp2_with (first | ((with_reducible refine gd (N := 10) rfl ?_); refine boxM (N := 10) #[.string (⟨#[]⟩ : ByteArray), .string (⟨#[]⟩ : ByteArray)] 30 ?_; intro gb506 hg w44 hbox hb; have BK506 := am (hbox); have GW506 := gw hg HB; have GE506 := GW506; replace HB := bs HB hb; have NB495_506 := nl hg BK495; have NB506_495 := ng hg BK495; replace BK495 := kb BK495 hb; have NB498_506 := nl hg BK498; have NB506_498 := ng hg BK498; replace BK498 := kb BK498 hb; clear hb hbox hg; have hnb45 := NB506_495.out; have hnc45 := NB495_506.out; have hnb46 := NB506_498.out; have hnc46 := NB498_506.out; have hcz47_0 := bc BK506 0 (.string (⟨#[]⟩ : ByteArray)); have hcz47_1 := bc BK506 1 (.string (⟨#[]⟩ : ByteArray)); have hfz47_0 := blk_frozen BK506.out 0; have hfz47_1 := blk_frozen BK506.out 1))
        have n0_ : Aside0 (((w44.setCell ⟨gb506, 0, none⟩ (.string ((rd_T30 l1 x34_2).f0))).setCell ⟨gb506, 1, none⟩ (.string ((rd_T30 l1 x34_2).f1))).heap[gb495]? = some (.cells #[.string x496000_2, .string x496001_2] 30 (0, 0))) := ⟨by (with_reducible repeat (first | refine blk_drewN ?_ _ | refine blk_drew ?_ | refine blk_alloc ?_ _)); refine blk_far ?_ NB495_506.out _; (with_reducible repeat (first | refine blk_drewN ?_ _ | refine blk_drew ?_ | refine blk_alloc ?_ _)); refine blk_far ?_ NB495_506.out _; (with_reducible repeat (first | refine blk_drewN ?_ _ | refine blk_drew ?_ | refine blk_alloc ?_ _)); exact BK495.out⟩
        have n1_ : Aside0 (((w44.setCell ⟨gb506, 0, none⟩ (.string ((rd_T30 l1 x34_2).f0))).setCell ⟨gb506, 1, none⟩ (.string ((rd_T30 l1 x34_2).f1))).heap[gb498]? = some (.cells #[.string x499000_1, .string x499001_1] 30 (0, 0))) := ⟨by (with_reducible repeat (first | refine blk_drewN ?_ _ | refine blk_drew ?_ | refine blk_alloc ?_ _)); refine blk_far ?_ NB498_506.out _; (with_reducible repeat (first | refine blk_drewN ?_ _ | refine blk_drew ?_ | refine blk_alloc ?_ _)); refine blk_far ?_ NB498_506.out _; (with_reducible repeat (first | refine blk_drewN ?_ _ | refine blk_drew ?_ | refine blk_alloc ?_ _)); exact BK498.out⟩
        have n2_ : Aside0 (((w44.setCell ⟨gb506, 0, none⟩ (.string ((rd_T30 l1 x34_2).f0))).setCell ⟨gb506, 1, none⟩ (.string ((rd_T30 l1 x34_2).f1))).heap[gb506]? = some (.cells #[.string ((rd_T30 l1 x34_2).f0), .string ((rd_T30 l1 x34_2).f1)] 30 (0, 0))) := ⟨by (with_reducible repeat (first | refine blk_drewN ?_ _ | refine blk_drew ?_ | refine blk_alloc ?_ _)); refine blk_put (cs := #[.string ((rd_T30 l1 x34_2).f0), .string (⟨#[]⟩ : ByteArray)]) ?_ 1 _ rfl; (with_reducible repeat (first | refine blk_drewN ?_ _ | refine blk_drew ?_ | refine blk_alloc ?_ _)); refine blk_put (cs := #[.string (⟨#[]⟩ : ByteArray), .string (⟨#[]⟩ : ByteArray)]) ?_ 0 _ rfl; (with_reducible repeat (first | refine blk_drewN ?_ _ | refine blk_drew ?_ | refine blk_alloc ?_ _)); exact BK506.out⟩
        have n3_ : Aside0 (Below w.heap.size w ((w44.setCell ⟨gb506, 0, none⟩ (.string ((rd_T30 l1 x34_2).f0))).setCell ⟨gb506, 1, none⟩ (.string ((rd_T30 l1 x34_2).f1)))) := ⟨bl HB⟩
        (try clear BK495)
        (try clear BK498)
        (try clear BK506)
        (try clear HB)
        generalize ((w44.setCell ⟨gb506, 0, none⟩ (.string ((rd_T30 l1 x34_2).f0))).setCell ⟨gb506, 1, none⟩ (.string ((rd_T30 l1 x34_2).f1))) = w48 at n0_ n1_ n2_ n3_ ⊢
        have BK495 := n0_
        have BK498 := n1_
        have BK506 := n2_
        have HB := n3_
        clear n0_ n1_ n2_ n3_
        replace BK495 := am (blk_drew BK495.out)
        replace BK498 := am (blk_drew BK498.out)
        replace BK506 := am (blk_drew BK506.out)
        replace HB := am (below_drew1 HB.out)
        have p509 : 0 ≤ (x34_2 : Int) := of_decide_eq_true (by first | (with_reducible assumption) | assumption)
        have q509 : x34_2 < (l0.length : Int) := of_decide_eq_true (by first | (with_reducible assumption) | assumption)
        obtain ⟨ad509, e509, hx509_0, hx509_1⟩ := at_T30 HR0.out x34_2 p509 q509
        have hw509_1 := hx509_1
        have hw509_0 := hx509_0
        cases e509
        replace hx509_0 := (HB.out.cell (World.block_lt_of_cell? w _ hx509_0)).trans hx509_0
        replace hx509_1 := (HB.out.cell (World.block_lt_of_cell? w _ hx509_1)).trans hx509_1
        replace p509 := eq_true p509
        replace q509 := eq_true q509
        refine start_ (n := 8) (S := fun w' => w'.cell? ⟨gb498, 0, none⟩ = some (.string x499000_1) ∧ w'.cell? ⟨gb498, 1, none⟩ = some (.string x499001_1) ∧ w'.cell? ⟨gb506, 0, none⟩ = some (.string ((rd_T30 l1 x34_2).f0)) ∧ w'.cell? ⟨gb506, 1, none⟩ = some (.string ((rd_T30 l1 x34_2).f1)) ∧ w'.cell? (ad509.add ((x34_2).toNat * 2)) = some (.string ((rd_T30 l0 x34_2).f0)) ∧ w'.cell? ⟨(ad509.add ((x34_2).toNat * 2)).block, (ad509.add ((x34_2).toNat * 2)).off + 1, none⟩ = some (.string ((rd_T30 l0 x34_2).f1))) (ds := []) #[false, false, false, false, false, false, false, false] (by kernel_rfl) rfl rfl ⟨(blk_cell BK498.out 0).trans rfl, (blk_cell BK498.out 1).trans rfl, (blk_cell BK506.out 0).trans rfl, (blk_cell BK506.out 1).trans rfl, ((HB.out.cell (World.block_lt_of_cell? w _ hw509_0)).trans hw509_0), ((HB.out.cell (World.block_lt_of_cell? w _ hw509_1)).trans hw509_1)⟩ (fun hHeld => ?_); refine with_tabW size_ratio.tab11 size_ratio.bits11 (fun HT_ HW_ => ?_)
        generalize w48.drew = w49 at BK495 BK498 BK506 HB hx509_0 hx509_1 hHeld ⊢
        refine purM (i := 3) (N := some 42) #[false, false, false, true, false, false, false, false] ?_
        refine purM (i := 4) (N := some 43) #[false, false, false, true, true, false, false, false] ?_
        refine purM (i := 5) (N := some 44) #[false, false, false, true, true, true, false, false] ?_
        refine take_ (i := 0) (N := some 39) (v := ?_) (a' := ?_) #[true, false, false, true, true, true, false, false] rfl rfl (take_ofW HT_.out HW_.out (by kernel_rfl)) (fun _ _ _ h => h) (Or.inl ⟨by rfl, ?_⟩) hHeld ?_ ?_
        rotate_left
        ·rintro w' ⟨s0, s1, s2, s3, s4, s5⟩
         go_simp
         with_reducible rfl
        rotate_left
        ·simp only [Act.put, List.setIfInBounds_toArray, List.set_cons_zero, List.set_cons_succ, i64_w, i32_w]
         rfl
        refine take_ (i := 1) (N := some 40) (v := ?_) (a' := ?_) #[true, true, false, true, true, true, false, false] rfl rfl (take_ofW HT_.out HW_.out (by kernel_rfl)) (fun _ _ _ h => h) (Or.inl ⟨by rfl, ?_⟩) hHeld ?_ ?_
        rotate_left
        ·rintro w' ⟨s0, s1, s2, s3, s4, s5⟩
         go_simp
         with_reducible rfl
        rotate_left
        ·simp only [Act.put, List.setIfInBounds_toArray, List.set_cons_zero, List.set_cons_succ, i64_w, i32_w]
         rfl
        refine take_ (i := 6) (N := some 45) (v := ?_) (a' := ?_) #[true, true, false, true, true, true, true, false] rfl rfl (take_ofW HT_.out HW_.out (by kernel_rfl)) (fun _ _ _ h => h) (Or.inl ⟨by rfl, ?_⟩) hHeld ?_ ?_
        rotate_left
        ·rintro w' ⟨s0, s1, s2, s3, s4, s5⟩
         go_simp
         with_reducible rfl
        rotate_left
        ·simp only [Act.put, List.setIfInBounds_toArray, List.set_cons_zero, List.set_cons_succ, i64_w, i32_w]
         rfl
        refine one_ (i := 2) (N := some 41) #[true, true, true, true, true, true, true, false] rfl rfl (one_of HT_.out (by kernel_rfl)) (by decide) (fun K hK => ?_)
        refine goesR Tryz.func35 #[.agg #[.string x499000_1, .string x499001_1], .agg #[.string ((rd_T30 l1 x34_2).f0), .string ((rd_T30 l1 x34_2).f1)]] ?_
        with_reducible refine (fraction_Mul.calls k2 x499000_1 x499001_1 ((rd_T30 l1 x34_2).f0) ((rd_T30 l1 x34_2).f1) t507 t508 _ ?s1 A31.out).mono ?_
        (case s1 => exact gb HG0 HB)
        rintro e w50 ⟨rfl, hb⟩
        refine ⟨_, rfl, ?_⟩
        replace BK495 := kb BK495 hb
        replace BK498 := kb BK498 hb
        replace BK506 := kb BK506 hb
        replace HB := bs HB hb
        (try clear hb)
        (try clear hb2)
        (try clear hk)
        (try clear hi)
        refine hK.out _ _ ⟨(blk_cell BK498.out 0).trans rfl, (blk_cell BK498.out 1).trans rfl, (blk_cell BK506.out 0).trans rfl, (blk_cell BK506.out 1).trans rfl, ((HB.out.cell (World.block_lt_of_cell? w _ hw509_0)).trans hw509_0), ((HB.out.cell (World.block_lt_of_cell? w _ hw509_1)).trans hw509_1)⟩ (fun hHeld => ?_)
        clear hK K
        refine norm_ (a' := ?_) ?_ ?_
        rotate_left
        ·show Act.put _ (some 41) _ = _
         simp only [Act.put, List.setIfInBounds_toArray, List.set_cons_zero, List.set_cons_succ, i64_w, i32_w]
         rfl
        refine purM (i := 7) (N := some 46) #[true, true, true, true, true, true, true, true] ?_
        refine done_ (done_of HT_.out (by kernel_rfl)) ?_
        try go_wp2
        go_roundg k2
        case measure => have := HK1.out; have := HK2.out; omega
        case rel => exact ⟨(wrap64 (x34_2 + 1)), (x496000_2), (x496001_2), rs, H', ⟨by have := HK1.out; have := HK2.out; omega⟩, ⟨bk BK495⟩, ⟨bk BK498⟩, ⟨bl HB⟩⟩
      ·rw [if_neg c28] at H
       have c28b0 := decide_eq_false c28
       clear c28
       simp only [Option.some.injEq, Prod.mk.injEq] at H
       obtain ⟨rfl, rfl, rfl⟩ := H
       have hnb51 := NB498_495.out
       have hnc51 := NB495_498.out
       have hcz52_0 := bc BK498 0 (.string x499000_1)
       have hcz52_1 := bc BK498 1 (.string x499001_1)
       have hfz52_0 := blk_frozen BK498.out 0
       have hfz52_1 := blk_frozen BK498.out 1
       have hcz53_0 := bc BK495 0 (.string x496000_2)
       have hcz53_1 := bc BK495 1 (.string x496001_2)
       have hfz53_0 := blk_frozen BK495.out 0
       have hfz53_1 := blk_frozen BK495.out 1
       go_wp2
       refine bodyPost_ret (results_ct rfl _ _ gb495 30 #[.string x499000_1, .string x499001_1] (0, 0) _ rfl (by (with_reducible repeat (first | refine blk_drewN ?_ _ | refine blk_drew ?_ | refine blk_alloc ?_ _)); refine blk_put (cs := #[.string x499000_1, .string x496001_2]) ?_ 1 _ rfl; (with_reducible repeat (first | refine blk_drewN ?_ _ | refine blk_drew ?_ | refine blk_alloc ?_ _)); refine blk_put (cs := #[.string x496000_2, .string x496001_2]) ?_ 0 _ rfl; (with_reducible repeat (first | refine blk_drewN ?_ _ | refine blk_drew ?_ | refine blk_alloc ?_ _)); exact BK495.out) Tryz.underlying30 rfl (by kernel_rfl)) rfl ?_
       exact ⟨rl, bl HB⟩
def fraction_Floor.f (k : Nat) (a0_0 : ByteArray) (a0_1 : ByteArray) : Option (ByteArray) := (whole_DivMod.f k a0_0 a0_1).bind fun bt511 => (some bt511.1)
theorem fraction_Floor.calls (k : Nat) (a0_0 : ByteArray) (a0_1 : ByteArray) (r : ByteArray) (w : World) (hG : Glob w) (h : fraction_Floor.f k a0_0 a0_1 = some r) :
  Calls Tryz.prog 115 #[.agg #[.string a0_0, .string a0_1]] w fun e w' => e = .returned (.string r) ∧ Below w.heap.size w w' := by
 have hu30 := Tryz.underlying30
 have HG0 := am hG
 clear hG
 have HB := am (Below.refl w.heap.size w)
 have H := h
 unfold fraction_Floor.f at H
 clear h
 obtain ⟨⟨t511, t512, t513⟩, A2, H⟩ := bo H
 try dsimp only at H
 obtain rfl := Option.some.inj H
 go_enter Tryz.func115, Tryz.ntmps115
 go_wp2_with (first | ((with_reducible refine gd (N := 1) rfl ?_); refine boxM (N := 1) #[.string a0_0, .string a0_1] 30 ?_; intro gb510 hg w3 hbox hb; have BK510 := am (hbox); have GW510 := gw hg HB; have GE510 := GW510; replace HB := bs HB hb; clear hb hbox hg; have hcz4_0 := bc BK510 0 (.string a0_0); have hcz4_1 := bc BK510 1 (.string a0_1); have hfz4_0 := blk_frozen BK510.out 0; have hfz4_1 := blk_frozen BK510.out 1) | ((with_reducible refine gc (f := 107) rfl ?_); refine goesM (some 11) Tryz.func107 #[.string a0_0, .string a0_1] ?_; (with_reducible refine (whole_DivMod.calls k a0_0 a0_1 t511 t512 t513 _ ?s1 A2.out).mono ?_); (case s1 => exact gb HG0 HB); rintro e w5 ⟨rfl, hb⟩; refine ⟨_, rfl, ?_⟩; replace BK510 := kb BK510 hb; replace HB := bs HB hb; (try clear hb)))
 go_ret
 exact ⟨rl, bl HB⟩
end Go.Proofs.YtailoobjgbldgaaGreatDoor.P
end
section
namespace Go.Proofs.YtailoobjgbldgaaGreatDoor.P
open Go.RowKit Go.Proofs.YtailoobjgbldgaaGreatDoorW.PrintWords Go.Proofs.YtailoobjgbldgaaGreatDoorW.PrintLast Go.Proofs.YtailoobjgbldgaaGreatDoorW.PrintMore
attribute [local go_sem] max2_int min2_int max_two min_two max_three min_three max_four min_four   
set_option linter.unusedVariables false
set_option linter.unusedSimpArgs false
set_option maxHeartbeats 8000000
set_option maxRecDepth 100000
def size_downward.f (a0 : Int) (a1 : Int) : Option (Int) := if a0 < 0 then (if a1 = 0 then (none) else (some (wrap64 (-(wrap64 (Int.tdiv (wrap64 ((wrap64 ((wrap64 (-a0)) + a1)) - 1)) a1)))))) else (if a1 = 0 then (none) else (some (wrap64 (Int.tdiv a0 a1))))
theorem size_downward.calls (a0 : Int) (a1 : Int) (r : Int) (w : World) (h : size_downward.f a0 a1 = some r) :
  Calls Tryz.prog 140 #[.int .i64 a0, .int .i64 a1] w fun e w' => e = .returned (.int .i64 r) ∧ Drawn0 w w' := by
 have H := h
 unfold size_downward.f at H
 clear h
 by_cases c3 : a0 < 0
 ·rw [if_pos c3] at H
  have c3b0 := decide_eq_true c3
  clear c3
  by_cases c4 : a1 = 0
  case pos => rw [if_pos c4] at H; cases H
  rw [if_neg c4] at H
  have c4b0 := beq_eq_false_iff_ne.mpr c4
  have c4b1 := bne_iff_ne.mpr c4
  obtain rfl := Option.some.inj H
  go_enter Tryz.func140, Tryz.ntmps140
  go_wp2
  go_ret
  exact ⟨by first | rfl | (simp; done) | (simp [*]; done), by repeat (first | exact Drawn0.refl _ | apply Drawn0.step)⟩
 ·rw [if_neg c3] at H
  have c3b0 := decide_eq_false c3
  clear c3
  by_cases c5 : a1 = 0
  case pos => rw [if_pos c5] at H; cases H
  rw [if_neg c5] at H
  have c5b0 := beq_eq_false_iff_ne.mpr c5
  have c5b1 := bne_iff_ne.mpr c5
  obtain rfl := Option.some.inj H
  go_enter Tryz.func140, Tryz.ntmps140
  go_wp2
  go_ret
  exact ⟨by first | rfl | (simp; done) | (simp [*]; done), by repeat (first | exact Drawn0.refl _ | apply Drawn0.step)⟩
mutual
def size_quotient.j0 : Nat → Int → Int → Int → Int → Int → Int → Bool → Option (Int × Bool)
 | 0, _, _, _, _, _, _, _ => none
 | k + 1, x6, x7, x9, x10, x12, x14, x65 => if x65 = true then (some (0, false)) else (if x10 ≤ 0 then (size_quotient.j1 k (wrap64 (-x7)) (wrap64 (-x6)) (wrap64 (-x10)) (wrap64 (-x9)) x12 x14) else (size_quotient.j1 k x6 x7 x9 x10 x12 x14))
def size_quotient.j1 : Nat → Int → Int → Int → Int → Int → Int → Option (Int × Bool)
 | 0, _, _, _, _, _, _ => none
 | k + 1, x6, x7, x9, x10, x12, x14 => if x9 ≤ 0 then (some (0, false)) else (if x6 < 0 then (size_quotient.j2 k x6 x7 x10 x12 x14 x9 x9) else (size_quotient.j2 k x6 x7 x10 x12 x14 x10 x9))
def size_quotient.j2 : Nat → Int → Int → Int → Int → Int → Int → Int → Option (Int × Bool)
 | 0, _, _, _, _, _, _, _ => none
 | k + 1, x6, x7, x10, x12, x14, x16, x17 => if x7 < 0 then ((size_downward.f (wrap64 (x6 * x14)) (wrap64 (x16 * x12))).bind fun t526 => ((size_downward.f (wrap64 (x7 * x14)) (wrap64 (x10 * x12))).bind fun t527 => (some (t526, (t526 == t527))))) else ((size_downward.f (wrap64 (x6 * x14)) (wrap64 (x16 * x12))).bind fun t528 => ((size_downward.f (wrap64 (x7 * x14)) (wrap64 (x17 * x12))).bind fun t529 => (some (t528, (t528 == t529)))))
end
def size_quotient.f (k : Nat) (l0_0 : List Int) (l0_1 : List ByteArray) (a0_2 : ByteArray) (l1_0 : List Int) (l1_1 : List ByteArray) (a1_2 : ByteArray) : Option (Int × Bool) := (tNear.f l0_0 l0_1 a0_2 100000).bind fun bt516 => ((tNear.f l1_0 l1_1 a1_2 100000).bind fun bt519 => ((wSmall.f a0_2).bind fun bt522 => ((wSmall.f a1_2).bind fun bt524 => (if bt516.2.2 = true then (if bt519.2.2 = true then (if bt522.2 = true then (if bt524.2 = true then (if bt522.1 > 10000 then (size_quotient.j0 k bt516.1 bt516.2.1 bt519.1 bt519.2.1 bt522.1 bt524.1 true) else (size_quotient.j0 k bt516.1 bt516.2.1 bt519.1 bt519.2.1 bt522.1 bt524.1 (decide (bt524.1 > 10000)))) else (size_quotient.j0 k bt516.1 bt516.2.1 bt519.1 bt519.2.1 bt522.1 bt524.1 true)) else (size_quotient.j0 k bt516.1 bt516.2.1 bt519.1 bt519.2.1 bt522.1 bt524.1 true)) else (size_quotient.j0 k bt516.1 bt516.2.1 bt519.1 bt519.2.1 bt522.1 bt524.1 true)) else (size_quotient.j0 k bt516.1 bt516.2.1 bt519.1 bt519.2.1 bt522.1 bt524.1 true)))))
theorem size_quotient.calls (k : Nat) (A0_0 : Option Addr) (c0_0 : Nat) (l0_0 : List Int) (A0_1 : Option Addr) (c0_1 : Nat) (l0_1 : List ByteArray) (a0_2 : ByteArray) (A1_0 : Option Addr) (c1_0 : Nat) (l1_0 : List Int) (A1_1 : Option Addr) (c1_1 : Nat) (l1_1 : List ByteArray) (a1_2 : ByteArray) (r1 : Int) (r2 : Bool) (w : World) (hG : Glob w) (hr0_0 : Kd.C (Kd.int .i64) w A0_0 l0_0.length l0_0) (hc0_0 : l0_0.length ≤ c0_0) (hr0_1 : Kd.C Kd.string w A0_1 l0_1.length l0_1) (hc0_1 : l0_1.length ≤ c0_1) (hr1_0 : Kd.C (Kd.int .i64) w A1_0 l1_0.length l1_0) (hc1_0 : l1_0.length ≤ c1_0) (hr1_1 : Kd.C Kd.string w A1_1 l1_1.length l1_1) (hc1_1 : l1_1.length ≤ c1_1) (h : size_quotient.f k l0_0 l0_1 a0_2 l1_0 l1_1 a1_2 = some (r1, r2)) :
  Calls Tryz.prog 116 #[.agg #[.slice A0_0 l0_0.length c0_0, .slice A0_1 l0_1.length c0_1, .string a0_2], .agg #[.slice A1_0 l1_0.length c1_0, .slice A1_1 l1_1.length c1_1, .string a1_2]] w fun e w' => e = .returned (.tuple #[.int .i64 r1, .bool r2]) ∧ Below w.heap.size w w' := by
 have hu103 := Tryz.underlying103
 have HR0_0 := am hr0_0
 have HC0_0 := am hc0_0
 clear hr0_0 hc0_0
 have HR0_1 := am hr0_1
 have HC0_1 := am hc0_1
 clear hr0_1 hc0_1
 have HR1_0 := am hr1_0
 have HC1_0 := am hc1_0
 clear hr1_0 hc1_0
 have HR1_1 := am hr1_1
 have HC1_1 := am hc1_1
 clear hr1_1 hc1_1
 have HG0 := am hG
 clear hG
 have HB := am (Below.refl w.heap.size w)
 have H := h
 unfold size_quotient.f at H
 clear h
 obtain ⟨⟨t516, t517, t518⟩, A3, H⟩ := bo H
 try dsimp only at H
 obtain ⟨⟨t519, t520, t521⟩, A4, H⟩ := bo H
 try dsimp only at H
 obtain ⟨⟨t522, t523⟩, A5, H⟩ := bo H
 try dsimp only at H
 obtain ⟨⟨t524, t525⟩, A6, H⟩ := bo H
 try dsimp only at H
 have HC7 := am H
 clear H
 go_enter Tryz.func116, Tryz.ntmps116
 go_upto_region 5 with (first | ((with_reducible refine gd (N := 2) rfl ?_); refine boxM (N := 2) #[.slice A0_0 l0_0.length c0_0, .slice A0_1 l0_1.length c0_1, .string a0_2] 103 ?_; intro gb514 hg w8 hbox hb; have BK514 := am (hbox); have GW514 := gw hg HB; have GE514 := GW514; replace HB := bs HB hb; clear hb hbox hg) | ((with_reducible refine gd (N := 3) rfl ?_); refine boxM (N := 3) #[.slice A1_0 l1_0.length c1_0, .slice A1_1 l1_1.length c1_1, .string a1_2] 103 ?_; intro gb515 hg w9 hbox hb; have BK515 := am (hbox); have GW515 := gw hg HB; have GE515 := GW515; replace HB := bs HB hb; have NB514_515 := nl hg BK514; have NB515_514 := ng hg BK514; replace BK514 := kb BK514 hb; clear hb hbox hg; have hnb10 := NB514_515.out; have hnc10 := NB515_514.out; have hcz11_0 := bc BK514 0 (.slice A0_0 l0_0.length c0_0); have hcz11_1 := bc BK514 1 (.slice A0_1 l0_1.length c0_1); have hcz11_2 := bc BK514 2 (.string a0_2); have hfz11_0 := blk_frozen BK514.out 0; have hfz11_1 := blk_frozen BK514.out 1; have hfz11_2 := blk_frozen BK514.out 2) | ((with_reducible refine gc (f := 134) rfl ?_); refine goesM (some 22) Tryz.func134 #[.agg #[.slice A0_0 l0_0.length c0_0, .slice A0_1 l0_1.length c0_1, .string a0_2], .int .i64 100000] ?_; (with_reducible refine (tNear.calls _ _ l0_0 _ _ l0_1 a0_2 100000 t516 t517 t518 _ ?s1 ?s2 ?s3 ?s4 ?s5 A3.out).mono ?_); (case s1 => exact gb HG0 HB); (case s2 => exact cb HR0_0 HB); (case s3 => exact HC0_0.out); (case s4 => exact cb HR0_1 HB); (case s5 => exact HC0_1.out); rintro e w12 ⟨rfl, hb⟩; refine ⟨_, rfl, ?_⟩; replace BK514 := kb BK514 hb; replace BK515 := kb BK515 hb; replace HB := bs HB hb; (try clear hb); have hcz13_0 := bc BK515 0 (.slice A1_0 l1_0.length c1_0); have hcz13_1 := bc BK515 1 (.slice A1_1 l1_1.length c1_1); have hcz13_2 := bc BK515 2 (.string a1_2); have hfz13_0 := blk_frozen BK515.out 0; have hfz13_1 := blk_frozen BK515.out 1; have hfz13_2 := blk_frozen BK515.out 2) | ((with_reducible refine gc (f := 134) rfl ?_); refine goesM (some 28) Tryz.func134 #[.agg #[.slice A1_0 l1_0.length c1_0, .slice A1_1 l1_1.length c1_1, .string a1_2], .int .i64 100000] ?_; (with_reducible refine (tNear.calls _ _ l1_0 _ _ l1_1 a1_2 100000 t519 t520 t521 _ ?s1 ?s2 ?s3 ?s4 ?s5 A4.out).mono ?_); (case s1 => exact gb HG0 HB); (case s2 => exact cb HR1_0 HB); (case s3 => exact HC1_0.out); (case s4 => exact cb HR1_1 HB); (case s5 => exact HC1_1.out); rintro e w14 ⟨rfl, hb⟩; refine ⟨_, rfl, ?_⟩; replace BK514 := kb BK514 hb; replace BK515 := kb BK515 hb; replace HB := bs HB hb; (try clear hb); have hcz15_0 := bc BK514 0 (.slice A0_0 l0_0.length c0_0); have hcz15_1 := bc BK514 1 (.slice A0_1 l0_1.length c0_1); have hcz15_2 := bc BK514 2 (.string a0_2); have hfz15_0 := blk_frozen BK514.out 0; have hfz15_1 := blk_frozen BK514.out 1; have hfz15_2 := blk_frozen BK514.out 2) | ((with_reducible refine gc (f := 110) rfl ?_); refine goesM (some 35) Tryz.func110 #[.string a0_2] ?_; (with_reducible refine (wSmall.calls a0_2 t522 t523 _ ?s1 A5.out).mono ?_); (case s1 => exact gb HG0 HB); rintro e w16 ⟨rfl, hb⟩; refine ⟨_, rfl, ?_⟩; replace BK514 := kb BK514 hb; replace BK515 := kb BK515 hb; replace HB := bs HB hb; (try clear hb); have hcz17_0 := bc BK515 0 (.slice A1_0 l1_0.length c1_0); have hcz17_1 := bc BK515 1 (.slice A1_1 l1_1.length c1_1); have hcz17_2 := bc BK515 2 (.string a1_2); have hfz17_0 := blk_frozen BK515.out 0; have hfz17_1 := blk_frozen BK515.out 1; have hfz17_2 := blk_frozen BK515.out 2) | ((with_reducible refine gc (f := 110) rfl ?_); refine goesM (some 41) Tryz.func110 #[.string a1_2] ?_; (with_reducible refine (wSmall.calls a1_2 t524 t525 _ ?s1 A6.out).mono ?_); (case s1 => exact gb HG0 HB); rintro e w18 ⟨rfl, hb⟩; refine ⟨_, rfl, ?_⟩; replace BK514 := kb BK514 hb; replace BK515 := kb BK515 hb; replace HB := bs HB hb; (try clear hb)))
 (try simp only [Act.put, List.setIfInBounds_toArray, List.set_cons_zero, List.set_cons_succ])
 go_cut [65] (fun v65 wc => ∃ (kq : Nat) (x65_6 : Bool), v65 = .bool x65_6 ∧ Aside0 (size_quotient.j0 kq t516 t517 t519 t520 t522 t524 x65_6 = some (r1, r2)) ∧ Aside0 (kq ≤ k) ∧ Aside0 (wc.heap[gb514]? = some (.cells #[(.slice A0_0 l0_0.length c0_0), (.slice A0_1 l0_1.length c0_1), .string a0_2] 103 (0, 0))) ∧ Aside0 (wc.heap[gb515]? = some (.cells #[(.slice A1_0 l1_0.length c1_0), (.slice A1_1 l1_1.length c1_1), .string a1_2] 103 (0, 0))) ∧ Aside0 (Below w.heap.size w wc))
 case first =>
  have H := HC7.out
  clear HC7
  by_cases c19 : t518 = true
  ·subst c19
   rw [if_pos rfl] at H
   by_cases c20 : t521 = true
   ·subst c20
    rw [if_pos rfl] at H
    by_cases c21 : t523 = true
    ·subst c21
     rw [if_pos rfl] at H
     by_cases c22 : t525 = true
     ·subst c22
      rw [if_pos rfl] at H
      by_cases c23 : t522 > 10000
      ·rw [if_pos c23] at H
       have c23b0 : decide (10000 < t522) = true := decide_eq_true c23
       clear c23
       (first | rw [c23b0] | (simp only [i64_w, i32_w]; rw [c23b0]) | skip)
       have H' := am H
       clear H
       go_wp2
       go_meet
       case rel => exact ⟨_, (true), rs, H', ⟨by first | omega | exact Nat.le_refl _⟩, ⟨bk BK514⟩, ⟨bk BK515⟩, ⟨bl HB⟩⟩
      ·rw [if_neg c23] at H
       have c23b0 : decide (10000 < t522) = false := decide_eq_false c23
       clear c23
       (first | rw [c23b0] | (simp only [i64_w, i32_w]; rw [c23b0]) | skip)
       have H' := am H
       clear H
       go_wp2
       go_meet
       case rel => exact ⟨_, (decide (t524 > 10000)), rs, H', ⟨by first | omega | exact Nat.le_refl _⟩, ⟨bk BK514⟩, ⟨bk BK515⟩, ⟨bl HB⟩⟩
     ·replace c22 := Bool.eq_false_iff.mpr c22
      subst c22
      rw [if_neg (show ¬ (false = true) by decide)] at H
      have H' := am H
      clear H
      go_wp2
      go_meet
      case rel => exact ⟨_, (true), rs, H', ⟨by first | omega | exact Nat.le_refl _⟩, ⟨bk BK514⟩, ⟨bk BK515⟩, ⟨bl HB⟩⟩
    ·replace c21 := Bool.eq_false_iff.mpr c21
     subst c21
     rw [if_neg (show ¬ (false = true) by decide)] at H
     have H' := am H
     clear H
     go_wp2
     go_meet
     case rel => exact ⟨_, (true), rs, H', ⟨by first | omega | exact Nat.le_refl _⟩, ⟨bk BK514⟩, ⟨bk BK515⟩, ⟨bl HB⟩⟩
   ·replace c20 := Bool.eq_false_iff.mpr c20
    subst c20
    rw [if_neg (show ¬ (false = true) by decide)] at H
    have H' := am H
    clear H
    go_wp2
    go_meet
    case rel => exact ⟨_, (true), rs, H', ⟨by first | omega | exact Nat.le_refl _⟩, ⟨bk BK514⟩, ⟨bk BK515⟩, ⟨bl HB⟩⟩
  ·replace c19 := Bool.eq_false_iff.mpr c19
   subst c19
   rw [if_neg (show ¬ (false = true) by decide)] at H
   have H' := am H
   clear H
   go_wp2
   go_meet
   case rel => exact ⟨_, (true), rs, H', ⟨by first | omega | exact Nat.le_refl _⟩, ⟨bk BK514⟩, ⟨bk BK515⟩, ⟨bl HB⟩⟩
 case rest =>
  clear HC7
  try clear c1
  try clear c2
  try clear p2
  try clear c10
  try clear c11
  try clear c13
  try clear c19
  try clear c20
  try clear c21
  try clear c22
  try clear c23
  try clear c23b0
  try clear hcz11_0
  try clear hcz11_1
  try clear hcz11_2
  try clear hcz13_0
  try clear hcz13_1
  try clear hcz13_2
  try clear hcz15_0
  try clear hcz15_1
  try clear hcz15_2
  try clear hcz17_0
  try clear hcz17_1
  try clear hcz17_2
  try clear hfz11_0
  try clear hfz11_1
  try clear hfz11_2
  try clear hfz13_0
  try clear hfz13_1
  try clear hfz13_2
  try clear hfz15_0
  try clear hfz15_1
  try clear hfz15_2
  try clear hfz17_0
  try clear hfz17_1
  try clear hfz17_2
  obtain ⟨kq, x65_6, rfl, HA, HJ6, BK514, BK515, HB⟩ := hcut
  cases kq with
  | zero => exact absurd HA.out (by simp [size_quotient.j0])
  | succ kj6 =>
   have H := HA.out
   clear HA
   simp only [size_quotient.j0] at H
   by_cases c24 : x65_6 = true
   ·subst c24
    rw [if_pos rfl] at H
    simp only [Option.some.injEq, Prod.mk.injEq] at H
    obtain ⟨rfl, rfl⟩ := H
    go_wp2
    go_ret2
    exact ⟨rl, bl HB⟩
   ·replace c24 := Bool.eq_false_iff.mpr c24
    subst c24
    rw [if_neg (show ¬ (false = true) by decide)] at H
    have HC25 := am H
    clear H
    go_upto_if 67 with (fail)
    go_cut [6, 7, 9, 10] (fun v6 v7 v9 v10 wc => ∃ (kq : Nat) (x6_24 : Int) (x7_24 : Int) (x9_24 : Int) (x10_24 : Int), v6 = .int .i64 x6_24 ∧ v7 = .int .i64 x7_24 ∧ v9 = .int .i64 x9_24 ∧ v10 = .int .i64 x10_24 ∧ Aside0 (size_quotient.j1 kq x6_24 x7_24 x9_24 x10_24 t522 t524 = some (r1, r2)) ∧ Aside0 (kq ≤ kj6) ∧ Aside0 (wc.heap[gb514]? = some (.cells #[(.slice A0_0 l0_0.length c0_0), (.slice A0_1 l0_1.length c0_1), .string a0_2] 103 (0, 0))) ∧ Aside0 (wc.heap[gb515]? = some (.cells #[(.slice A1_0 l1_0.length c1_0), (.slice A1_1 l1_1.length c1_1), .string a1_2] 103 (0, 0))) ∧ Aside0 (Below w.heap.size w wc))
    case first =>
     have H := HC25.out
     clear HC25
     by_cases c26 : t520 ≤ 0
     ·rw [if_pos c26] at H
      have c26b0 := decide_eq_true c26
      clear c26
      (first | rw [c26b0] | (simp only [i64_w, i32_w]; rw [c26b0]) | skip)
      have H' := am H
      clear H
      go_wp2
      go_meet
      case rel => exact ⟨_, (wrap64 (-t517)), (wrap64 (-t516)), (wrap64 (-t520)), (wrap64 (-t519)), rs, rs, rs, rs, H', ⟨by have := HJ6.out; first | omega | exact Nat.le_refl _⟩, ⟨bk BK514⟩, ⟨bk BK515⟩, ⟨bl HB⟩⟩
     ·rw [if_neg c26] at H
      have c26b0 := decide_eq_false c26
      clear c26
      (first | rw [c26b0] | (simp only [i64_w, i32_w]; rw [c26b0]) | skip)
      have H' := am H
      clear H
      go_wp2
      go_meet
      case rel => exact ⟨_, (t516), (t517), (t519), (t520), rs, rs, rs, rs, H', ⟨by have := HJ6.out; first | omega | exact Nat.le_refl _⟩, ⟨bk BK514⟩, ⟨bk BK515⟩, ⟨bl HB⟩⟩
    case rest =>
     clear HC25
     try clear c1
     try clear c2
     try clear p2
     try clear p6
     try clear c10
     try clear c11
     try clear c13
     try clear c19
     try clear c20
     try clear c21
     try clear c22
     try clear c23
     try clear c23b0
     try clear c24
     try clear c26
     try clear c26b0
     try clear hcz11_0
     try clear hcz11_1
     try clear hcz11_2
     try clear hcz13_0
     try clear hcz13_1
     try clear hcz13_2
     try clear hcz15_0
     try clear hcz15_1
     try clear hcz15_2
     try clear hcz17_0
     try clear hcz17_1
     try clear hcz17_2
     try clear hfz11_0
     try clear hfz11_1
     try clear hfz11_2
     try clear hfz13_0
     try clear hfz13_1
     try clear hfz13_2
     try clear hfz15_0
     try clear hfz15_1
     try clear hfz15_2
     try clear hfz17_0
     try clear hfz17_1
     try clear hfz17_2
     try clear p2
     obtain ⟨kq, x6_24, x7_24, x9_24, x10_24, rfl, rfl, rfl, rfl, HA, HJ24, BK514, BK515, HB⟩ := hcut
     cases kq with
     | zero => exact absurd HA.out (by simp [size_quotient.j1])
     | succ kj24 =>
      have H := HA.out
      clear HA
      simp only [size_quotient.j1] at H
      by_cases c27 : x9_24 ≤ 0
      ·rw [if_pos c27] at H
       have c27b0 := decide_eq_true c27
       clear c27
       simp only [Option.some.injEq, Prod.mk.injEq] at H
       obtain ⟨rfl, rfl⟩ := H
       go_wp2
       go_ret2
       exact ⟨rl, bl HB⟩
      ·rw [if_neg c27] at H
       have c27b0 := decide_eq_false c27
       clear c27
       have HC28 := am H
       clear H
       go_upto_if 81 with (fail)
       go_cut [16] (fun v16 wc => ∃ (kq : Nat) (x16_27 : Int), v16 = .int .i64 x16_27 ∧ Aside0 (size_quotient.j2 kq x6_24 x7_24 x10_24 t522 t524 x16_27 x9_24 = some (r1, r2)) ∧ Aside0 (kq ≤ kj24) ∧ Aside0 (wc.heap[gb514]? = some (.cells #[(.slice A0_0 l0_0.length c0_0), (.slice A0_1 l0_1.length c0_1), .string a0_2] 103 (0, 0))) ∧ Aside0 (wc.heap[gb515]? = some (.cells #[(.slice A1_0 l1_0.length c1_0), (.slice A1_1 l1_1.length c1_1), .string a1_2] 103 (0, 0))) ∧ Aside0 (Below w.heap.size w wc))
       case first =>
        have H := HC28.out
        clear HC28
        by_cases c29 : x6_24 < 0
        ·rw [if_pos c29] at H
         have c29b0 := decide_eq_true c29
         clear c29
         (first | rw [c29b0] | (simp only [i64_w, i32_w]; rw [c29b0]) | skip)
         have H' := am H
         clear H
         go_wp2
         go_meet
         case rel => exact ⟨_, (x9_24), rs, H', ⟨by have := HJ6.out; have := HJ24.out; first | omega | exact Nat.le_refl _⟩, ⟨bk BK514⟩, ⟨bk BK515⟩, ⟨bl HB⟩⟩
        ·rw [if_neg c29] at H
         have c29b0 := decide_eq_false c29
         clear c29
         (first | rw [c29b0] | (simp only [i64_w, i32_w]; rw [c29b0]) | skip)
         have H' := am H
         clear H
         go_wp2
         go_meet
         case rel => exact ⟨_, (x10_24), rs, H', ⟨by have := HJ6.out; have := HJ24.out; first | omega | exact Nat.le_refl _⟩, ⟨bk BK514⟩, ⟨bk BK515⟩, ⟨bl HB⟩⟩
       case rest =>
        clear HC28
        try clear c1
        try clear c2
        try clear p2
        try clear p6
        try clear c10
        try clear c11
        try clear c13
        try clear c19
        try clear c20
        try clear c21
        try clear c22
        try clear c23
        try clear c23b0
        try clear c24
        try clear c26
        try clear c26b0
        try clear c27
        try clear c27b0
        try clear c29
        try clear c29b0
        try clear hcz11_0
        try clear hcz11_1
        try clear hcz11_2
        try clear hcz13_0
        try clear hcz13_1
        try clear hcz13_2
        try clear hcz15_0
        try clear hcz15_1
        try clear hcz15_2
        try clear hcz17_0
        try clear hcz17_1
        try clear hcz17_2
        try clear hfz11_0
        try clear hfz11_1
        try clear hfz11_2
        try clear hfz13_0
        try clear hfz13_1
        try clear hfz13_2
        try clear hfz15_0
        try clear hfz15_1
        try clear hfz15_2
        try clear hfz17_0
        try clear hfz17_1
        try clear hfz17_2
        try clear p2
        try clear p6
        obtain ⟨kq, x16_27, rfl, HA, HJ27, BK514, BK515, HB⟩ := hcut
        cases kq with
        | zero => exact absurd HA.out (by simp [size_quotient.j2])
        | succ kj27 =>
         have H := HA.out
         clear HA
         simp only [size_quotient.j2] at H
         by_cases c30 : x7_24 < 0
         ·rw [if_pos c30] at H
          have c30b0 := decide_eq_true c30
          clear c30
          obtain ⟨t526, A31, H⟩ := bo H
          try dsimp only at H
          obtain ⟨t527, A32, H⟩ := bo H
          try dsimp only at H
          simp only [Option.some.injEq, Prod.mk.injEq] at H
          obtain ⟨rfl, rfl⟩ := H
          go_wp2_with (first | ((with_reducible refine gc (f := 140) rfl ?_); refine goesM (some 92) Tryz.func140 #[.int .i64 (wrap64 (x6_24 * t524)), .int .i64 (wrap64 (x16_27 * t522))] ?_; (with_reducible refine (size_downward.calls (wrap64 (x6_24 * t524)) (wrap64 (x16_27 * t522)) t526 _ A31.out).mono ?_); rintro e w' ⟨rfl, ⟨nd, rfl⟩⟩; refine ⟨_, rfl, ?_⟩) | ((with_reducible refine gc (f := 140) rfl ?_); refine goesM (some 99) Tryz.func140 #[.int .i64 (wrap64 (x7_24 * t524)), .int .i64 (wrap64 (x10_24 * t522))] ?_; (with_reducible refine (size_downward.calls (wrap64 (x7_24 * t524)) (wrap64 (x10_24 * t522)) t527 _ A32.out).mono ?_); rintro e w' ⟨rfl, ⟨nd, rfl⟩⟩; refine ⟨_, rfl, ?_⟩))
          go_ret2
          exact ⟨rl, bl HB⟩
         ·rw [if_neg c30] at H
          have c30b0 := decide_eq_false c30
          clear c30
          obtain ⟨t528, A33, H⟩ := bo H
          try dsimp only at H
          obtain ⟨t529, A34, H⟩ := bo H
          try dsimp only at H
          simp only [Option.some.injEq, Prod.mk.injEq] at H
          obtain ⟨rfl, rfl⟩ := H
          go_wp2_with (first | ((with_reducible refine gc (f := 140) rfl ?_); refine goesM (some 92) Tryz.func140 #[.int .i64 (wrap64 (x6_24 * t524)), .int .i64 (wrap64 (x16_27 * t522))] ?_; (with_reducible refine (size_downward.calls (wrap64 (x6_24 * t524)) (wrap64 (x16_27 * t522)) t528 _ A33.out).mono ?_); rintro e w' ⟨rfl, ⟨nd, rfl⟩⟩; refine ⟨_, rfl, ?_⟩) | ((with_reducible refine gc (f := 140) rfl ?_); refine goesM (some 99) Tryz.func140 #[.int .i64 (wrap64 (x7_24 * t524)), .int .i64 (wrap64 (x9_24 * t522))] ?_; (with_reducible refine (size_downward.calls (wrap64 (x7_24 * t524)) (wrap64 (x9_24 * t522)) t529 _ A34.out).mono ?_); rintro e w' ⟨rfl, ⟨nd, rfl⟩⟩; refine ⟨_, rfl, ?_⟩))
          go_ret2
          exact ⟨rl, bl HB⟩
def size_floor.l0 : Nat → Option (ByteArray)
 | 0 => none
 | k + 1 => none
def size_floor.f (k : Nat) (l0 : List Int) (l1 : List (S30)) (l2 : List (S30)) : Option (ByteArray) := (size_ratio.f k l1 l2).bind fun bt530 => (if bt530.2.2 = true then ((fraction_Floor.f k bt530.1 bt530.2.1).bind fun t534 => (some t534)) else ((size_termsOf.f k l0 l1).bind fun bt535 => ((size_termsOf.f k l0 l2).bind fun bt542 => ((size_quotient.f k bt535.1 bt535.2.1 bt535.2.2 bt542.1 bt542.2.1 bt542.2.2).bind fun bt551 => (if bt551.2 = true then ((whole_Of.f bt551.1).bind fun t553 => (some t553)) else (size_floor.l0 k))))))
theorem size_floor.calls (k : Nat) (A0 : Option Addr) (c0 : Nat) (l0 : List Int) (A1 : Option Addr) (c1 : Nat) (l1 : List (S30)) (A2 : Option Addr) (c2 : Nat) (l2 : List (S30)) (r : ByteArray) (w : World) (hG : Glob w) (hr0 : Kd.C (Kd.int .i64) w A0 l0.length l0) (hc0 : l0.length ≤ c0) (hr1 : Kd.C k30 w A1 l1.length l1) (hc1 : l1.length ≤ c1) (hr2 : Kd.C k30 w A2 l2.length l2) (hc2 : l2.length ≤ c2) (h : size_floor.f k l0 l1 l2 = some r) :
  Calls Tryz.prog 75 #[.slice A0 l0.length c0, .slice A1 l1.length c1, .slice A2 l2.length c2] w fun e w' => e = .returned (.string r) ∧ Below w.heap.size w w' := by
 have hu30 := Tryz.underlying30
 have hu103 := Tryz.underlying103
 have HR0 := am hr0
 have HC0 := am hc0
 clear hr0 hc0
 have HR1 := am hr1
 have HC1 := am hc1
 clear hr1 hc1
 have HR2 := am hr2
 have HC2 := am hc2
 clear hr2 hc2
 have HG0 := am hG
 clear hG
 have HB := am (Below.refl w.heap.size w)
 have H := h
 unfold size_floor.f at H
 clear h
 obtain ⟨⟨t530, t531, t532⟩, A4, H⟩ := bo H
 try dsimp only at H
 by_cases c5 : t532 = true
 ·subst c5
  rw [if_pos rfl] at H
  obtain ⟨t534, A6, H⟩ := bo H
  try dsimp only at H
  obtain rfl := Option.some.inj H
  go_enter Tryz.func75, Tryz.ntmps75
  go_wp2_with (first | ((with_reducible refine gc (f := 114) rfl ?_); refine goesM (some 29) Tryz.func114 #[.slice A1 l1.length c1, .slice A2 l2.length c2] ?_; (with_reducible refine (size_ratio.calls k _ _ l1 _ _ l2 t530 t531 true _ ?s1 ?s2 ?s3 ?s4 ?s5 A4.out).mono ?_); (case s1 => exact gb HG0 HB); (case s2 => exact cr HR1); (case s3 => exact HC1.out); (case s4 => exact cr HR2); (case s5 => exact HC2.out); rintro e w7 ⟨rfl, hb⟩; refine ⟨_, rfl, ?_⟩; replace HB := bs HB hb; (try clear hb)) | ((with_reducible refine gd (N := 7) rfl ?_); refine boxM (N := 7) #[.string (⟨#[]⟩ : ByteArray), .string (⟨#[]⟩ : ByteArray)] 30 ?_; intro gb533 hg w8 hbox hb; have BK533 := am (hbox); have GW533 := gw hg HB; have GE533 := GW533; replace HB := bs HB hb; clear hb hbox hg; have hcz9_0 := bc BK533 0 (.string (⟨#[]⟩ : ByteArray)); have hcz9_1 := bc BK533 1 (.string (⟨#[]⟩ : ByteArray)); have hfz9_0 := blk_frozen BK533.out 0; have hfz9_1 := blk_frozen BK533.out 1) | ((with_reducible refine gc (f := 115) rfl ?_); refine goesM (some 34) Tryz.func115 #[.agg #[.string t530, .string t531]] ?_; (with_reducible refine (fraction_Floor.calls k t530 t531 t534 _ ?s1 A6.out).mono ?_); (case s1 => exact gb HG0 HB); rintro e w10 ⟨rfl, hb⟩; refine ⟨_, rfl, ?_⟩; replace BK533 := am (blk_below (g := gb533) (o := .cells #[.string t530, .string t531] 30 (0, 0)) (by (with_reducible repeat (first | refine blk_drewN ?_ _ | refine blk_drew ?_ | refine blk_alloc ?_ _)); refine blk_put (cs := #[.string t530, .string (⟨#[]⟩ : ByteArray)]) ?_ 1 _ rfl; (with_reducible repeat (first | refine blk_drewN ?_ _ | refine blk_drew ?_ | refine blk_alloc ?_ _)); refine blk_put (cs := #[.string (⟨#[]⟩ : ByteArray), .string (⟨#[]⟩ : ByteArray)]) ?_ 0 _ rfl; (with_reducible repeat (first | refine blk_drewN ?_ _ | refine blk_drew ?_ | refine blk_alloc ?_ _)); exact BK533.out) hb); replace HB := bs HB hb; (try clear hb)))
  go_ret
  exact ⟨rl, bl HB⟩
 ·replace c5 := Bool.eq_false_iff.mpr c5
  subst c5
  rw [if_neg (show ¬ (false = true) by decide)] at H
  obtain ⟨⟨t535, t538, t541⟩, A11, H⟩ := bo H
  try dsimp only at H
  obtain ⟨⟨t542, t545, t548⟩, A12, H⟩ := bo H
  try dsimp only at H
  obtain ⟨⟨t551, t552⟩, A13, H⟩ := bo H
  try dsimp only at H
  by_cases c14 : t552 = true
  ·subst c14
   rw [if_pos rfl] at H
   obtain ⟨t553, A15, H⟩ := bo H
   try dsimp only at H
   obtain rfl := Option.some.inj H
   go_enter Tryz.func75, Tryz.ntmps75
   go_wp2_with (first | ((with_reducible refine gc (f := 114) rfl ?_); refine goesM (some 29) Tryz.func114 #[.slice A1 l1.length c1, .slice A2 l2.length c2] ?_; (with_reducible refine (size_ratio.calls k _ _ l1 _ _ l2 t530 t531 false _ ?s1 ?s2 ?s3 ?s4 ?s5 A4.out).mono ?_); (case s1 => exact gb HG0 HB); (case s2 => exact cr HR1); (case s3 => exact HC1.out); (case s4 => exact cr HR2); (case s5 => exact HC2.out); rintro e w16 ⟨rfl, hb⟩; refine ⟨_, rfl, ?_⟩; replace HB := bs HB hb; (try clear hb)) | ((with_reducible refine gd (N := 7) rfl ?_); refine boxM (N := 7) #[.string (⟨#[]⟩ : ByteArray), .string (⟨#[]⟩ : ByteArray)] 30 ?_; intro gb533 hg w17 hbox hb; have BK533 := am (hbox); have GW533 := gw hg HB; have GE533 := GW533; replace HB := bs HB hb; clear hb hbox hg; have hcz18_0 := bc BK533 0 (.string (⟨#[]⟩ : ByteArray)); have hcz18_1 := bc BK533 1 (.string (⟨#[]⟩ : ByteArray)); have hfz18_0 := blk_frozen BK533.out 0; have hfz18_1 := blk_frozen BK533.out 1) | ((with_reducible refine gc (f := 66) rfl ?_); refine goesM (some 37) Tryz.func66 #[.slice A0 l0.length c0, .slice A1 l1.length c1] ?_; (with_reducible refine (size_termsOf.calls k _ _ l0 _ _ l1 t535 t538 t541 _ ?s1 ?s2 ?s3 ?s4 ?s5 A11.out).mono ?_); (case s1 => exact gb HG0 HB); (case s2 => exact Kd.C_below HR0.out (bl HB)); (case s3 => exact HC0.out); (case s4 => exact Kd.C_below HR1.out (bl HB)); (case s5 => exact HC1.out); rintro e w19 ⟨v536, v539, rfl, ho0, ho1, hb⟩; refine ⟨_, rfl, ?_⟩; have HO537 := am (Kd.R_lower ho0 (below_size (bl HB))); have HO540 := am (Kd.R_lower ho1 (below_size (bl HB))); replace BK533 := am (blk_below (g := gb533) (o := .cells #[.string t530, .string t531] 30 (0, 0)) (by (with_reducible repeat (first | refine blk_drewN ?_ _ | refine blk_drew ?_ | refine blk_alloc ?_ _)); refine blk_put (cs := #[.string t530, .string (⟨#[]⟩ : ByteArray)]) ?_ 1 _ rfl; (with_reducible repeat (first | refine blk_drewN ?_ _ | refine blk_drew ?_ | refine blk_alloc ?_ _)); refine blk_put (cs := #[.string (⟨#[]⟩ : ByteArray), .string (⟨#[]⟩ : ByteArray)]) ?_ 0 _ rfl; (with_reducible repeat (first | refine blk_drewN ?_ _ | refine blk_drew ?_ | refine blk_alloc ?_ _)); exact BK533.out) hb); replace HB := bs HB hb; (try clear hb); (try clear ho0); (try clear ho1)) | ((with_reducible refine gc (f := 66) rfl ?_); refine goesM (some 40) Tryz.func66 #[.slice A0 l0.length c0, .slice A2 l2.length c2] ?_; (with_reducible refine (size_termsOf.calls k _ _ l0 _ _ l2 t542 t545 t548 _ ?s1 ?s2 ?s3 ?s4 ?s5 A12.out).mono ?_); (case s1 => exact gb HG0 HB); (case s2 => exact cb HR0 HB); (case s3 => exact HC0.out); (case s4 => exact cb HR2 HB); (case s5 => exact HC2.out); rintro e w20 ⟨v543, v546, rfl, ho0, ho1, hb⟩; refine ⟨_, rfl, ?_⟩; have HO544 := am (Kd.R_lower (Kd.R_new' ho0 (Kd.R_lt (kr HO537))) (below_size (bl HB))); replace HO537 := am (Kd.R_elder' (kr HO537) (Kd.R_base ho0) hb); have HO547 := am (Kd.R_lower (Kd.R_new' ho1 (Kd.R_lt (kr HO540))) (below_size (bl HB))); replace HO540 := am (Kd.R_elder' (kr HO540) (Kd.R_base ho1) hb); replace BK533 := kb BK533 hb; replace HB := bs HB hb; (try clear hb); (try clear ho0); (try clear ho1)) | ((with_reducible refine gd (N := 9) rfl ?_); refine boxM (N := 9) #[.slice none 0 0, .slice none 0 0, .string (⟨#[]⟩ : ByteArray)] 103 ?_; intro gb549 hg w21 hbox hb; replace HO537 := rb HO537 hb; replace HO540 := rb HO540 hb; replace HO544 := rb HO544 hb; replace HO547 := rb HO547 hb; have BK549 := am (hbox); have GW549 := gw hg HB; have GE549 := GW549; replace HB := bs HB hb; have NB533_549 := nl hg BK533; have NB549_533 := ng hg BK533; replace BK533 := kb BK533 hb; clear hb hbox hg) | ((with_reducible refine gd (N := 10) rfl ?_); refine boxM (N := 10) #[.slice none 0 0, .slice none 0 0, .string (⟨#[]⟩ : ByteArray)] 103 ?_; intro gb550 hg w22 hbox hb; replace HO537 := rb HO537 hb; replace HO540 := rb HO540 hb; replace HO544 := rb HO544 hb; replace HO547 := rb HO547 hb; have BK550 := am (hbox); have GW550 := gw hg HB; have GE550 := GW550; replace HB := bs HB hb; have NB533_550 := nl hg BK533; have NB550_533 := ng hg BK533; replace BK533 := kb BK533 hb; have NB549_550 := nl hg BK549; have NB550_549 := ng hg BK549; replace BK549 := kb BK549 hb; clear hb hbox hg; obtain ⟨Ao23, co23, eo23⟩ := Kd.R_slice HO537.out; subst eo23; have hnb24 := NB549_533.out; have hnc24 := NB533_549.out; have hnb25 := NB549_550.out; have hnc25 := NB550_549.out; have hcz26_0 := bc BK549 0 (.slice none 0 0); have hcz26_1 := bc BK549 1 (.slice none 0 0); have hcz26_2 := bc BK549 2 (.string (⟨#[]⟩ : ByteArray)); have hfz26_0 := blk_frozen BK549.out 0; have hfz26_1 := blk_frozen BK549.out 1; have hfz26_2 := blk_frozen BK549.out 2; obtain ⟨Ao27, co27, eo27⟩ := Kd.R_slice HO540.out; subst eo27; obtain ⟨Ao28, co28, eo28⟩ := Kd.R_slice HO544.out; subst eo28; have hnb29 := NB550_533.out; have hnc29 := NB533_550.out; have hcz30_0 := bc BK550 0 (.slice none 0 0); have hcz30_1 := bc BK550 1 (.slice none 0 0); have hcz30_2 := bc BK550 2 (.string (⟨#[]⟩ : ByteArray)); have hfz30_0 := blk_frozen BK550.out 0; have hfz30_1 := blk_frozen BK550.out 1; have hfz30_2 := blk_frozen BK550.out 2; obtain ⟨Ao31, co31, eo31⟩ := Kd.R_slice HO547.out; subst eo31) | ((with_reducible refine gc (f := 116) rfl ?_); refine goesM (some 44) Tryz.func116 #[.agg #[.slice Ao23 t535.length co23, .slice Ao27 t538.length co27, .string t541], .agg #[.slice Ao28 t542.length co28, .slice Ao31 t545.length co31, .string t548]] ?_; (with_reducible refine (size_quotient.calls k _ _ t535 _ _ t538 t541 _ _ t542 _ _ t545 t548 t551 true _ ?s1 ?s2 ?s3 ?s4 ?s5 ?s6 ?s7 ?s8 ?s9 A13.out).mono ?_); (case s1 => exact gb HG0 HB); (case s2 => refine (Kd.R_reads' (e := 3) (base := w.heap.size) (ok := fun k_ => (True ∧ some k_ ≠ (.slice Ao28 t542.length co28 : Value).ownBlock)) (n := t535.length) (c := co23) ?_).2.2; exact (by (with_reducible repeat (first | apply Kd.R_alloc | apply Kd.R_drewN | apply Kd.R_drew)); exact (Kd.R_mono (Kd.R_mono (Kd.R_far (p := ⟨gb550, 2, none⟩) (Kd.R_far (p := ⟨gb550, 1, none⟩) (Kd.R_far (p := ⟨gb550, 0, none⟩) (Kd.R_far (p := ⟨gb549, 2, none⟩) (Kd.R_far (p := ⟨gb549, 1, none⟩) (Kd.R_far (p := ⟨gb549, 0, none⟩) (Kd.R_types (Kd.R_types HO537.out BK549.out (by decide)) BK550.out (by decide)) (fun _ hk => hk.1.2) (.slice Ao23 t535.length co23)) (fun _ hk => hk.1.2) (.slice Ao27 t538.length co27)) (fun _ hk => hk.1.2) (.string t541)) (fun _ hk => hk.2) (.slice Ao28 t542.length co28)) (fun _ hk => hk.2) (.slice Ao31 t545.length co31)) (fun _ hk => hk.2) (.string t548)) (fun _ h_ => h_.1)) (fun _ h_ => h_.1)))); (case s3 => exact (Kd.R_reads' HO537.out).2.1); (case s4 => refine (Kd.R_reads' (e := 28) (base := w.heap.size) (ok := fun k_ => (True ∧ some k_ ≠ (.slice Ao31 t545.length co31 : Value).ownBlock)) (n := t538.length) (c := co27) ?_).2.2; exact (by (with_reducible repeat (first | apply Kd.R_alloc | apply Kd.R_drewN | apply Kd.R_drew)); exact (Kd.R_mono (Kd.R_mono (Kd.R_far (p := ⟨gb550, 2, none⟩) (Kd.R_far (p := ⟨gb550, 1, none⟩) (Kd.R_far (p := ⟨gb550, 0, none⟩) (Kd.R_far (p := ⟨gb549, 2, none⟩) (Kd.R_far (p := ⟨gb549, 1, none⟩) (Kd.R_far (p := ⟨gb549, 0, none⟩) (Kd.R_types (Kd.R_types HO540.out BK549.out (by decide)) BK550.out (by decide)) (fun _ hk => hk.1.2) (.slice Ao23 t535.length co23)) (fun _ hk => hk.1.2) (.slice Ao27 t538.length co27)) (fun _ hk => hk.1.2) (.string t541)) (fun _ hk => hk.2) (.slice Ao28 t542.length co28)) (fun _ hk => hk.2) (.slice Ao31 t545.length co31)) (fun _ hk => hk.2) (.string t548)) (fun _ h_ => h_.1)) (fun _ h_ => h_.1)))); (case s5 => exact (Kd.R_reads' HO540.out).2.1); (case s6 => refine (Kd.R_reads' (e := 3) (base := w.heap.size) (ok := fun k_ => (True ∧ some k_ ≠ (.slice Ao23 t535.length co23 : Value).ownBlock)) (n := t542.length) (c := co28) ?_).2.2; exact (by (with_reducible repeat (first | apply Kd.R_alloc | apply Kd.R_drewN | apply Kd.R_drew)); exact (Kd.R_mono (Kd.R_mono (Kd.R_far (p := ⟨gb550, 2, none⟩) (Kd.R_far (p := ⟨gb550, 1, none⟩) (Kd.R_far (p := ⟨gb550, 0, none⟩) (Kd.R_far (p := ⟨gb549, 2, none⟩) (Kd.R_far (p := ⟨gb549, 1, none⟩) (Kd.R_far (p := ⟨gb549, 0, none⟩) (Kd.R_types (Kd.R_types HO544.out BK549.out (by decide)) BK550.out (by decide)) (fun _ hk => hk.1.2) (.slice Ao23 t535.length co23)) (fun _ hk => hk.1.2) (.slice Ao27 t538.length co27)) (fun _ hk => hk.1.2) (.string t541)) (fun _ hk => hk.2) (.slice Ao28 t542.length co28)) (fun _ hk => hk.2) (.slice Ao31 t545.length co31)) (fun _ hk => hk.2) (.string t548)) (fun _ h_ => h_.1)) (fun _ h_ => h_.1)))); (case s7 => exact (Kd.R_reads' HO544.out).2.1); (case s8 => refine (Kd.R_reads' (e := 28) (base := w.heap.size) (ok := fun k_ => (True ∧ some k_ ≠ (.slice Ao27 t538.length co27 : Value).ownBlock)) (n := t545.length) (c := co31) ?_).2.2; exact (by (with_reducible repeat (first | apply Kd.R_alloc | apply Kd.R_drewN | apply Kd.R_drew)); exact (Kd.R_mono (Kd.R_mono (Kd.R_far (p := ⟨gb550, 2, none⟩) (Kd.R_far (p := ⟨gb550, 1, none⟩) (Kd.R_far (p := ⟨gb550, 0, none⟩) (Kd.R_far (p := ⟨gb549, 2, none⟩) (Kd.R_far (p := ⟨gb549, 1, none⟩) (Kd.R_far (p := ⟨gb549, 0, none⟩) (Kd.R_types (Kd.R_types HO547.out BK549.out (by decide)) BK550.out (by decide)) (fun _ hk => hk.1.2) (.slice Ao23 t535.length co23)) (fun _ hk => hk.1.2) (.slice Ao27 t538.length co27)) (fun _ hk => hk.1.2) (.string t541)) (fun _ hk => hk.2) (.slice Ao28 t542.length co28)) (fun _ hk => hk.2) (.slice Ao31 t545.length co31)) (fun _ hk => hk.2) (.string t548)) (fun _ h_ => h_.1)) (fun _ h_ => h_.1)))); (case s9 => exact (Kd.R_reads' HO547.out).2.1); rintro e w32 ⟨rfl, hb⟩; refine ⟨_, rfl, ?_⟩; replace HO537 := am (Kd.R_below (by (with_reducible repeat (first | apply Kd.R_alloc | apply Kd.R_drewN | apply Kd.R_drew)); exact (Kd.R_mono (Kd.R_mono (Kd.R_far (p := ⟨gb550, 2, none⟩) (Kd.R_far (p := ⟨gb550, 1, none⟩) (Kd.R_far (p := ⟨gb550, 0, none⟩) (Kd.R_far (p := ⟨gb549, 2, none⟩) (Kd.R_far (p := ⟨gb549, 1, none⟩) (Kd.R_far (p := ⟨gb549, 0, none⟩) (Kd.R_types (Kd.R_types HO537.out BK549.out (by decide)) BK550.out (by decide)) (fun _ hk => hk.1.2) (.slice Ao23 t535.length co23)) (fun _ hk => hk.1.2) (.slice Ao27 t538.length co27)) (fun _ hk => hk.1.2) (.string t541)) (fun _ hk => hk.2) (.slice Ao28 t542.length co28)) (fun _ hk => hk.2) (.slice Ao31 t545.length co31)) (fun _ hk => hk.2) (.string t548)) (fun _ h_ => h_.1)) (fun _ h_ => h_.1))) hb); replace HO540 := am (Kd.R_below (by (with_reducible repeat (first | apply Kd.R_alloc | apply Kd.R_drewN | apply Kd.R_drew)); exact (Kd.R_mono (Kd.R_mono (Kd.R_far (p := ⟨gb550, 2, none⟩) (Kd.R_far (p := ⟨gb550, 1, none⟩) (Kd.R_far (p := ⟨gb550, 0, none⟩) (Kd.R_far (p := ⟨gb549, 2, none⟩) (Kd.R_far (p := ⟨gb549, 1, none⟩) (Kd.R_far (p := ⟨gb549, 0, none⟩) (Kd.R_types (Kd.R_types HO540.out BK549.out (by decide)) BK550.out (by decide)) (fun _ hk => hk.1.2) (.slice Ao23 t535.length co23)) (fun _ hk => hk.1.2) (.slice Ao27 t538.length co27)) (fun _ hk => hk.1.2) (.string t541)) (fun _ hk => hk.2) (.slice Ao28 t542.length co28)) (fun _ hk => hk.2) (.slice Ao31 t545.length co31)) (fun _ hk => hk.2) (.string t548)) (fun _ h_ => h_.1)) (fun _ h_ => h_.1))) hb); replace HO544 := am (Kd.R_below (by (with_reducible repeat (first | apply Kd.R_alloc | apply Kd.R_drewN | apply Kd.R_drew)); exact (Kd.R_mono (Kd.R_mono (Kd.R_far (p := ⟨gb550, 2, none⟩) (Kd.R_far (p := ⟨gb550, 1, none⟩) (Kd.R_far (p := ⟨gb550, 0, none⟩) (Kd.R_far (p := ⟨gb549, 2, none⟩) (Kd.R_far (p := ⟨gb549, 1, none⟩) (Kd.R_far (p := ⟨gb549, 0, none⟩) (Kd.R_types (Kd.R_types HO544.out BK549.out (by decide)) BK550.out (by decide)) (fun _ hk => hk.1.2) (.slice Ao23 t535.length co23)) (fun _ hk => hk.1.2) (.slice Ao27 t538.length co27)) (fun _ hk => hk.1.2) (.string t541)) (fun _ hk => hk.2) (.slice Ao28 t542.length co28)) (fun _ hk => hk.2) (.slice Ao31 t545.length co31)) (fun _ hk => hk.2) (.string t548)) (fun _ h_ => h_.1)) (fun _ h_ => h_.1))) hb); replace HO547 := am (Kd.R_below (by (with_reducible repeat (first | apply Kd.R_alloc | apply Kd.R_drewN | apply Kd.R_drew)); exact (Kd.R_mono (Kd.R_mono (Kd.R_far (p := ⟨gb550, 2, none⟩) (Kd.R_far (p := ⟨gb550, 1, none⟩) (Kd.R_far (p := ⟨gb550, 0, none⟩) (Kd.R_far (p := ⟨gb549, 2, none⟩) (Kd.R_far (p := ⟨gb549, 1, none⟩) (Kd.R_far (p := ⟨gb549, 0, none⟩) (Kd.R_types (Kd.R_types HO547.out BK549.out (by decide)) BK550.out (by decide)) (fun _ hk => hk.1.2) (.slice Ao23 t535.length co23)) (fun _ hk => hk.1.2) (.slice Ao27 t538.length co27)) (fun _ hk => hk.1.2) (.string t541)) (fun _ hk => hk.2) (.slice Ao28 t542.length co28)) (fun _ hk => hk.2) (.slice Ao31 t545.length co31)) (fun _ hk => hk.2) (.string t548)) (fun _ h_ => h_.1)) (fun _ h_ => h_.1))) hb); replace BK533 := am (blk_below (g := gb533) (o := .cells #[.string t530, .string t531] 30 (0, 0)) (by (with_reducible repeat (first | refine blk_drewN ?_ _ | refine blk_drew ?_ | refine blk_alloc ?_ _)); refine blk_far ?_ NB533_550.out _; (with_reducible repeat (first | refine blk_drewN ?_ _ | refine blk_drew ?_ | refine blk_alloc ?_ _)); refine blk_far ?_ NB533_550.out _; (with_reducible repeat (first | refine blk_drewN ?_ _ | refine blk_drew ?_ | refine blk_alloc ?_ _)); refine blk_far ?_ NB533_550.out _; (with_reducible repeat (first | refine blk_drewN ?_ _ | refine blk_drew ?_ | refine blk_alloc ?_ _)); refine blk_far ?_ NB533_549.out _; (with_reducible repeat (first | refine blk_drewN ?_ _ | refine blk_drew ?_ | refine blk_alloc ?_ _)); refine blk_far ?_ NB533_549.out _; (with_reducible repeat (first | refine blk_drewN ?_ _ | refine blk_drew ?_ | refine blk_alloc ?_ _)); refine blk_far ?_ NB533_549.out _; (with_reducible repeat (first | refine blk_drewN ?_ _ | refine blk_drew ?_ | refine blk_alloc ?_ _)); exact BK533.out) hb); replace BK549 := am (blk_below (g := gb549) (o := .cells #[.slice Ao23 t535.length co23, .slice Ao27 t538.length co27, .string t541] 103 (0, 0)) (by (with_reducible repeat (first | refine blk_drewN ?_ _ | refine blk_drew ?_ | refine blk_alloc ?_ _)); refine blk_far ?_ NB549_550.out _; (with_reducible repeat (first | refine blk_drewN ?_ _ | refine blk_drew ?_ | refine blk_alloc ?_ _)); refine blk_far ?_ NB549_550.out _; (with_reducible repeat (first | refine blk_drewN ?_ _ | refine blk_drew ?_ | refine blk_alloc ?_ _)); refine blk_far ?_ NB549_550.out _; (with_reducible repeat (first | refine blk_drewN ?_ _ | refine blk_drew ?_ | refine blk_alloc ?_ _)); refine blk_put (cs := #[.slice Ao23 t535.length co23, .slice Ao27 t538.length co27, .string (⟨#[]⟩ : ByteArray)]) ?_ 2 _ rfl; (with_reducible repeat (first | refine blk_drewN ?_ _ | refine blk_drew ?_ | refine blk_alloc ?_ _)); refine blk_put (cs := #[.slice Ao23 t535.length co23, .slice none 0 0, .string (⟨#[]⟩ : ByteArray)]) ?_ 1 _ rfl; (with_reducible repeat (first | refine blk_drewN ?_ _ | refine blk_drew ?_ | refine blk_alloc ?_ _)); refine blk_put (cs := #[.slice none 0 0, .slice none 0 0, .string (⟨#[]⟩ : ByteArray)]) ?_ 0 _ rfl; (with_reducible repeat (first | refine blk_drewN ?_ _ | refine blk_drew ?_ | refine blk_alloc ?_ _)); exact BK549.out) hb); replace BK550 := am (blk_below (g := gb550) (o := .cells #[.slice Ao28 t542.length co28, .slice Ao31 t545.length co31, .string t548] 103 (0, 0)) (by (with_reducible repeat (first | refine blk_drewN ?_ _ | refine blk_drew ?_ | refine blk_alloc ?_ _)); refine blk_put (cs := #[.slice Ao28 t542.length co28, .slice Ao31 t545.length co31, .string (⟨#[]⟩ : ByteArray)]) ?_ 2 _ rfl; (with_reducible repeat (first | refine blk_drewN ?_ _ | refine blk_drew ?_ | refine blk_alloc ?_ _)); refine blk_put (cs := #[.slice Ao28 t542.length co28, .slice none 0 0, .string (⟨#[]⟩ : ByteArray)]) ?_ 1 _ rfl; (with_reducible repeat (first | refine blk_drewN ?_ _ | refine blk_drew ?_ | refine blk_alloc ?_ _)); refine blk_put (cs := #[.slice none 0 0, .slice none 0 0, .string (⟨#[]⟩ : ByteArray)]) ?_ 0 _ rfl; (with_reducible repeat (first | refine blk_drewN ?_ _ | refine blk_drew ?_ | refine blk_alloc ?_ _)); refine blk_far ?_ NB550_549.out _; (with_reducible repeat (first | refine blk_drewN ?_ _ | refine blk_drew ?_ | refine blk_alloc ?_ _)); refine blk_far ?_ NB550_549.out _; (with_reducible repeat (first | refine blk_drewN ?_ _ | refine blk_drew ?_ | refine blk_alloc ?_ _)); refine blk_far ?_ NB550_549.out _; (with_reducible repeat (first | refine blk_drewN ?_ _ | refine blk_drew ?_ | refine blk_alloc ?_ _)); exact BK550.out) hb); replace HB := bs HB hb; (try clear hb); (try clear hk)) | ((with_reducible refine gc (f := 97) rfl ?_); refine goesM (some 49) Tryz.func97 #[.int .i64 t551] ?_; (with_reducible refine (whole_Of.calls t551 t553 _ ?s1 A15.out).mono ?_); (case s1 => exact gb HG0 HB); rintro e w33 ⟨rfl, hb⟩; refine ⟨_, rfl, ?_⟩; replace HO537 := rb HO537 hb; replace HO540 := rb HO540 hb; replace HO544 := rb HO544 hb; replace HO547 := rb HO547 hb; replace BK533 := kb BK533 hb; replace BK549 := kb BK549 hb; replace BK550 := kb BK550 hb; replace HB := bs HB hb; (try clear hb)))
   go_ret
   exact ⟨rl, bl HB⟩
  ·replace c14 := Bool.eq_false_iff.mpr c14
   subst c14
   rw [if_neg (show ¬ (false = true) by decide)] at H
   have H' := am H
   clear H
   go_enter Tryz.func75, Tryz.ntmps75
   go_wp2_with (first | ((with_reducible refine gc (f := 114) rfl ?_); refine goesM (some 29) Tryz.func114 #[.slice A1 l1.length c1, .slice A2 l2.length c2] ?_; (with_reducible refine (size_ratio.calls k _ _ l1 _ _ l2 t530 t531 false _ ?s1 ?s2 ?s3 ?s4 ?s5 A4.out).mono ?_); (case s1 => exact gb HG0 HB); (case s2 => exact cr HR1); (case s3 => exact HC1.out); (case s4 => exact cr HR2); (case s5 => exact HC2.out); rintro e w34 ⟨rfl, hb⟩; refine ⟨_, rfl, ?_⟩; replace HB := bs HB hb; (try clear hb)) | ((with_reducible refine gd (N := 7) rfl ?_); refine boxM (N := 7) #[.string (⟨#[]⟩ : ByteArray), .string (⟨#[]⟩ : ByteArray)] 30 ?_; intro gb533 hg w35 hbox hb; have BK533 := am (hbox); have GW533 := gw hg HB; have GE533 := GW533; replace HB := bs HB hb; clear hb hbox hg; have hcz36_0 := bc BK533 0 (.string (⟨#[]⟩ : ByteArray)); have hcz36_1 := bc BK533 1 (.string (⟨#[]⟩ : ByteArray)); have hfz36_0 := blk_frozen BK533.out 0; have hfz36_1 := blk_frozen BK533.out 1) | ((with_reducible refine gc (f := 66) rfl ?_); refine goesM (some 37) Tryz.func66 #[.slice A0 l0.length c0, .slice A1 l1.length c1] ?_; (with_reducible refine (size_termsOf.calls k _ _ l0 _ _ l1 t535 t538 t541 _ ?s1 ?s2 ?s3 ?s4 ?s5 A11.out).mono ?_); (case s1 => exact gb HG0 HB); (case s2 => exact Kd.C_below HR0.out (bl HB)); (case s3 => exact HC0.out); (case s4 => exact Kd.C_below HR1.out (bl HB)); (case s5 => exact HC1.out); rintro e w37 ⟨v536, v539, rfl, ho0, ho1, hb⟩; refine ⟨_, rfl, ?_⟩; have HO537 := am (Kd.R_lower ho0 (below_size (bl HB))); have HO540 := am (Kd.R_lower ho1 (below_size (bl HB))); replace BK533 := am (blk_below (g := gb533) (o := .cells #[.string t530, .string t531] 30 (0, 0)) (by (with_reducible repeat (first | refine blk_drewN ?_ _ | refine blk_drew ?_ | refine blk_alloc ?_ _)); refine blk_put (cs := #[.string t530, .string (⟨#[]⟩ : ByteArray)]) ?_ 1 _ rfl; (with_reducible repeat (first | refine blk_drewN ?_ _ | refine blk_drew ?_ | refine blk_alloc ?_ _)); refine blk_put (cs := #[.string (⟨#[]⟩ : ByteArray), .string (⟨#[]⟩ : ByteArray)]) ?_ 0 _ rfl; (with_reducible repeat (first | refine blk_drewN ?_ _ | refine blk_drew ?_ | refine blk_alloc ?_ _)); exact BK533.out) hb); replace HB := bs HB hb; (try clear hb); (try clear ho0); (try clear ho1)) | ((with_reducible refine gc (f := 66) rfl ?_); refine goesM (some 40) Tryz.func66 #[.slice A0 l0.length c0, .slice A2 l2.length c2] ?_; (with_reducible refine (size_termsOf.calls k _ _ l0 _ _ l2 t542 t545 t548 _ ?s1 ?s2 ?s3 ?s4 ?s5 A12.out).mono ?_); (case s1 => exact gb HG0 HB); (case s2 => exact cb HR0 HB); (case s3 => exact HC0.out); (case s4 => exact cb HR2 HB); (case s5 => exact HC2.out); rintro e w38 ⟨v543, v546, rfl, ho0, ho1, hb⟩; refine ⟨_, rfl, ?_⟩; have HO544 := am (Kd.R_lower (Kd.R_new' ho0 (Kd.R_lt (kr HO537))) (below_size (bl HB))); replace HO537 := am (Kd.R_elder' (kr HO537) (Kd.R_base ho0) hb); have HO547 := am (Kd.R_lower (Kd.R_new' ho1 (Kd.R_lt (kr HO540))) (below_size (bl HB))); replace HO540 := am (Kd.R_elder' (kr HO540) (Kd.R_base ho1) hb); replace BK533 := kb BK533 hb; replace HB := bs HB hb; (try clear hb); (try clear ho0); (try clear ho1)) | ((with_reducible refine gd (N := 9) rfl ?_); refine boxM (N := 9) #[.slice none 0 0, .slice none 0 0, .string (⟨#[]⟩ : ByteArray)] 103 ?_; intro gb549 hg w39 hbox hb; replace HO537 := rb HO537 hb; replace HO540 := rb HO540 hb; replace HO544 := rb HO544 hb; replace HO547 := rb HO547 hb; have BK549 := am (hbox); have GW549 := gw hg HB; have GE549 := GW549; replace HB := bs HB hb; have NB533_549 := nl hg BK533; have NB549_533 := ng hg BK533; replace BK533 := kb BK533 hb; clear hb hbox hg) | ((with_reducible refine gd (N := 10) rfl ?_); refine boxM (N := 10) #[.slice none 0 0, .slice none 0 0, .string (⟨#[]⟩ : ByteArray)] 103 ?_; intro gb550 hg w40 hbox hb; replace HO537 := rb HO537 hb; replace HO540 := rb HO540 hb; replace HO544 := rb HO544 hb; replace HO547 := rb HO547 hb; have BK550 := am (hbox); have GW550 := gw hg HB; have GE550 := GW550; replace HB := bs HB hb; have NB533_550 := nl hg BK533; have NB550_533 := ng hg BK533; replace BK533 := kb BK533 hb; have NB549_550 := nl hg BK549; have NB550_549 := ng hg BK549; replace BK549 := kb BK549 hb; clear hb hbox hg; obtain ⟨Ao41, co41, eo41⟩ := Kd.R_slice HO537.out; subst eo41; have hnb42 := NB549_533.out; have hnc42 := NB533_549.out; have hnb43 := NB549_550.out; have hnc43 := NB550_549.out; have hcz44_0 := bc BK549 0 (.slice none 0 0); have hcz44_1 := bc BK549 1 (.slice none 0 0); have hcz44_2 := bc BK549 2 (.string (⟨#[]⟩ : ByteArray)); have hfz44_0 := blk_frozen BK549.out 0; have hfz44_1 := blk_frozen BK549.out 1; have hfz44_2 := blk_frozen BK549.out 2; obtain ⟨Ao45, co45, eo45⟩ := Kd.R_slice HO540.out; subst eo45; obtain ⟨Ao46, co46, eo46⟩ := Kd.R_slice HO544.out; subst eo46; have hnb47 := NB550_533.out; have hnc47 := NB533_550.out; have hcz48_0 := bc BK550 0 (.slice none 0 0); have hcz48_1 := bc BK550 1 (.slice none 0 0); have hcz48_2 := bc BK550 2 (.string (⟨#[]⟩ : ByteArray)); have hfz48_0 := blk_frozen BK550.out 0; have hfz48_1 := blk_frozen BK550.out 1; have hfz48_2 := blk_frozen BK550.out 2; obtain ⟨Ao49, co49, eo49⟩ := Kd.R_slice HO547.out; subst eo49) | ((with_reducible refine gc (f := 116) rfl ?_); refine goesM (some 44) Tryz.func116 #[.agg #[.slice Ao41 t535.length co41, .slice Ao45 t538.length co45, .string t541], .agg #[.slice Ao46 t542.length co46, .slice Ao49 t545.length co49, .string t548]] ?_; (with_reducible refine (size_quotient.calls k _ _ t535 _ _ t538 t541 _ _ t542 _ _ t545 t548 t551 false _ ?s1 ?s2 ?s3 ?s4 ?s5 ?s6 ?s7 ?s8 ?s9 A13.out).mono ?_); (case s1 => exact gb HG0 HB); (case s2 => refine (Kd.R_reads' (e := 3) (base := w.heap.size) (ok := fun k_ => (True ∧ some k_ ≠ (.slice Ao46 t542.length co46 : Value).ownBlock)) (n := t535.length) (c := co41) ?_).2.2; exact (by (with_reducible repeat (first | apply Kd.R_alloc | apply Kd.R_drewN | apply Kd.R_drew)); exact (Kd.R_mono (Kd.R_mono (Kd.R_far (p := ⟨gb550, 2, none⟩) (Kd.R_far (p := ⟨gb550, 1, none⟩) (Kd.R_far (p := ⟨gb550, 0, none⟩) (Kd.R_far (p := ⟨gb549, 2, none⟩) (Kd.R_far (p := ⟨gb549, 1, none⟩) (Kd.R_far (p := ⟨gb549, 0, none⟩) (Kd.R_types (Kd.R_types HO537.out BK549.out (by decide)) BK550.out (by decide)) (fun _ hk => hk.1.2) (.slice Ao41 t535.length co41)) (fun _ hk => hk.1.2) (.slice Ao45 t538.length co45)) (fun _ hk => hk.1.2) (.string t541)) (fun _ hk => hk.2) (.slice Ao46 t542.length co46)) (fun _ hk => hk.2) (.slice Ao49 t545.length co49)) (fun _ hk => hk.2) (.string t548)) (fun _ h_ => h_.1)) (fun _ h_ => h_.1)))); (case s3 => exact (Kd.R_reads' HO537.out).2.1); (case s4 => refine (Kd.R_reads' (e := 28) (base := w.heap.size) (ok := fun k_ => (True ∧ some k_ ≠ (.slice Ao49 t545.length co49 : Value).ownBlock)) (n := t538.length) (c := co45) ?_).2.2; exact (by (with_reducible repeat (first | apply Kd.R_alloc | apply Kd.R_drewN | apply Kd.R_drew)); exact (Kd.R_mono (Kd.R_mono (Kd.R_far (p := ⟨gb550, 2, none⟩) (Kd.R_far (p := ⟨gb550, 1, none⟩) (Kd.R_far (p := ⟨gb550, 0, none⟩) (Kd.R_far (p := ⟨gb549, 2, none⟩) (Kd.R_far (p := ⟨gb549, 1, none⟩) (Kd.R_far (p := ⟨gb549, 0, none⟩) (Kd.R_types (Kd.R_types HO540.out BK549.out (by decide)) BK550.out (by decide)) (fun _ hk => hk.1.2) (.slice Ao41 t535.length co41)) (fun _ hk => hk.1.2) (.slice Ao45 t538.length co45)) (fun _ hk => hk.1.2) (.string t541)) (fun _ hk => hk.2) (.slice Ao46 t542.length co46)) (fun _ hk => hk.2) (.slice Ao49 t545.length co49)) (fun _ hk => hk.2) (.string t548)) (fun _ h_ => h_.1)) (fun _ h_ => h_.1)))); (case s5 => exact (Kd.R_reads' HO540.out).2.1); (case s6 => refine (Kd.R_reads' (e := 3) (base := w.heap.size) (ok := fun k_ => (True ∧ some k_ ≠ (.slice Ao41 t535.length co41 : Value).ownBlock)) (n := t542.length) (c := co46) ?_).2.2; exact (by (with_reducible repeat (first | apply Kd.R_alloc | apply Kd.R_drewN | apply Kd.R_drew)); exact (Kd.R_mono (Kd.R_mono (Kd.R_far (p := ⟨gb550, 2, none⟩) (Kd.R_far (p := ⟨gb550, 1, none⟩) (Kd.R_far (p := ⟨gb550, 0, none⟩) (Kd.R_far (p := ⟨gb549, 2, none⟩) (Kd.R_far (p := ⟨gb549, 1, none⟩) (Kd.R_far (p := ⟨gb549, 0, none⟩) (Kd.R_types (Kd.R_types HO544.out BK549.out (by decide)) BK550.out (by decide)) (fun _ hk => hk.1.2) (.slice Ao41 t535.length co41)) (fun _ hk => hk.1.2) (.slice Ao45 t538.length co45)) (fun _ hk => hk.1.2) (.string t541)) (fun _ hk => hk.2) (.slice Ao46 t542.length co46)) (fun _ hk => hk.2) (.slice Ao49 t545.length co49)) (fun _ hk => hk.2) (.string t548)) (fun _ h_ => h_.1)) (fun _ h_ => h_.1)))); (case s7 => exact (Kd.R_reads' HO544.out).2.1); (case s8 => refine (Kd.R_reads' (e := 28) (base := w.heap.size) (ok := fun k_ => (True ∧ some k_ ≠ (.slice Ao45 t538.length co45 : Value).ownBlock)) (n := t545.length) (c := co49) ?_).2.2; exact (by (with_reducible repeat (first | apply Kd.R_alloc | apply Kd.R_drewN | apply Kd.R_drew)); exact (Kd.R_mono (Kd.R_mono (Kd.R_far (p := ⟨gb550, 2, none⟩) (Kd.R_far (p := ⟨gb550, 1, none⟩) (Kd.R_far (p := ⟨gb550, 0, none⟩) (Kd.R_far (p := ⟨gb549, 2, none⟩) (Kd.R_far (p := ⟨gb549, 1, none⟩) (Kd.R_far (p := ⟨gb549, 0, none⟩) (Kd.R_types (Kd.R_types HO547.out BK549.out (by decide)) BK550.out (by decide)) (fun _ hk => hk.1.2) (.slice Ao41 t535.length co41)) (fun _ hk => hk.1.2) (.slice Ao45 t538.length co45)) (fun _ hk => hk.1.2) (.string t541)) (fun _ hk => hk.2) (.slice Ao46 t542.length co46)) (fun _ hk => hk.2) (.slice Ao49 t545.length co49)) (fun _ hk => hk.2) (.string t548)) (fun _ h_ => h_.1)) (fun _ h_ => h_.1)))); (case s9 => exact (Kd.R_reads' HO547.out).2.1); rintro e w50 ⟨rfl, hb⟩; refine ⟨_, rfl, ?_⟩; replace HO537 := am (Kd.R_below (by (with_reducible repeat (first | apply Kd.R_alloc | apply Kd.R_drewN | apply Kd.R_drew)); exact (Kd.R_mono (Kd.R_mono (Kd.R_far (p := ⟨gb550, 2, none⟩) (Kd.R_far (p := ⟨gb550, 1, none⟩) (Kd.R_far (p := ⟨gb550, 0, none⟩) (Kd.R_far (p := ⟨gb549, 2, none⟩) (Kd.R_far (p := ⟨gb549, 1, none⟩) (Kd.R_far (p := ⟨gb549, 0, none⟩) (Kd.R_types (Kd.R_types HO537.out BK549.out (by decide)) BK550.out (by decide)) (fun _ hk => hk.1.2) (.slice Ao41 t535.length co41)) (fun _ hk => hk.1.2) (.slice Ao45 t538.length co45)) (fun _ hk => hk.1.2) (.string t541)) (fun _ hk => hk.2) (.slice Ao46 t542.length co46)) (fun _ hk => hk.2) (.slice Ao49 t545.length co49)) (fun _ hk => hk.2) (.string t548)) (fun _ h_ => h_.1)) (fun _ h_ => h_.1))) hb); replace HO540 := am (Kd.R_below (by (with_reducible repeat (first | apply Kd.R_alloc | apply Kd.R_drewN | apply Kd.R_drew)); exact (Kd.R_mono (Kd.R_mono (Kd.R_far (p := ⟨gb550, 2, none⟩) (Kd.R_far (p := ⟨gb550, 1, none⟩) (Kd.R_far (p := ⟨gb550, 0, none⟩) (Kd.R_far (p := ⟨gb549, 2, none⟩) (Kd.R_far (p := ⟨gb549, 1, none⟩) (Kd.R_far (p := ⟨gb549, 0, none⟩) (Kd.R_types (Kd.R_types HO540.out BK549.out (by decide)) BK550.out (by decide)) (fun _ hk => hk.1.2) (.slice Ao41 t535.length co41)) (fun _ hk => hk.1.2) (.slice Ao45 t538.length co45)) (fun _ hk => hk.1.2) (.string t541)) (fun _ hk => hk.2) (.slice Ao46 t542.length co46)) (fun _ hk => hk.2) (.slice Ao49 t545.length co49)) (fun _ hk => hk.2) (.string t548)) (fun _ h_ => h_.1)) (fun _ h_ => h_.1))) hb); replace HO544 := am (Kd.R_below (by (with_reducible repeat (first | apply Kd.R_alloc | apply Kd.R_drewN | apply Kd.R_drew)); exact (Kd.R_mono (Kd.R_mono (Kd.R_far (p := ⟨gb550, 2, none⟩) (Kd.R_far (p := ⟨gb550, 1, none⟩) (Kd.R_far (p := ⟨gb550, 0, none⟩) (Kd.R_far (p := ⟨gb549, 2, none⟩) (Kd.R_far (p := ⟨gb549, 1, none⟩) (Kd.R_far (p := ⟨gb549, 0, none⟩) (Kd.R_types (Kd.R_types HO544.out BK549.out (by decide)) BK550.out (by decide)) (fun _ hk => hk.1.2) (.slice Ao41 t535.length co41)) (fun _ hk => hk.1.2) (.slice Ao45 t538.length co45)) (fun _ hk => hk.1.2) (.string t541)) (fun _ hk => hk.2) (.slice Ao46 t542.length co46)) (fun _ hk => hk.2) (.slice Ao49 t545.length co49)) (fun _ hk => hk.2) (.string t548)) (fun _ h_ => h_.1)) (fun _ h_ => h_.1))) hb); replace HO547 := am (Kd.R_below (by (with_reducible repeat (first | apply Kd.R_alloc | apply Kd.R_drewN | apply Kd.R_drew)); exact (Kd.R_mono (Kd.R_mono (Kd.R_far (p := ⟨gb550, 2, none⟩) (Kd.R_far (p := ⟨gb550, 1, none⟩) (Kd.R_far (p := ⟨gb550, 0, none⟩) (Kd.R_far (p := ⟨gb549, 2, none⟩) (Kd.R_far (p := ⟨gb549, 1, none⟩) (Kd.R_far (p := ⟨gb549, 0, none⟩) (Kd.R_types (Kd.R_types HO547.out BK549.out (by decide)) BK550.out (by decide)) (fun _ hk => hk.1.2) (.slice Ao41 t535.length co41)) (fun _ hk => hk.1.2) (.slice Ao45 t538.length co45)) (fun _ hk => hk.1.2) (.string t541)) (fun _ hk => hk.2) (.slice Ao46 t542.length co46)) (fun _ hk => hk.2) (.slice Ao49 t545.length co49)) (fun _ hk => hk.2) (.string t548)) (fun _ h_ => h_.1)) (fun _ h_ => h_.1))) hb); replace BK533 := am (blk_below (g := gb533) (o := .cells #[.string t530, .string t531] 30 (0, 0)) (by (with_reducible repeat (first | refine blk_drewN ?_ _ | refine blk_drew ?_ | refine blk_alloc ?_ _)); refine blk_far ?_ NB533_550.out _; (with_reducible repeat (first | refine blk_drewN ?_ _ | refine blk_drew ?_ | refine blk_alloc ?_ _)); refine blk_far ?_ NB533_550.out _; (with_reducible repeat (first | refine blk_drewN ?_ _ | refine blk_drew ?_ | refine blk_alloc ?_ _)); refine blk_far ?_ NB533_550.out _; (with_reducible repeat (first | refine blk_drewN ?_ _ | refine blk_drew ?_ | refine blk_alloc ?_ _)); refine blk_far ?_ NB533_549.out _; (with_reducible repeat (first | refine blk_drewN ?_ _ | refine blk_drew ?_ | refine blk_alloc ?_ _)); refine blk_far ?_ NB533_549.out _; (with_reducible repeat (first | refine blk_drewN ?_ _ | refine blk_drew ?_ | refine blk_alloc ?_ _)); refine blk_far ?_ NB533_549.out _; (with_reducible repeat (first | refine blk_drewN ?_ _ | refine blk_drew ?_ | refine blk_alloc ?_ _)); exact BK533.out) hb); replace BK549 := am (blk_below (g := gb549) (o := .cells #[.slice Ao41 t535.length co41, .slice Ao45 t538.length co45, .string t541] 103 (0, 0)) (by (with_reducible repeat (first | refine blk_drewN ?_ _ | refine blk_drew ?_ | refine blk_alloc ?_ _)); refine blk_far ?_ NB549_550.out _; (with_reducible repeat (first | refine blk_drewN ?_ _ | refine blk_drew ?_ | refine blk_alloc ?_ _)); refine blk_far ?_ NB549_550.out _; (with_reducible repeat (first | refine blk_drewN ?_ _ | refine blk_drew ?_ | refine blk_alloc ?_ _)); refine blk_far ?_ NB549_550.out _; (with_reducible repeat (first | refine blk_drewN ?_ _ | refine blk_drew ?_ | refine blk_alloc ?_ _)); refine blk_put (cs := #[.slice Ao41 t535.length co41, .slice Ao45 t538.length co45, .string (⟨#[]⟩ : ByteArray)]) ?_ 2 _ rfl; (with_reducible repeat (first | refine blk_drewN ?_ _ | refine blk_drew ?_ | refine blk_alloc ?_ _)); refine blk_put (cs := #[.slice Ao41 t535.length co41, .slice none 0 0, .string (⟨#[]⟩ : ByteArray)]) ?_ 1 _ rfl; (with_reducible repeat (first | refine blk_drewN ?_ _ | refine blk_drew ?_ | refine blk_alloc ?_ _)); refine blk_put (cs := #[.slice none 0 0, .slice none 0 0, .string (⟨#[]⟩ : ByteArray)]) ?_ 0 _ rfl; (with_reducible repeat (first | refine blk_drewN ?_ _ | refine blk_drew ?_ | refine blk_alloc ?_ _)); exact BK549.out) hb); replace BK550 := am (blk_below (g := gb550) (o := .cells #[.slice Ao46 t542.length co46, .slice Ao49 t545.length co49, .string t548] 103 (0, 0)) (by (with_reducible repeat (first | refine blk_drewN ?_ _ | refine blk_drew ?_ | refine blk_alloc ?_ _)); refine blk_put (cs := #[.slice Ao46 t542.length co46, .slice Ao49 t545.length co49, .string (⟨#[]⟩ : ByteArray)]) ?_ 2 _ rfl; (with_reducible repeat (first | refine blk_drewN ?_ _ | refine blk_drew ?_ | refine blk_alloc ?_ _)); refine blk_put (cs := #[.slice Ao46 t542.length co46, .slice none 0 0, .string (⟨#[]⟩ : ByteArray)]) ?_ 1 _ rfl; (with_reducible repeat (first | refine blk_drewN ?_ _ | refine blk_drew ?_ | refine blk_alloc ?_ _)); refine blk_put (cs := #[.slice none 0 0, .slice none 0 0, .string (⟨#[]⟩ : ByteArray)]) ?_ 0 _ rfl; (with_reducible repeat (first | refine blk_drewN ?_ _ | refine blk_drew ?_ | refine blk_alloc ?_ _)); refine blk_far ?_ NB550_549.out _; (with_reducible repeat (first | refine blk_drewN ?_ _ | refine blk_drew ?_ | refine blk_alloc ?_ _)); refine blk_far ?_ NB550_549.out _; (with_reducible repeat (first | refine blk_drewN ?_ _ | refine blk_drew ?_ | refine blk_alloc ?_ _)); refine blk_far ?_ NB550_549.out _; (with_reducible repeat (first | refine blk_drewN ?_ _ | refine blk_drew ?_ | refine blk_alloc ?_ _)); exact BK550.out) hb); replace HB := bs HB hb; (try clear hb); (try clear hk)))
   go_loopg [] k (fun kq w' => Aside0 (size_floor.l0 kq  = some r) ∧ Aside0 (kq ≤ k) ∧ Aside0 (Kd.R (Kd.int .i64) 3 w' w.heap.size (fun k_ => some k_ ≠ ((.slice Ao46 t542.length co46) : Value).ownBlock) (.slice Ao41 t535.length co41) t535) ∧ Aside0 (Kd.R Kd.string 28 w' w.heap.size (fun k_ => some k_ ≠ ((.slice Ao49 t545.length co49) : Value).ownBlock) (.slice Ao45 t538.length co45) t538) ∧ Aside0 (Kd.R (Kd.int .i64) 3 w' w.heap.size (fun k_ => some k_ ≠ ((.slice Ao41 t535.length co41) : Value).ownBlock) (.slice Ao46 t542.length co46) t542) ∧ Aside0 (Kd.R Kd.string 28 w' w.heap.size (fun k_ => some k_ ≠ ((.slice Ao45 t538.length co45) : Value).ownBlock) (.slice Ao49 t545.length co49) t545) ∧ Aside0 (w'.heap[gb533]? = some (.cells #[.string t530, .string t531] 30 (0, 0))) ∧ Aside0 (w'.heap[gb549]? = some (.cells #[(.slice Ao41 t535.length co41), (.slice Ao45 t538.length co45), .string t541] 103 (0, 0))) ∧ Aside0 (w'.heap[gb550]? = some (.cells #[(.slice Ao46 t542.length co46), (.slice Ao49 t545.length co49), .string t548] 103 (0, 0))) ∧ Aside0 (Below w.heap.size w w'))
   case atStart => exact ⟨H', ⟨Nat.le_refl _⟩, ⟨by (with_reducible repeat (first | apply Kd.R_alloc | apply Kd.R_drewN | apply Kd.R_drew)); exact Kd.R_mono HO537.out (fun _ hk => hk.2)⟩, ⟨by (with_reducible repeat (first | apply Kd.R_alloc | apply Kd.R_drewN | apply Kd.R_drew)); exact Kd.R_mono HO540.out (fun _ hk => hk.2)⟩, ⟨by (with_reducible repeat (first | apply Kd.R_alloc | apply Kd.R_drewN | apply Kd.R_drew)); exact Kd.R_mono HO544.out (fun _ hk => hk.2)⟩, ⟨by (with_reducible repeat (first | apply Kd.R_alloc | apply Kd.R_drewN | apply Kd.R_drew)); exact Kd.R_mono HO547.out (fun _ hk => hk.2)⟩, ⟨bk BK533⟩, ⟨bk BK549⟩, ⟨bk BK550⟩, ⟨bl HB⟩⟩
   case round =>
    clear H'
    try clear c1
    try clear c2
    try clear p2
    try clear c4
    try clear c5
    try clear c6
    try clear c7
    try clear c9
    try clear c11
    try clear c14
    try clear c24
    try clear c25
    try clear c29
    try clear c42
    try clear c43
    try clear c47
    try clear hcz18_0
    try clear hcz18_1
    try clear hcz26_0
    try clear hcz26_1
    try clear hcz26_2
    try clear hcz30_0
    try clear hcz30_1
    try clear hcz30_2
    try clear hcz36_0
    try clear hcz36_1
    try clear hcz44_0
    try clear hcz44_1
    try clear hcz44_2
    try clear hcz48_0
    try clear hcz48_1
    try clear hcz48_2
    try clear hcz9_0
    try clear hcz9_1
    try clear hfz18_0
    try clear hfz18_1
    try clear hfz26_0
    try clear hfz26_1
    try clear hfz26_2
    try clear hfz30_0
    try clear hfz30_1
    try clear hfz30_2
    try clear hfz36_0
    try clear hfz36_1
    try clear hfz44_0
    try clear hfz44_1
    try clear hfz44_2
    try clear hfz48_0
    try clear hfz48_1
    try clear hfz48_2
    try clear hfz9_0
    try clear hfz9_1
    obtain ⟨HA, HK1, HO_550000, HO_550001, HO_551000, HO_551001, BK533, BK549, BK550, HB⟩ := hrel
    cases gk with
    | zero => exact absurd HA.out (by simp [size_floor.l0])
    | succ k1 =>
     have H := HA.out
     clear HA
     simp only [size_floor.l0] at H
     cases H
def size_Floor.f (k : Nat) (l0 : List Int) (l1 : List (S30)) (l2 : List (S30)) : Option (ByteArray × Int) := (size_checkQuotient.f k l0 l1 l2).bind fun t554 => (if t554 = 0 then ((size_floor.f k l0 l1 l2).bind fun t555 => (some (t555, 0))) else (some ((⟨#[]⟩ : ByteArray), t554)))
theorem size_Floor.calls (k : Nat) (A0 : Option Addr) (c0 : Nat) (l0 : List Int) (A1 : Option Addr) (c1 : Nat) (l1 : List (S30)) (A2 : Option Addr) (c2 : Nat) (l2 : List (S30)) (r1 : ByteArray) (r2 : Int) (w : World) (hG : Glob w) (hr0 : Kd.C (Kd.int .i64) w A0 l0.length l0) (hc0 : l0.length ≤ c0) (hr1 : Kd.C k30 w A1 l1.length l1) (hc1 : l1.length ≤ c1) (hr2 : Kd.C k30 w A2 l2.length l2) (hc2 : l2.length ≤ c2) (h : size_Floor.f k l0 l1 l2 = some (r1, r2)) :
  Calls Tryz.prog 30 #[.slice A0 l0.length c0, .slice A1 l1.length c1, .slice A2 l2.length c2] w fun e w' => e = .returned (.tuple #[.string r1, .int .i64 r2]) ∧ Below w.heap.size w w' := by
 have HR0 := am hr0
 have HC0 := am hc0
 clear hr0 hc0
 have HR1 := am hr1
 have HC1 := am hc1
 clear hr1 hc1
 have HR2 := am hr2
 have HC2 := am hc2
 clear hr2 hc2
 have HG0 := am hG
 clear hG
 have HB := am (Below.refl w.heap.size w)
 have H := h
 unfold size_Floor.f at H
 clear h
 obtain ⟨t554, A4, H⟩ := bo H
 try dsimp only at H
 by_cases c5 : t554 = 0
 ·rw [if_pos c5] at H
  have c5b0 := beq_iff_eq.mpr c5
  have c5b1 := bne_eq_false_iff_eq.mpr c5
  clear c5
  obtain ⟨t555, A6, H⟩ := bo H
  try dsimp only at H
  simp only [Option.some.injEq, Prod.mk.injEq] at H
  obtain ⟨rfl, rfl⟩ := H
  go_enter Tryz.func30, Tryz.ntmps30
  go_wp2_with (first | ((with_reducible refine gc (f := 74) rfl ?_); refine goesM (some 12) Tryz.func74 #[.slice A0 l0.length c0, .slice A1 l1.length c1, .slice A2 l2.length c2] ?_; (with_reducible refine (size_checkQuotient.calls k _ _ l0 (fun k_ => k_ < w.heap.size) _ _ l1 (fun k_ => k_ < w.heap.size) _ _ l2 t554 _ ?s1 ?s2 ?s3 ?s4 ?s5 A4.out).mono ?_); (case s1 => exact gb HG0 HB); (case s2 => exact cr HR0); (case s3 => exact HC0.out); (case s4 => exact Kd.V_mk HC1.out (Kd.F_below (Kd.C_F k30_heap HR1.out) (bl HB))); (case s5 => exact Kd.V_mk HC2.out (Kd.F_below (Kd.C_F k30_heap HR2.out) (bl HB))); rintro e w7 ⟨rfl, hb⟩; refine ⟨_, rfl, ?_⟩; replace HB := bs HB hb; (try clear hb)) | ((with_reducible refine gc (f := 75) rfl ?_); refine goesM (some 19) Tryz.func75 #[.slice A0 l0.length c0, .slice A1 l1.length c1, .slice A2 l2.length c2] ?_; (with_reducible refine (size_floor.calls k _ _ l0 _ _ l1 _ _ l2 t555 _ ?s1 ?s2 ?s3 ?s4 ?s5 ?s6 ?s7 A6.out).mono ?_); (case s1 => exact gb HG0 HB); (case s2 => exact cb HR0 HB); (case s3 => exact HC0.out); (case s4 => exact cb HR1 HB); (case s5 => exact HC1.out); (case s6 => exact cb HR2 HB); (case s7 => exact HC2.out); rintro e w8 ⟨rfl, hb⟩; refine ⟨_, rfl, ?_⟩; replace HB := bs HB hb; (try clear hb)))
  go_ret2
  exact ⟨rl, bl HB⟩
 ·rw [if_neg c5] at H
  have c5b0 := beq_eq_false_iff_ne.mpr c5
  have c5b1 := bne_iff_ne.mpr c5
  simp only [Option.some.injEq, Prod.mk.injEq] at H
  obtain ⟨rfl, rfl⟩ := H
  go_enter Tryz.func30, Tryz.ntmps30
  go_wp2_with (first | ((with_reducible refine gc (f := 74) rfl ?_); refine goesM (some 12) Tryz.func74 #[.slice A0 l0.length c0, .slice A1 l1.length c1, .slice A2 l2.length c2] ?_; (with_reducible refine (size_checkQuotient.calls k _ _ l0 (fun k_ => k_ < w.heap.size) _ _ l1 (fun k_ => k_ < w.heap.size) _ _ l2 t554 _ ?s1 ?s2 ?s3 ?s4 ?s5 A4.out).mono ?_); (case s1 => exact gb HG0 HB); (case s2 => exact cr HR0); (case s3 => exact HC0.out); (case s4 => exact Kd.V_mk HC1.out (Kd.F_below (Kd.C_F k30_heap HR1.out) (bl HB))); (case s5 => exact Kd.V_mk HC2.out (Kd.F_below (Kd.C_F k30_heap HR2.out) (bl HB))); rintro e w9 ⟨rfl, hb⟩; refine ⟨_, rfl, ?_⟩; replace HB := bs HB hb; (try clear hb)))
  go_ret2
  exact ⟨rl, bl HB⟩
def size_Round.f (k : Nat) (l0 : List Int) (l1 : List (S30)) (l2 : List (S30)) : Option (ByteArray × Int) := (size_checkQuotient.f k l0 l1 l2).bind fun t556 => (if t556 = 0 then ((size_number.f 2).bind fun bt560 => ((size_number.f 1).bind fun bt562 => ((size_sum.f k (l0.length : Int) (([l1, l2] : List (List (S30)))) (([(⟨bt560.1, bt560.2⟩ : S30), (⟨bt562.1, bt562.2⟩ : S30)] : List (S30)))).bind fun t567 => ((size_number.f 2).bind fun bt573 => ((size_sum.f k (l0.length : Int) (([l2] : List (List (S30)))) (([(⟨bt573.1, bt573.2⟩ : S30)] : List (S30)))).bind fun t578 => ((size_floor.f k l0 t567 t578).bind fun t581 => (some (t581, 0)))))))) else (some ((⟨#[]⟩ : ByteArray), t556)))
theorem size_Round.calls (k : Nat) (A0 : Option Addr) (c0 : Nat) (l0 : List Int) (P1_ : Nat → Prop) (A1 : Option Addr) (c1 : Nat) (l1 : List (S30)) (P2_ : Nat → Prop) (A2 : Option Addr) (c2 : Nat) (l2 : List (S30)) (r1 : ByteArray) (r2 : Int) (w : World) (hG : Glob w) (hr0 : Kd.C (Kd.int .i64) w A0 l0.length l0) (hc0 : l0.length ≤ c0) (hs1 : Kd.V k30 30 w w.heap.size (fun k_ => P1_ k_) (.slice A1 l1.length c1) l1) (hs2 : Kd.V k30 30 w w.heap.size (fun k_ => P2_ k_) (.slice A2 l2.length c2) l2) (h : size_Round.f k l0 l1 l2 = some (r1, r2)) :
  Calls Tryz.prog 31 #[.slice A0 l0.length c0, .slice A1 l1.length c1, .slice A2 l2.length c2] w fun e w' => e = .returned (.tuple #[.string r1, .int .i64 r2]) ∧ Below w.heap.size w w' := by
 have HR0 := am hr0
 have HC0 := am hc0
 clear hr0 hc0
 have HO1 := am (show Kd.V k30 30 w w.heap.size (fun k_ => ((P1_ k_ ∨ P2_ k_) ∨ w.heap.size ≤ k_)) (.slice A1 l1.length c1) l1 from Kd.V_mono hs1 (fun k_ hk => .inl (.inl hk)))
 have HO2 := am (show Kd.V k30 30 w w.heap.size (fun k_ => ((P1_ k_ ∨ P2_ k_) ∨ w.heap.size ≤ k_)) (.slice A2 l2.length c2) l2 from Kd.V_mono hs2 (fun k_ hk => .inl (.inr hk)))
 have HG0 := am hG
 clear hG
 have HB := am (Below.refl w.heap.size w)
 have H := h
 unfold size_Round.f at H
 clear h
 obtain ⟨t556, A4, H⟩ := bo H
 try dsimp only at H
 by_cases c5 : t556 = 0
 ·rw [if_pos c5] at H
  have c5b0 := beq_iff_eq.mpr c5
  have c5b1 := bne_eq_false_iff_eq.mpr c5
  clear c5
  obtain ⟨y557, hy557⟩ : ∃ y_ : List (List (S30)), y_ = (([l1, l2] : List (List (S30)))) := ⟨_, rfl⟩
  first | rw [Option.bind_some, ← hy557] at H | rw [← hy557] at H
  have Ny557 := am hy557
  clear hy557
  obtain ⟨⟨t560, t561⟩, A6, H⟩ := bo H
  try dsimp only at H
  obtain ⟨⟨t562, t563⟩, A7, H⟩ := bo H
  try dsimp only at H
  obtain ⟨y564, hy564⟩ : ∃ y_ : List (S30), y_ = (([(⟨t560, t561⟩ : S30), (⟨t562, t563⟩ : S30)] : List (S30))) := ⟨_, rfl⟩
  first | rw [Option.bind_some, ← hy564] at H | rw [← hy564] at H
  have Ny564 := am hy564
  clear hy564
  obtain ⟨t567, A8, H⟩ := bo H
  try dsimp only at H
  obtain ⟨y570, hy570⟩ : ∃ y_ : List (List (S30)), y_ = (([l2] : List (List (S30)))) := ⟨_, rfl⟩
  first | rw [Option.bind_some, ← hy570] at H | rw [← hy570] at H
  have Ny570 := am hy570
  clear hy570
  obtain ⟨⟨t573, t574⟩, A9, H⟩ := bo H
  try dsimp only at H
  obtain ⟨y575, hy575⟩ : ∃ y_ : List (S30), y_ = (([(⟨t573, t574⟩ : S30)] : List (S30))) := ⟨_, rfl⟩
  first | rw [Option.bind_some, ← hy575] at H | rw [← hy575] at H
  have Ny575 := am hy575
  clear hy575
  obtain ⟨t578, A10, H⟩ := bo H
  try dsimp only at H
  obtain ⟨t581, A11, H⟩ := bo H
  try dsimp only at H
  simp only [Option.some.injEq, Prod.mk.injEq] at H
  obtain ⟨rfl, rfl⟩ := H
  go_enter Tryz.func31, Tryz.ntmps31
  go_wp2_with (first | ((with_reducible refine gc (f := 74) rfl ?_); refine goesM (some 13) Tryz.func74 #[.slice A0 l0.length c0, .slice A1 l1.length c1, .slice A2 l2.length c2] ?_; (with_reducible refine (size_checkQuotient.calls k _ _ l0 (fun k_ => ((P1_ k_ ∨ P2_ k_) ∨ w.heap.size ≤ k_)) _ _ l1 (fun k_ => ((P1_ k_ ∨ P2_ k_) ∨ w.heap.size ≤ k_)) _ _ l2 t556 _ ?s1 ?s2 ?s3 ?s4 ?s5 A4.out).mono ?_); (case s1 => exact gb HG0 HB); (case s2 => exact cr HR0); (case s3 => exact HC0.out); (case s4 => exact HO1.out); (case s5 => exact HO2.out); rintro e w12 ⟨rfl, hb⟩; refine ⟨_, rfl, ?_⟩; replace HO1 := am (Kd.V_below (kv HO1) hb); replace HO2 := am (Kd.V_below (kv HO2) hb); replace HB := bs HB hb; (try clear hb)) | ((with_reducible refine gd (N := 21) rfl ?_); refine Kd.N_lit (Kd.slice 30 k30) _ 34 ?hg (N' := 21) ?hd (xs := ([l1, l2] : List (List (S30)))) (inner := [.slice A1 l1.length c1, .slice A2 l2.length c2]) (ok := (fun k_ => ((P1_ k_ ∨ P2_ k_) ∨ w.heap.size ≤ k_))) (okp := (fun k_ => ((P1_ k_ ∨ P2_ k_) ∨ w.heap.size ≤ k_))) ?hr ?hp (fun _ hk => hk) ((show ∀ k_, w12.heap.size ≤ k_ → (fun k_ => ((P1_ k_ ∨ P2_ k_) ∨ w.heap.size ≤ k_)) k_ from fun k_ hk => (.inr (Nat.le_trans (below_size (bl HB)) hk))) _ (Nat.le_refl _)) (Below.refl _ _) (Nat.le_refl _) (by simp) ?_; (case hd => rfl); (case hg => rfl); (case hr => first | (go_simp; done) | (go_simp; rfl)); (case hp => exact (Reps.one (show Kd.FK (Kd.slice 30 k30) _ _ l1 [.slice A1 l1.length c1] from (Kd.FK_slice_mk (Kd.V_reads' (Kd.V_mono (ok' := (fun k_ => ((P1_ k_ ∨ P2_ k_) ∨ w.heap.size ≤ k_))) (HO1.out) (fun k_ hk => hk))).2.1 (Kd.V_F (Kd.V_mono (ok' := (fun k_ => ((P1_ k_ ∨ P2_ k_) ∨ w.heap.size ≤ k_))) (HO1.out) (fun k_ hk => hk))))) (Reps.one (show Kd.FK (Kd.slice 30 k30) _ _ l2 [.slice A2 l2.length c2] from (Kd.FK_slice_mk (Kd.V_reads' (Kd.V_mono (ok' := (fun k_ => ((P1_ k_ ∨ P2_ k_) ∨ w.heap.size ≤ k_))) (HO2.out) (fun k_ hk => hk))).2.1 (Kd.V_F (Kd.V_mono (ok' := (fun k_ => ((P1_ k_ ∨ P2_ k_) ∨ w.heap.size ≤ k_))) (HO2.out) (fun k_ hk => hk))))) (Reps.none _ _)))); intro v558 w13 ho14 hb hg_ hnew_; clear hg_ hnew_; (first | rw [← Ny557.out] at ho14 | (simp only [Int.reduceToNat] at ho14; rw [← Ny557.out] at ho14)); replace HO1 := am (Kd.V_elder' (kv HO1) (Kd.N_base ho14) hb); replace HO2 := am (Kd.V_elder' (kv HO2) (Kd.N_base ho14) hb); have HO559 := am (Kd.N_lower ho14 (below_size (bl HB))); replace HB := bs HB hb; clear hb ho14) | ((with_reducible refine gc (f := 65) rfl ?_); refine goesM (some 22) Tryz.func65 #[.int .i64 2] ?_; (with_reducible refine (size_number.calls 2 t560 t561 _ ?s1 A6.out).mono ?_); (case s1 => exact gb HG0 HB); rintro e w15 ⟨rfl, hb⟩; refine ⟨_, rfl, ?_⟩; replace HO1 := am (Kd.V_below (kv HO1) hb); replace HO2 := am (Kd.V_below (kv HO2) hb); replace HO559 := am (Kd.N_below (by (with_reducible repeat (first | apply Kd.N_alloc | apply Kd.N_drewN | apply Kd.N_drew)); exact HO559.out) hb); replace HB := bs HB hb; (try clear hb)) | ((with_reducible refine gc (f := 65) rfl ?_); refine goesM (some 23) Tryz.func65 #[.int .i64 1] ?_; (with_reducible refine (size_number.calls 1 t562 t563 _ ?s1 A7.out).mono ?_); (case s1 => exact gb HG0 HB); rintro e w16 ⟨rfl, hb⟩; refine ⟨_, rfl, ?_⟩; replace HO1 := am (Kd.V_below (kv HO1) hb); replace HO2 := am (Kd.V_below (kv HO2) hb); replace HO559 := am (Kd.N_below (by (with_reducible repeat (first | apply Kd.N_alloc | apply Kd.N_drewN | apply Kd.N_drew)); exact HO559.out) hb); replace HB := bs HB hb; (try clear hb)) | ((with_reducible refine gd (N := 24) rfl ?_); refine Kd.R_lit k30 _ 30 ?hg (N := 24) ?hd (xs := ([(⟨t560, t561⟩ : S30), (⟨t562, t563⟩ : S30)] : List (S30))) (inner := [.string t560, .string t561, .string t562, .string t563]) (ok := fun _ => True) (okp := fun _ => True) ?hr ?hp (fun _ hk => hk) trivial (Below.refl _ _) (Nat.le_refl _) (by simp) ?_; (case hd => rfl); (case hg => rfl); (case hr => first | (go_simp; done) | (go_simp; rfl)); (case hp => exact (Reps.c2 (show Kd.M k30 _ _ _ (⟨t560, t561⟩ : S30) [.string t560, .string t561] from (k30_mkM _ _ _ (⟨t560, t561⟩ : S30) )) (Reps.c2 (show Kd.M k30 _ _ _ (⟨t562, t563⟩ : S30) [.string t562, .string t563] from (k30_mkM _ _ _ (⟨t562, t563⟩ : S30) )) (Reps.none _ _)))); intro v565 w17 ho18 hb hg_ hnew_; clear hg_ hnew_; (first | rw [← Ny564.out] at ho18 | (simp only [Int.reduceToNat] at ho18; rw [← Ny564.out] at ho18)); replace HO1 := am (Kd.V_elder' (kv HO1) (Kd.R_base ho18) hb); replace HO2 := am (Kd.V_elder' (kv HO2) (Kd.R_base ho18) hb); replace HO559 := am (Kd.N_elder' (by (with_reducible repeat (first | apply Kd.N_alloc | apply Kd.N_drewN | apply Kd.N_drew)); exact HO559.out) (Kd.R_base ho18) hb); have HO566 := am (Kd.R_lower (Kd.R_newM (M := fun k_ => (w.heap.size ≤ k_)) ho18 (below_size (bl HB)) (fun k_ h_ => h_)) (below_size (bl HB))); replace HB := bs HB hb; clear hb ho18; obtain ⟨Ao19, co19, eo19⟩ := Kd.N_slice HO559.out; subst eo19; obtain ⟨Ao20, co20, eo20⟩ := Kd.R_slice HO566.out; subst eo20) | ((with_reducible refine gc (f := 59) rfl ?_); refine goesM (some 25) Tryz.func59 #[.int .i64 (l0.length : Int), .slice Ao19 y557.length co19, .slice Ao20 y564.length co20] ?_; (with_reducible refine (size_sum.calls k (l0.length : Int) _ _ y557 _ _ y564 t567 _ ?s1 ?s2 ?s3 ?s4 ?s5 A8.out).mono ?_); (case s1 => exact gb HG0 HB); (case s2 => repeat (first | exact (Kd.N_reads' HO559.out).2.2 | (with_reducible refine Kd.C_alloc ?_ _) | (with_reducible refine Kd.C_drewN ?_ _) | (with_reducible refine Kd.C_drew ?_))); (case s3 => exact (Kd.N_reads' HO559.out).2.1); (case s4 => exact cR HO566); (case s5 => exact (Kd.R_reads' HO566.out).2.1); rintro e w21 ⟨v568, rfl, ho0, hb⟩; refine ⟨_, rfl, ?_⟩; replace HO1 := am (Kd.V_elder' (kv HO1) (Kd.R_base ho0) hb); replace HO2 := am (Kd.V_elder' (kv HO2) (Kd.R_base ho0) hb); replace HO559 := am (Kd.N_elder' (by (with_reducible repeat (first | apply Kd.N_alloc | apply Kd.N_drewN | apply Kd.N_drew)); exact HO559.out) (Kd.R_base ho0) hb); have HO569 := am (Kd.R_lower (Kd.R_new' (Kd.R_newM (M := fun k_ => (w.heap.size ≤ k_)) ho0 (below_size (bl HB)) (fun k_ h_ => h_)) (Kd.R_lt (kr HO566))) (below_size (bl HB))); replace HO566 := am (Kd.R_elder' (kr HO566) (Kd.R_base ho0) hb); replace HB := bs HB hb; (try clear hb); (try clear ho0)) | ((with_reducible refine gd (N := 31) rfl ?_); refine Kd.N_lit (Kd.slice 30 k30) _ 34 ?hg (N' := 31) ?hd (xs := ([l2] : List (List (S30)))) (inner := [.slice A2 l2.length c2]) (ok := (fun k_ => ((P1_ k_ ∨ P2_ k_) ∨ w.heap.size ≤ k_) ∧ some k_ ≠ (.slice Ao19 y557.length co19 : Value).ownBlock ∧ some k_ ≠ (.slice Ao20 y564.length co20 : Value).ownBlock ∧ some k_ ≠ (v568 : Value).ownBlock)) (okp := (fun k_ => ((P1_ k_ ∨ P2_ k_) ∨ w.heap.size ≤ k_) ∧ some k_ ≠ (.slice Ao19 y557.length co19 : Value).ownBlock ∧ some k_ ≠ (.slice Ao20 y564.length co20 : Value).ownBlock ∧ some k_ ≠ (v568 : Value).ownBlock)) ?hr ?hp (fun _ hk => hk) ((show ∀ k_, w21.heap.size ≤ k_ → (fun k_ => ((P1_ k_ ∨ P2_ k_) ∨ w.heap.size ≤ k_) ∧ some k_ ≠ (.slice Ao19 y557.length co19 : Value).ownBlock ∧ some k_ ≠ (.slice Ao20 y564.length co20 : Value).ownBlock ∧ some k_ ≠ (v568 : Value).ownBlock) k_ from fun k_ hk => ⟨(.inr (Nat.le_trans (below_size (bl HB)) hk)), Kd.fresh' (Kd.N_lt (by (with_reducible repeat (first | apply Kd.N_alloc | apply Kd.N_drewN | apply Kd.N_drew)); exact HO559.out)) k_ hk, Kd.fresh' (Kd.R_lt (kr HO566)) k_ hk, Kd.fresh' (Kd.R_lt (kr HO569)) k_ hk⟩) _ (Nat.le_refl _)) (Below.refl _ _) (Nat.le_refl _) (by simp) ?_; (case hd => rfl); (case hg => rfl); (case hr => first | (go_simp; done) | (go_simp; rfl)); (case hp => exact (Reps.one (show Kd.FK (Kd.slice 30 k30) _ _ l2 [.slice A2 l2.length c2] from (Kd.FK_slice_mk (Kd.V_reads' (Kd.V_mono (ok' := (fun k_ => ((P1_ k_ ∨ P2_ k_) ∨ w.heap.size ≤ k_) ∧ some k_ ≠ (.slice Ao19 y557.length co19 : Value).ownBlock ∧ some k_ ≠ (.slice Ao20 y564.length co20 : Value).ownBlock ∧ some k_ ≠ (v568 : Value).ownBlock)) (HO2.out) (fun k_ hk => ⟨hk.1.1.1, ⟨hk.1.1.2, ⟨hk.1.2, hk.2⟩⟩⟩))).2.1 (Kd.V_F (Kd.V_mono (ok' := (fun k_ => ((P1_ k_ ∨ P2_ k_) ∨ w.heap.size ≤ k_) ∧ some k_ ≠ (.slice Ao19 y557.length co19 : Value).ownBlock ∧ some k_ ≠ (.slice Ao20 y564.length co20 : Value).ownBlock ∧ some k_ ≠ (v568 : Value).ownBlock)) (HO2.out) (fun k_ hk => ⟨hk.1.1.1, ⟨hk.1.1.2, ⟨hk.1.2, hk.2⟩⟩⟩))))) (Reps.none _ _))); intro v571 w22 ho23 hb hg_ hnew_; clear hg_ hnew_; (first | rw [← Ny570.out] at ho23 | (simp only [Int.reduceToNat] at ho23; rw [← Ny570.out] at ho23)); replace HO1 := am (Kd.V_elder' (kv HO1) (Kd.N_base ho23) hb); replace HO2 := am (Kd.V_elder' (kv HO2) (Kd.N_base ho23) hb); replace HO559 := am (Kd.N_elder' (by (with_reducible repeat (first | apply Kd.N_alloc | apply Kd.N_drewN | apply Kd.N_drew)); exact HO559.out) (Kd.N_base ho23) hb); replace HO566 := rb HO566 hb; replace HO569 := rb HO569 hb; have HO572 := am (Kd.N_lower ho23 (below_size (bl HB))); replace HB := bs HB hb; clear hb ho23) | ((with_reducible refine gc (f := 65) rfl ?_); refine goesM (some 32) Tryz.func65 #[.int .i64 2] ?_; (with_reducible refine (size_number.calls 2 t573 t574 _ ?s1 A9.out).mono ?_); (case s1 => exact gb HG0 HB); rintro e w24 ⟨rfl, hb⟩; refine ⟨_, rfl, ?_⟩; replace HO1 := am (Kd.V_below (kv HO1) hb); replace HO2 := am (Kd.V_below (kv HO2) hb); replace HO559 := am (Kd.N_below (by (with_reducible repeat (first | apply Kd.N_alloc | apply Kd.N_drewN | apply Kd.N_drew)); exact HO559.out) hb); replace HO566 := rb HO566 hb; replace HO569 := rb HO569 hb; replace HO572 := am (Kd.N_below (by (with_reducible repeat (first | apply Kd.N_alloc | apply Kd.N_drewN | apply Kd.N_drew)); exact HO572.out) hb); replace HB := bs HB hb; (try clear hb)) | ((with_reducible refine gd (N := 33) rfl ?_); refine Kd.R_lit k30 _ 30 ?hg (N := 33) ?hd (xs := ([(⟨t573, t574⟩ : S30)] : List (S30))) (inner := [.string t573, .string t574]) (ok := fun _ => True) (okp := fun _ => True) ?hr ?hp (fun _ hk => hk) trivial (Below.refl _ _) (Nat.le_refl _) (by simp) ?_; (case hd => rfl); (case hg => rfl); (case hr => first | (go_simp; done) | (go_simp; rfl)); (case hp => exact (Reps.c2 (show Kd.M k30 _ _ _ (⟨t573, t574⟩ : S30) [.string t573, .string t574] from (k30_mkM _ _ _ (⟨t573, t574⟩ : S30) )) (Reps.none _ _))); intro v576 w25 ho26 hb hg_ hnew_; clear hg_ hnew_; (first | rw [← Ny575.out] at ho26 | (simp only [Int.reduceToNat] at ho26; rw [← Ny575.out] at ho26)); replace HO1 := am (Kd.V_elder' (kv HO1) (Kd.R_base ho26) hb); replace HO2 := am (Kd.V_elder' (kv HO2) (Kd.R_base ho26) hb); replace HO559 := am (Kd.N_elder' (by (with_reducible repeat (first | apply Kd.N_alloc | apply Kd.N_drewN | apply Kd.N_drew)); exact HO559.out) (Kd.R_base ho26) hb); replace HO572 := am (Kd.N_elder' (by (with_reducible repeat (first | apply Kd.N_alloc | apply Kd.N_drewN | apply Kd.N_drew)); exact HO572.out) (Kd.R_base ho26) hb); have HO577 := am (Kd.R_lower (Kd.R_new' (Kd.R_new' (Kd.R_newM (M := fun k_ => (w.heap.size ≤ k_)) ho26 (below_size (bl HB)) (fun k_ h_ => h_)) (Kd.R_lt (kr HO566))) (Kd.R_lt (kr HO569))) (below_size (bl HB))); replace HO566 := am (Kd.R_elder' (kr HO566) (Kd.R_base ho26) hb); replace HO569 := am (Kd.R_elder' (kr HO569) (Kd.R_base ho26) hb); replace HB := bs HB hb; clear hb ho26; obtain ⟨Ao27, co27, eo27⟩ := Kd.N_slice HO572.out; subst eo27; obtain ⟨Ao28, co28, eo28⟩ := Kd.R_slice HO577.out; subst eo28) | ((with_reducible refine gc (f := 59) rfl ?_); refine goesM (some 34) Tryz.func59 #[.int .i64 (l0.length : Int), .slice Ao27 y570.length co27, .slice Ao28 y575.length co28] ?_; (with_reducible refine (size_sum.calls k (l0.length : Int) _ _ y570 _ _ y575 t578 _ ?s1 ?s2 ?s3 ?s4 ?s5 A10.out).mono ?_); (case s1 => exact gb HG0 HB); (case s2 => repeat (first | exact (Kd.N_reads' HO572.out).2.2 | (with_reducible refine Kd.C_alloc ?_ _) | (with_reducible refine Kd.C_drewN ?_ _) | (with_reducible refine Kd.C_drew ?_))); (case s3 => exact (Kd.N_reads' HO572.out).2.1); (case s4 => exact cR HO577); (case s5 => exact (Kd.R_reads' HO577.out).2.1); rintro e w29 ⟨v579, rfl, ho0, hb⟩; refine ⟨_, rfl, ?_⟩; replace HO1 := am (Kd.V_elder' (kv HO1) (Kd.R_base ho0) hb); replace HO2 := am (Kd.V_elder' (kv HO2) (Kd.R_base ho0) hb); replace HO559 := am (Kd.N_elder' (by (with_reducible repeat (first | apply Kd.N_alloc | apply Kd.N_drewN | apply Kd.N_drew)); exact HO559.out) (Kd.R_base ho0) hb); replace HO572 := am (Kd.N_elder' (by (with_reducible repeat (first | apply Kd.N_alloc | apply Kd.N_drewN | apply Kd.N_drew)); exact HO572.out) (Kd.R_base ho0) hb); have HO580 := am (Kd.R_lower (Kd.R_new' (Kd.R_new' (Kd.R_new' (Kd.R_newM (M := fun k_ => (w.heap.size ≤ k_)) ho0 (below_size (bl HB)) (fun k_ h_ => h_)) (Kd.R_lt (kr HO566))) (Kd.R_lt (kr HO569))) (Kd.R_lt (kr HO577))) (below_size (bl HB))); replace HO566 := am (Kd.R_elder' (kr HO566) (Kd.R_base ho0) hb); replace HO569 := am (Kd.R_elder' (kr HO569) (Kd.R_base ho0) hb); replace HO577 := am (Kd.R_elder' (kr HO577) (Kd.R_base ho0) hb); replace HB := bs HB hb; (try clear hb); (try clear ho0); obtain ⟨Ao30, co30, eo30⟩ := Kd.R_slice HO569.out; subst eo30; obtain ⟨Ao31, co31, eo31⟩ := Kd.R_slice HO580.out; subst eo31) | ((with_reducible refine gc (f := 75) rfl ?_); refine goesM (some 35) Tryz.func75 #[.slice A0 l0.length c0, .slice Ao30 t567.length co30, .slice Ao31 t578.length co31] ?_; (with_reducible refine (size_floor.calls k _ _ l0 _ _ t567 _ _ t578 t581 _ ?s1 ?s2 ?s3 ?s4 ?s5 ?s6 ?s7 A11.out).mono ?_); (case s1 => exact gb HG0 HB); (case s2 => exact cb HR0 HB); (case s3 => exact HC0.out); (case s4 => exact cR HO569); (case s5 => exact (Kd.R_reads' HO569.out).2.1); (case s6 => exact cR HO580); (case s7 => exact (Kd.R_reads' HO580.out).2.1); rintro e w32 ⟨rfl, hb⟩; refine ⟨_, rfl, ?_⟩; replace HO1 := am (Kd.V_below (kv HO1) hb); replace HO2 := am (Kd.V_below (kv HO2) hb); replace HO559 := am (Kd.N_below (by (with_reducible repeat (first | apply Kd.N_alloc | apply Kd.N_drewN | apply Kd.N_drew)); exact HO559.out) hb); replace HO566 := rb HO566 hb; replace HO569 := rb HO569 hb; replace HO572 := am (Kd.N_below (by (with_reducible repeat (first | apply Kd.N_alloc | apply Kd.N_drewN | apply Kd.N_drew)); exact HO572.out) hb); replace HO577 := rb HO577 hb; replace HO580 := rb HO580 hb; replace HB := bs HB hb; (try clear hb)))
  go_ret2
  exact ⟨rl, bl HB⟩
 ·rw [if_neg c5] at H
  have c5b0 := beq_eq_false_iff_ne.mpr c5
  have c5b1 := bne_iff_ne.mpr c5
  simp only [Option.some.injEq, Prod.mk.injEq] at H
  obtain ⟨rfl, rfl⟩ := H
  go_enter Tryz.func31, Tryz.ntmps31
  go_wp2_with (first | ((with_reducible refine gc (f := 74) rfl ?_); refine goesM (some 13) Tryz.func74 #[.slice A0 l0.length c0, .slice A1 l1.length c1, .slice A2 l2.length c2] ?_; (with_reducible refine (size_checkQuotient.calls k _ _ l0 (fun k_ => ((P1_ k_ ∨ P2_ k_) ∨ w.heap.size ≤ k_)) _ _ l1 (fun k_ => ((P1_ k_ ∨ P2_ k_) ∨ w.heap.size ≤ k_)) _ _ l2 t556 _ ?s1 ?s2 ?s3 ?s4 ?s5 A4.out).mono ?_); (case s1 => exact gb HG0 HB); (case s2 => exact cr HR0); (case s3 => exact HC0.out); (case s4 => exact HO1.out); (case s5 => exact HO2.out); rintro e w33 ⟨rfl, hb⟩; refine ⟨_, rfl, ?_⟩; replace HO1 := am (Kd.V_below (kv HO1) hb); replace HO2 := am (Kd.V_below (kv HO2) hb); replace HB := bs HB hb; (try clear hb)))
  go_ret2
  exact ⟨rl, bl HB⟩
end Go.Proofs.YtailoobjgbldgaaGreatDoor.P
end
