/- Part 8 of the proof: functions' contracts and what they lean on. -/
import Derived.Test.YtailoobjgbldgaaGreatDoorM7
import Derived.LoopIn
import Derived.LoopNIn
import Derived.OwnWalkIn
import Derived.RangeFuncBound
import Derived.RangeFuncBox
import Derived.RangeFuncCalls
import Derived.RangeFuncLeaves
import Derived.RangeFuncNested
import Derived.Shelf.Abstract
import Derived.Shelf.RegionOpen
import Derived.TacticsInMore
section
namespace Go.Proofs.YtailoobjgbldgaaGreatDoor.P
open Go Go.RowKit Go.Shelf Go.Proofs.YtailoobjgbldgaaGreatDoorW.PrintWords Go.Proofs.YtailoobjgbldgaaGreatDoorW.PrintLast Go.Proofs.YtailoobjgbldgaaGreatDoorW.PrintMore
attribute [local go_sem] Oper.semAt_some
theorem plain_of_C {α : Type} {enc : α → Value} {d : α} {h1 : ∀ x, (enc x).oneCell' = true} {w : World} {A : Option Addr} {xs : List α} (h : (Kd.scalar enc h1).C w A xs.length xs) (hp : 0 < xs.length) :
    ∃ b o, A = some ⟨b, o, none⟩ ∧ b < w.heap.size ∧ ∀ j (hj : j < xs.length), w.cell? ⟨b, o + j, none⟩ = some (enc xs[j]) := by
  obtain ⟨_, _, hR⟩ := Kd.reads_of_C (enc := enc) (d := d) (h1 := h1) h
  obtain ⟨⟨b, o, sp⟩, rfl, hc⟩ := hR hp
  have h0 := hc 0 hp
  have hb : b < w.heap.size ∧ sp = none := by
    simp only [Addr.add, if_pos, World.cell?] at h0
    cases he : w.heap[b]? with
    | none => rw [he] at h0; cases h0
    | some ob =>
      refine ⟨(Array.getElem?_eq_some_iff.1 he).1, ?_⟩
      rw [he] at h0
      cases sp with
      | none => rfl
      | some s => cases ob <;> simp at h0
  obtain ⟨hb, rfl⟩ := hb
  refine ⟨b, o, rfl, hb, fun j hj => ?_⟩
  have := hc j hj
  have ha : (⟨b, o, none⟩ : Addr).add j = ⟨b, o + j, none⟩ := by unfold Addr.add; split <;> simp_all
  rw [ha] at this
  rw [this, List.getD_eq_getElem?_getD, List.getElem?_eq_getElem hj]
  rfl
def KpT (n₀ Bt : Nat) (W W' : World) : Prop := Below n₀ W W' ∧ W'.heap[Bt]? = W.heap[Bt]?
theorem KpT.refl (n₀ Bt : Nat) (W : World) : KpT n₀ Bt W W := ⟨Below.refl _ _, rfl⟩
theorem KpT.trans {n₀ Bt : Nat} {A B C : World} (h : KpT n₀ Bt A B) (k : KpT n₀ Bt B C) : KpT n₀ Bt A C := ⟨h.1.trans k.1, k.2.trans h.2⟩
theorem KpT.cell {n₀ Bt j : Nat} {W W' : World} (h : KpT n₀ Bt W W') : W'.cell? ⟨Bt, j, none⟩ = W.cell? ⟨Bt, j, none⟩ := by unfold World.cell?; rw [h.2]
abbrev Term (Q : Int → ByteArray → Prop) := { x : Int × ByteArray // Q x.1 x.2 }
variable {Q : Int → ByteArray → Prop}
set_option maxRecDepth 100000 in
set_option maxHeartbeats 2000000 in
theorem all1_in (F : Fence) (n : Nat) (h161 : F.fn 161) (hro : F.round = none) (hn : 1 ≤ n) (l Bt n₀ b o c b2 o2 len2 c2 : Nat) (zs : List (Term Q)) (hreach : zs.length ≤ 1000000) (hl2 : zs.length ≤ len2) (hb : b < n₀) (hb2 : b2 < n₀) (J Jx : List (Term Q) → World → Prop)
    (hY : ∀ pre x W, J pre W → pre.length < zs.length → YieldAt F (n - 1) Tryz.prog l #[.int .i64 x.1.1, .string x.1.2] W fun e W' =>
      (e = .returned (.bool true) ∧ J (pre ++ [x]) W' ∧ KpT n₀ Bt W W') ∨ (e = .returned (.bool false) ∧ Jx (pre ++ [x]) W'))
    (W : World) (hB0 : W.cell? ⟨Bt, 0, none⟩ = some (.slice (some ⟨b, o, none⟩) zs.length c)) (hB1 : W.cell? ⟨Bt, 1, none⟩ = some (.slice (some ⟨b2, o2, none⟩) len2 c2))
    (hc : ∀ j (hj : j < zs.length), W.cell? ⟨b, o + j, none⟩ = some (.int .i64 zs[j].1.1)) (hc2 : ∀ j (hj : j < zs.length), W.cell? ⟨b2, o2 + j, none⟩ = some (.string zs[j].1.2)) (h0 : J [] W) :
    CallsIn F n Tryz.prog 161 #[.func (.yield l) #[] #[], .pointer (some ⟨Bt, 0, none⟩)] W fun e W' => (∃ v, e = .returned v) ∧
      ((∃ ys, ys = zs ∧ J ys W') ∨ (∃ pre, (∃ k, k ≤ zs.length ∧ pre = zs.take k) ∧ Jx pre W')) := by
  refine callsIn_of_wp Tryz.func161 rfl h161 ?_ hro
  simp only [Tryz.ntmps161, List.size_toArray, List.length_cons, List.length_nil, Nat.reduceAdd, Nat.reduceSub, Array.replicate_succ, Array.replicate_zero, List.push_toArray, List.append_toArray, List.nil_append, List.cons_append]
  gi_wp2
  gi_loopw [8] (fun i wr => ∃ k : Nat, k ≤ zs.length ∧ i = .int .i64 k ∧ J (zs.take k) wr ∧ KpT n₀ Bt W wr)
    (fun i _ => zs.length - (intOf i).toNat)
  case atStart => exact ⟨0, Nat.zero_le _, rfl, by simpa using h0, KpT.refl _ _ _⟩
  case round =>
    obtain ⟨k, hk, rfl, hJs, hnx⟩ := hrel
    by_cases hlt : k < zs.length
    · obtain ⟨x, hx⟩ : ∃ x, zs[k] = x := ⟨_, rfl⟩
      have hcx : wr.cell? ⟨b, o + k, none⟩ = some (.int .i64 x.1.1) := by rw [← hx]; exact (hnx.1.cell (p := ⟨b, o + k, none⟩) hb).trans (hc k hlt)
      have hcy : wr.cell? ⟨b2, o2 + k, none⟩ = some (.string x.1.2) := by rw [← hx]; exact (hnx.1.cell (p := ⟨b2, o2 + k, none⟩) hb2).trans (hc2 k hlt)
      have hB1' : wr.cell? ⟨Bt, 1, none⟩ = some (.slice (some ⟨b2, o2, none⟩) len2 c2) := hnx.cell.trans hB1
      obtain ⟨fn, tmps, assign, body, hy, hR⟩ := hY _ x wr hJs (by rw [List.length_take]; omega)
      have hl2' : k < len2 := by omega
      have ht : zs.take k ++ [x] = zs.take (k + 1) := by rw [← hx, List.take_succ_eq_append_getElem hlt]
      gi_wp2
      refine hR.mono ?_
      rintro e W3 (⟨rfl, hJ3, hk3⟩ | ⟨rfl, hJx3⟩)
      · gi_wp2
        go_roundw
        case rel => exact ⟨k + 1, by omega, by simp, by rw [← ht]; exact hJ3, hnx.trans hk3⟩
        case measure => simp [intOf]; omega
      · gi_wp2
        refine bodyPost_ret (results_none rfl _ _ _) rfl ?_
        exact ⟨⟨_, rfl⟩, .inr ⟨_, ⟨k + 1, by omega, ht⟩, hJx3⟩⟩
    · obtain rfl : k = zs.length := by omega
      gi_wp2
      go_end0
      exact ⟨⟨_, rfl⟩, .inl ⟨_, rfl, by simpa using hJs⟩⟩
set_option maxRecDepth 100000 in
set_option maxHeartbeats 1000000 in
theorem all1_nil_in (F : Fence) (n : Nat) (h161 : F.fn 161) (hro : F.round = none) (l Bt : Nat) (A : Option Addr) (c : Nat) (J : List (Term Q) → World → Prop) (W : World) (hB0 : W.cell? ⟨Bt, 0, none⟩ = some (.slice A 0 c)) (h0 : J [] W) :
    CallsIn F n Tryz.prog 161 #[.func (.yield l) #[] #[], .pointer (some ⟨Bt, 0, none⟩)] W fun e W' => (∃ v, e = .returned v) ∧ J [] W' := by
  refine callsIn_of_wp Tryz.func161 rfl h161 ?_ hro
  simp only [Tryz.ntmps161, List.size_toArray, List.length_cons, List.length_nil, Nat.reduceAdd, Nat.reduceSub, Array.replicate_succ, Array.replicate_zero, List.push_toArray, List.append_toArray, List.nil_append, List.cons_append]
  gi_wp2
  gi_loopw [8] (fun i wr => i = .int .i64 0 ∧ J [] wr) (fun _ _ => 0)
  case atStart => exact ⟨rfl, h0⟩
  case round =>
    obtain ⟨rfl, hJs⟩ := hrel
    gi_wp2
    go_end0
    exact ⟨⟨_, rfl⟩, hJs⟩
set_option maxHeartbeats 1000000 in
theorem all_in (F : Fence) (n : Nat) (h135 : F.fn 135) (hro : F.round = none) (s0 s1 s2 : Value) (w : World) :
    CallsIn F n Tryz.prog 135 #[.agg #[s0, s1, s2]] w fun e w' => e = .returned (.func (.func 161) #[] #[.pointer (some ⟨w.heap.size, 0, none⟩)]) ∧ w' = w.alloc (.cells #[s0, s1, s2] 103 (0, 0)) := by
  refine callsIn_of_wp Tryz.func135 rfl h135 ?_ hro
  simp only [Tryz.ntmps135, List.size_toArray, List.length_cons, List.length_nil, Nat.reduceAdd, Nat.reduceSub, Array.replicate_succ, Array.replicate_zero, List.push_toArray, List.append_toArray, List.nil_append, List.cons_append]
  gi_wp2
  go_ret
  exact ⟨rfl, rfl⟩
theorem all_stops (F : Fence) (n : Nat) (h161 : F.fn 161) (hro : F.round = none) (hn : 1 ≤ n) (Bt n₀ : Nat) (A A2 : Option Addr) (c c2 : Nat) (l0 : List Int) (l1 : List ByteArray) (zs : List (Term Q)) (hzs : zs.map (·.1) = l0.zip l1) (hl : l0.length ≤ l1.length) (hreach : l0.length ≤ 1000000) (w w0 : World) (hw0 : w0.heap.size ≤ n₀) (hn₀ : n₀ ≤ w.heap.size) (hwb : Below w0.heap.size w0 w) (hBt : Bt < w.heap.size)
    (hB0 : w.cell? ⟨Bt, 0, none⟩ = some (.slice A l0.length c)) (hB1 : w.cell? ⟨Bt, 1, none⟩ = some (.slice A2 l1.length c2))
    (hr0 : Kd.C (Kd.int .i64) w0 A l0.length l0) (hr1 : Kd.C Kd.string w0 A2 l1.length l1) :
    SeqStopsK F n Tryz.prog 161 #[.pointer (some ⟨Bt, 0, none⟩)] (fun x : Term Q => #[Value.int .i64 x.1.1, Value.string x.1.2]) (KpT w0.heap.size Bt) (fun ys => ys = zs) (fun pre => ∃ k, k ≤ zs.length ∧ pre = zs.take k) zs.length w := fun l J Jx W hW _ _ hY h0 => by
  have hlen : zs.length = l0.length := by have := congrArg List.length hzs; simp at this; omega
  have hB0' := (hW.cell (p := ⟨Bt, 0, none⟩) hBt).trans hB0
  have hB1' := (hW.cell (p := ⟨Bt, 1, none⟩) hBt).trans hB1
  have hall : Below w0.heap.size w0 W := hwb.trans (hW.mono (Nat.le_trans hw0 hn₀))
  rcases Nat.eq_zero_or_pos l0.length with hz | hp
  · rw [hz] at hB0' hlen
    obtain rfl := List.length_eq_zero_iff.1 hlen
    exact (all1_nil_in F n h161 hro l Bt A c J W hB0' h0).mono fun e W' ⟨he, hj⟩ => ⟨he, .inl ⟨_, rfl, hj⟩⟩
  · obtain ⟨b, o, rfl, hb, hc⟩ := plain_of_C (d := 0) hr0 hp
    obtain ⟨b2, o2, rfl, hb2, hc2⟩ := plain_of_C (d := ByteArray.empty) hr1 (by omega)
    have hz : ∀ j (hj : j < zs.length), zs[j].1 = (l0[j]'(by omega), l1[j]'(by omega)) := fun j hj => by
      have : (zs.map (·.1))[j]'(by simpa using hj) = (l0.zip l1)[j]'(by simp; omega) := by simp only [hzs]
      simpa using this
    rw [← hlen] at hB0'
    refine all1_in F n h161 hro hn l Bt w0.heap.size b o c b2 o2 l1.length c2 zs (by omega) (by omega) hb hb2 J Jx hY W hB0' hB1' (fun j hj => ?_) (fun j hj => ?_) h0
    · rw [hz j hj]; exact (hall.cell (p := ⟨b, o + j, none⟩) hb).trans (hc j (by omega))
    · rw [hz j hj]; exact (hall.cell (p := ⟨b2, o2 + j, none⟩) hb2).trans (hc2 j (by omega))
end Go.Proofs.YtailoobjgbldgaaGreatDoor.P
end
section
namespace Go.Proofs.YtailoobjgbldgaaGreatDoor.P
open Go Go.RowKit Go.Shelf Go.Proofs.YtailoobjgbldgaaGreatDoorW.PrintWords Go.Proofs.YtailoobjgbldgaaGreatDoorW.PrintLast Go.Proofs.YtailoobjgbldgaaGreatDoorW.PrintMore
variable {P : Program} {ops : Array Oper} {Q : Exit → Act → World → Prop} {md : Region.Mode}
theorem uponIn_of_upon {l n : Nat} {o : Oper} {a : Act} {K : Act → World → Prop} (r : Result Next) (h : Oper.upon P o a K Q r) : Oper.uponIn (Fence.wide.inRound l) n P o a K Q r := by
  cases r with
  | ok x w' =>
    cases x with
    | enter f args => exact And.intro (fun e => by simp [Fence.wide, Fence.inRound] at e) (CallsIn.inRound l (callsIn_wide.2 h))
    | row row args =>
      refine And.intro (fun e => by simp [Fence.wide, Fence.inRound] at e) (fun c cs _ => ?_)
      obtain ⟨v, w', r, s⟩ := (show Rows P row args _ _ from h) c cs
      exact ⟨v, w', r, stepsIn_wide.2 s⟩
    | _ => first | exact h | exact False.elim h
  | halt x w' => cases x <;> exact h
theorem opIn_of_op {l n : Nat} {o : Oper} {a : Act} {w : World} {K : Act → World → Prop} (hd : ∀ c, o.op ≠ .defer c) (h : o.wp P a w K Q) : o.wpIn (Fence.wide.inRound l) n P a w K Q := by
  refine ⟨fun _ _ => trivial, ?_⟩
  rw [Oper.semAt_eq _ _ _ hd]
  exact uponIn_of_upon _ h
theorem anyIn_of_any {l n : Nat} (hd : ∀ (i : Nat) (o : Oper), ops[i]? = some o → ∀ c, o.op ≠ .defer c) (hQ : ¬ LetsOut Q) : ∀ fuel listed a w, wpAny P md ops Q fuel listed a w → wpAnyIn (Fence.wide.inRound l) n P md ops Q fuel listed a w
  | 0, _, _, _, h => h
  | fuel + 1, listed, a, w, h => by
    refine ⟨h.1, fun i hi => ?_⟩
    have h2 := h.2 i hi
    unfold wpOp at h2
    unfold wpOpIn
    split
    · rename_i he
      rw [he] at h2
      exact anyIn_of_any hd hQ fuel _ _ _ h2
    · rename_i o he
      rw [he] at h2
      simp only at h2
      split
      · rename_i hw
        rw [if_pos hw] at h2
        rcases h2 with h2 | h2
        · exact Oper.wpIn_mono (fun a w => anyIn_of_any hd hQ fuel _ a w) (opIn_of_op (hd i o he) h2)
        · exact absurd h2.2 hQ
      · rename_i hw
        rw [if_neg hw] at h2
        exact ⟨fun _ _ => trivial, anyIn_of_any hd hQ fuel _ _ _ h2⟩
def noDefer (ops : Array Oper) : Bool := ops.all fun o => match o.op with | .defer _ => false | _ => true
theorem noDefer_spec (h : noDefer ops = true) : ∀ (i : Nat) (o : Oper), ops[i]? = some o → ∀ c, o.op ≠ .defer c := by
  intro i o hi c hc
  have := Array.all_eq_true_iff_forall_mem.1 h o (Array.mem_of_getElem? hi)
  rw [hc] at this
  cases this
theorem start_in {S : World → Prop} {ds : List Nat} {id l n N : Nat} {a : Act} {w : World} (l0 : Array Bool) (hm : P.follows .mixedOrders = true) (hd : noDefer ops = true) (hQ : ¬ LetsOut Q) (hn : ops.size = N) (hl : Array.replicate N false = l0) (hS : S w.drew)
    (h : S w.drew → wpAnyLast P .any ops Q S ds N l0 a w.drew) : (Code.region id ops true).wpIn (Fence.wide.inRound l) n P Q a w := by
  subst hn
  subst hl
  exact wpIn_region_any hm (anyIn_of_any (noDefer_spec hd) hQ _ _ _ _ (wpAny_of_last _ _ _ _ (h hS)))
end Go.Proofs.YtailoobjgbldgaaGreatDoor.P
end
section
namespace Go.Proofs.YtailoobjgbldgaaGreatDoor.Q
open Go.Proofs.YtailoobjgbldgaaGreatDoor.P
open Go.RowKit Go.Proofs.YtailoobjgbldgaaGreatDoorW.PrintWords Go.Proofs.YtailoobjgbldgaaGreatDoorW.PrintLast Go.Proofs.YtailoobjgbldgaaGreatDoorW.PrintMore
attribute [local go_sem] max2_int min2_int max_two min_two max_three min_three max_four min_four   
set_option linter.unusedVariables false
set_option linter.unusedSimpArgs false
def errW : Option Int → Value
  | none => .nilIface
  | some c => .iface 0 (.int .i64 c)
theorem errW_none : errW none = .nilIface := rfl
theorem errW_some (c : Int) : errW (some c) = .iface 0 (.int .i64 c) := rfl
end Go.Proofs.YtailoobjgbldgaaGreatDoor.Q
end
section
namespace Go.Proofs.YtailoobjgbldgaaGreatDoor.Q
open Go.Proofs.YtailoobjgbldgaaGreatDoor.P
open Go.RowKit Go.Proofs.YtailoobjgbldgaaGreatDoorW.PrintWords Go.Proofs.YtailoobjgbldgaaGreatDoorW.PrintLast Go.Proofs.YtailoobjgbldgaaGreatDoorW.PrintMore
attribute [local go_sem] max2_int min2_int max_two min_two max_three min_three max_four min_four   
set_option linter.unusedVariables false
set_option linter.unusedSimpArgs false
def size_fast.l0 : Nat → Int → Int → Int → Int → Option (Int × Bool)
  | 0, _, _, _, _ => none
  | k + 1, x5, x6, x7, x21 => if x21 < 26 then ((goMul64.f x5 x5).bind fun bt102 => ((goMul64.f x6 x6).bind fun bt104 => (if (Go.bits .or .u64 (IntKind.u64.wrap (bt102.1 * 4)) (bt102.2 / 4611686018427387904)) ≥ 9223372036854775808 then (size_fast.l0 k ((Go.bits .or .u64 (IntKind.u64.wrap (bt102.1 * 4)) (bt102.2 / 4611686018427387904)) / 2) (IntKind.u64.wrap (((IntKind.u64.wrap ((Go.bits .or .u64 (IntKind.u64.wrap (bt104.1 * 4)) (bt104.2 / 4611686018427387904)) + 1)) / 2) + 1)) (wrap64 ((wrap64 (x7 * 2)) + 1)) (wrap64 (x21 + 1))) else (if (IntKind.u64.wrap ((Go.bits .or .u64 (IntKind.u64.wrap (bt104.1 * 4)) (bt104.2 / 4611686018427387904)) + 1)) ≥ 9223372036854775808 then (some (0, false)) else (size_fast.l0 k (Go.bits .or .u64 (IntKind.u64.wrap (bt102.1 * 4)) (bt102.2 / 4611686018427387904)) (IntKind.u64.wrap ((Go.bits .or .u64 (IntKind.u64.wrap (bt104.1 * 4)) (bt104.2 / 4611686018427387904)) + 1)) (wrap64 (x7 * 2)) (wrap64 (x21 + 1))))))) else (some (x7, true))
def size_fast.f (k : Nat) (a0 : Int) : Option (Int × Bool) := (goLen.f (IntKind.u64.wrap (a0))).bind fun t101 => (if 0 ≤ (wrap64 (62 - (wrap64 (t101 - 1)))) then (size_fast.l0 k (shl .u64 (IntKind.u64.wrap (a0)) (wrap64 (62 - (wrap64 (t101 - 1))))) (shl .u64 (IntKind.u64.wrap (a0)) (wrap64 (62 - (wrap64 (t101 - 1))))) (wrap64 (t101 - 1)) 0) else (none))
set_option maxHeartbeats 8000000 in
set_option maxRecDepth 100000 in
theorem size_fast.calls (k : Nat) (a0 : Int) (r1 : Int) (r2 : Bool) (w : World) (h : size_fast.f k a0 = some (r1, r2)) :
    Calls Tryz.prog 160 #[.int .i64 a0] w fun e w' => e = .returned (.tuple #[.int .i64 r1, .bool r2]) ∧ Drawn0 w w' := by
  have H : ((goLen.f (IntKind.u64.wrap (a0))).bind fun t101 => (if 0 ≤ (wrap64 (62 - (wrap64 (t101 - 1)))) then (size_fast.l0 k (shl .u64 (IntKind.u64.wrap (a0)) (wrap64 (62 - (wrap64 (t101 - 1))))) (shl .u64 (IntKind.u64.wrap (a0)) (wrap64 (62 - (wrap64 (t101 - 1))))) (wrap64 (t101 - 1)) 0) else (none))) = some (r1, r2) := h
  clear h
  replace H := Option.bind_eq_some_iff.mp H
  obtain ⟨t101, A20, H⟩ := H
  replace H : (if 0 ≤ (wrap64 (62 - (wrap64 (t101 - 1)))) then (size_fast.l0 k (shl .u64 (IntKind.u64.wrap (a0)) (wrap64 (62 - (wrap64 (t101 - 1))))) (shl .u64 (IntKind.u64.wrap (a0)) (wrap64 (62 - (wrap64 (t101 - 1))))) (wrap64 (t101 - 1)) 0) else (none)) = some (r1, r2) := H
  have A2 := Aside0.mk A20
  clear A20
  obtain ⟨ji3, hji3⟩ : ∃ j_ : Int, (wrap64 (62 - (wrap64 (t101 - 1)))) = j_ := ⟨_, rfl⟩
  replace H : (if 0 ≤ (ji3) then (size_fast.l0 k (shl .u64 (IntKind.u64.wrap (a0)) (ji3)) (shl .u64 (IntKind.u64.wrap (a0)) (ji3)) (wrap64 (t101 - 1)) 0) else (none)) = some (r1, r2) := by first | (rw [hji3] at H; exact H) | (simp only [hji3] at H ⊢; exact H)
  (try rw [hji3] at A2)
  have hji3w : (IntKind.i64.wrap (62 - (wrap64 (t101 - 1)))) = ji3 := (i64_w _).trans hji3
  by_cases c4 : 0 ≤ (ji3)
  · rw [if_pos c4] at H
    have c4b0 := eq_true c4
    have c4b1 : decide (0 ≤ (ji3)) = true := decide_eq_true c4
    clear c4
    obtain ⟨ji5, hji5⟩ : ∃ j_ : Int, (shl .u64 (IntKind.u64.wrap (a0)) (ji3)) = j_ := ⟨_, rfl⟩
    replace H : (size_fast.l0 k ji5 ji5 (wrap64 (t101 - 1)) 0) = some (r1, r2) := by first | (rw [hji5] at H; exact H) | (simp only [hji5] at H ⊢; exact H)
    (try rw [hji5] at A2)
    have hji5_ : (IntKind.u64.wrap ((IntKind.u64.wrap (a0)) * 2 ^ min (ji3).toNat 64)) = ji5 := hji5
    have hji5z : (ji3) ≤ 64 → (IntKind.u64.wrap ((IntKind.u64.wrap (a0)) * 2 ^ (ji3).toNat)) = ji5 := shl_small hji5
    have H' := Aside0.mk H
    clear H
    go_enter Tryz.func160, Tryz.ntmps160
    go_wp2_with (first | ((with_reducible refine gate_callee (f := 181) rfl ?_); refine goesL_ (some 12) rfl rfl Tryz.func181 (by kernel_rfl) rfl #[.int .u64 (IntKind.u64.wrap (a0))] rfl (by (try simp only [List.map_toArray, List.map_cons, List.map_nil]); first | done | rfl | (simp only [List.length_drop, List.length_take]; rfl)) ?_; (with_reducible refine (goLen.calls (IntKind.u64.wrap (a0)) t101 _ A2.out).mono ?_); rintro e w' ⟨rfl, ⟨nd, rfl⟩⟩; refine ⟨_, rfl, ?_⟩))
    go_loopg [5, 6, 7, 21] k (fun kq v5 v6 v7 v21 w' => ∃ (x5_1 : Int) (x6_1 : Int) (x7_1 : Int) (x21_1 : Int), v5 = .int .u64 x5_1 ∧ v6 = .int .u64 x6_1 ∧ v7 = .int .i64 x7_1 ∧ v21 = .int .i64 x21_1 ∧ Aside0 (size_fast.l0 kq x5_1 x6_1 x7_1 x21_1 = some (r1, r2)) ∧ Aside0 (kq ≤ k) ∧ Drawn0 w w')
    case atStart => exact ⟨(ji5), (ji5), (wrap64 (t101 - 1)), (0), (by first | rfl | (simp; done) | (simp only [← hji5] <;> (first | rfl | simp)) | (simp [*]; done)), (by first | rfl | (simp; done) | (simp only [← hji5] <;> (first | rfl | simp)) | (simp [*]; done)), (by first | rfl | (simp; done) | (simp [*]; done)), (by first | rfl | (simp; done) | (simp [*]; done)), H', ⟨Nat.le_refl _⟩, by repeat (first | exact Drawn0.refl _ | apply Drawn0.step)⟩
    case round =>
      clear H'
      (try clear hji3w); (try clear hji3); (try clear hji5w); (try clear hji5)
      try clear c1
      try clear p2
      try clear c4
      try clear c4b0
      try clear c4b1
      obtain ⟨x5_1, x6_1, x7_1, x21_1, rfl, rfl, rfl, rfl, HA, HK1, ⟨m1, rfl⟩⟩ := hrel
      cases gk with
      | zero => exact absurd HA.out (by simp [size_fast.l0])
      | succ k1 =>
        have H := HA.out
        clear HA
        simp only [size_fast.l0] at H
        by_cases c6 : x21_1 < 26
        · rw [if_pos c6] at H
          have c6b0 : decide (x21_1 < 26) = true := decide_eq_true c6
          clear c6
          replace H := Option.bind_eq_some_iff.mp H
          obtain ⟨⟨t102, t103⟩, A70, H⟩ := H
          replace H : ((goMul64.f x6_1 x6_1).bind fun bt104 => (if (Go.bits .or .u64 (IntKind.u64.wrap (t102 * 4)) (t103 / 4611686018427387904)) ≥ 9223372036854775808 then (size_fast.l0 k1 ((Go.bits .or .u64 (IntKind.u64.wrap (t102 * 4)) (t103 / 4611686018427387904)) / 2) (IntKind.u64.wrap (((IntKind.u64.wrap ((Go.bits .or .u64 (IntKind.u64.wrap (bt104.1 * 4)) (bt104.2 / 4611686018427387904)) + 1)) / 2) + 1)) (wrap64 ((wrap64 (x7_1 * 2)) + 1)) (wrap64 (x21_1 + 1))) else (if (IntKind.u64.wrap ((Go.bits .or .u64 (IntKind.u64.wrap (bt104.1 * 4)) (bt104.2 / 4611686018427387904)) + 1)) ≥ 9223372036854775808 then (some (0, false)) else (size_fast.l0 k1 (Go.bits .or .u64 (IntKind.u64.wrap (t102 * 4)) (t103 / 4611686018427387904)) (IntKind.u64.wrap ((Go.bits .or .u64 (IntKind.u64.wrap (bt104.1 * 4)) (bt104.2 / 4611686018427387904)) + 1)) (wrap64 (x7_1 * 2)) (wrap64 (x21_1 + 1)))))) = some (r1, r2) := H
          have A7 := Aside0.mk A70
          clear A70
          replace H := Option.bind_eq_some_iff.mp H
          obtain ⟨⟨t104, t105⟩, A80, H⟩ := H
          replace H : (if (Go.bits .or .u64 (IntKind.u64.wrap (t102 * 4)) (t103 / 4611686018427387904)) ≥ 9223372036854775808 then (size_fast.l0 k1 ((Go.bits .or .u64 (IntKind.u64.wrap (t102 * 4)) (t103 / 4611686018427387904)) / 2) (IntKind.u64.wrap (((IntKind.u64.wrap ((Go.bits .or .u64 (IntKind.u64.wrap (t104 * 4)) (t105 / 4611686018427387904)) + 1)) / 2) + 1)) (wrap64 ((wrap64 (x7_1 * 2)) + 1)) (wrap64 (x21_1 + 1))) else (if (IntKind.u64.wrap ((Go.bits .or .u64 (IntKind.u64.wrap (t104 * 4)) (t105 / 4611686018427387904)) + 1)) ≥ 9223372036854775808 then (some (0, false)) else (size_fast.l0 k1 (Go.bits .or .u64 (IntKind.u64.wrap (t102 * 4)) (t103 / 4611686018427387904)) (IntKind.u64.wrap ((Go.bits .or .u64 (IntKind.u64.wrap (t104 * 4)) (t105 / 4611686018427387904)) + 1)) (wrap64 (x7_1 * 2)) (wrap64 (x21_1 + 1))))) = some (r1, r2) := H
          have A8 := Aside0.mk A80
          clear A80
          by_cases c9 : (Go.bits .or .u64 (IntKind.u64.wrap (t102 * 4)) (t103 / 4611686018427387904)) ≥ 9223372036854775808
          · rw [if_pos c9] at H
            have c9b0 : decide (9223372036854775808 ≤ (Go.bits .or .u64 (IntKind.u64.wrap (t102 * 4)) (t103 / 4611686018427387904))) = true := decide_eq_true c9
            clear c9
            have H' := Aside0.mk H
            clear H
            go_wp2_with (first | ((with_reducible refine gate_callee (f := 182) rfl ?_); refine goesL_ (some 26) rfl rfl Tryz.func182 (by kernel_rfl) rfl #[.int .u64 x5_1, .int .u64 x5_1] rfl (by (try simp only [List.map_toArray, List.map_cons, List.map_nil]); first | done | rfl | (simp only [List.length_drop, List.length_take]; rfl)) ?_; (with_reducible refine (goMul64.calls x5_1 x5_1 t102 t103 _ A7.out).mono ?_); rintro e w' ⟨rfl, ⟨nd, rfl⟩⟩; refine ⟨_, rfl, ?_⟩) | ((with_reducible refine gate_callee (f := 182) rfl ?_); refine goesL_ (some 37) rfl rfl Tryz.func182 (by kernel_rfl) rfl #[.int .u64 x6_1, .int .u64 x6_1] rfl (by (try simp only [List.map_toArray, List.map_cons, List.map_nil]); first | done | rfl | (simp only [List.length_drop, List.length_take]; rfl)) ?_; (with_reducible refine (goMul64.calls x6_1 x6_1 t104 t105 _ A8.out).mono ?_); rintro e w' ⟨rfl, ⟨nd, rfl⟩⟩; refine ⟨_, rfl, ?_⟩))
            go_roundg k1
            case measure => have := HK1.out; omega
            case rel => exact ⟨((Go.bits .or .u64 (IntKind.u64.wrap (t102 * 4)) (t103 / 4611686018427387904)) / 2), (IntKind.u64.wrap (((IntKind.u64.wrap ((Go.bits .or .u64 (IntKind.u64.wrap (t104 * 4)) (t105 / 4611686018427387904)) + 1)) / 2) + 1)), (wrap64 ((wrap64 (x7_1 * 2)) + 1)), (wrap64 (x21_1 + 1)), (by first | rfl | (simp; done) | (simp [*]; done)), (by first | rfl | (simp; done) | (simp [*]; done)), (by first | rfl | (simp; done) | (simp [*]; done)), (by first | rfl | (simp; done) | (simp [*]; done)), H', ⟨by have := HK1.out; omega⟩, by repeat (first | exact Drawn0.refl _ | apply Drawn0.step)⟩
          · rw [if_neg c9] at H
            have c9b0 : decide (9223372036854775808 ≤ (Go.bits .or .u64 (IntKind.u64.wrap (t102 * 4)) (t103 / 4611686018427387904))) = false := decide_eq_false c9
            clear c9
            by_cases c10 : (IntKind.u64.wrap ((Go.bits .or .u64 (IntKind.u64.wrap (t104 * 4)) (t105 / 4611686018427387904)) + 1)) ≥ 9223372036854775808
            · rw [if_pos c10] at H
              have c10b0 : decide (9223372036854775808 ≤ (IntKind.u64.wrap ((Go.bits .or .u64 (IntKind.u64.wrap (t104 * 4)) (t105 / 4611686018427387904)) + 1))) = true := decide_eq_true c10
              clear c10
              simp only [Option.some.injEq, Prod.mk.injEq] at H
              obtain ⟨rfl, rfl⟩ := H
              go_wp2_with (first | ((with_reducible refine gate_callee (f := 182) rfl ?_); refine goesL_ (some 26) rfl rfl Tryz.func182 (by kernel_rfl) rfl #[.int .u64 x5_1, .int .u64 x5_1] rfl (by (try simp only [List.map_toArray, List.map_cons, List.map_nil]); first | done | rfl | (simp only [List.length_drop, List.length_take]; rfl)) ?_; (with_reducible refine (goMul64.calls x5_1 x5_1 t102 t103 _ A7.out).mono ?_); rintro e w' ⟨rfl, ⟨nd, rfl⟩⟩; refine ⟨_, rfl, ?_⟩) | ((with_reducible refine gate_callee (f := 182) rfl ?_); refine goesL_ (some 37) rfl rfl Tryz.func182 (by kernel_rfl) rfl #[.int .u64 x6_1, .int .u64 x6_1] rfl (by (try simp only [List.map_toArray, List.map_cons, List.map_nil]); first | done | rfl | (simp only [List.length_drop, List.length_take]; rfl)) ?_; (with_reducible refine (goMul64.calls x6_1 x6_1 t104 t105 _ A8.out).mono ?_); rintro e w' ⟨rfl, ⟨nd, rfl⟩⟩; refine ⟨_, rfl, ?_⟩))
              go_ret2
              exact ⟨by first | rfl | (simp; done) | (simp only [← hji3, ← hji5] <;> (first | rfl | simp)) | (simp [*]; done), by repeat (first | exact Drawn0.refl _ | apply Drawn0.step)⟩
            · rw [if_neg c10] at H
              have c10b0 : decide (9223372036854775808 ≤ (IntKind.u64.wrap ((Go.bits .or .u64 (IntKind.u64.wrap (t104 * 4)) (t105 / 4611686018427387904)) + 1))) = false := decide_eq_false c10
              clear c10
              have H' := Aside0.mk H
              clear H
              go_wp2_with (first | ((with_reducible refine gate_callee (f := 182) rfl ?_); refine goesL_ (some 26) rfl rfl Tryz.func182 (by kernel_rfl) rfl #[.int .u64 x5_1, .int .u64 x5_1] rfl (by (try simp only [List.map_toArray, List.map_cons, List.map_nil]); first | done | rfl | (simp only [List.length_drop, List.length_take]; rfl)) ?_; (with_reducible refine (goMul64.calls x5_1 x5_1 t102 t103 _ A7.out).mono ?_); rintro e w' ⟨rfl, ⟨nd, rfl⟩⟩; refine ⟨_, rfl, ?_⟩) | ((with_reducible refine gate_callee (f := 182) rfl ?_); refine goesL_ (some 37) rfl rfl Tryz.func182 (by kernel_rfl) rfl #[.int .u64 x6_1, .int .u64 x6_1] rfl (by (try simp only [List.map_toArray, List.map_cons, List.map_nil]); first | done | rfl | (simp only [List.length_drop, List.length_take]; rfl)) ?_; (with_reducible refine (goMul64.calls x6_1 x6_1 t104 t105 _ A8.out).mono ?_); rintro e w' ⟨rfl, ⟨nd, rfl⟩⟩; refine ⟨_, rfl, ?_⟩))
              go_roundg k1
              case measure => have := HK1.out; omega
              case rel => exact ⟨(Go.bits .or .u64 (IntKind.u64.wrap (t102 * 4)) (t103 / 4611686018427387904)), (IntKind.u64.wrap ((Go.bits .or .u64 (IntKind.u64.wrap (t104 * 4)) (t105 / 4611686018427387904)) + 1)), (wrap64 (x7_1 * 2)), (wrap64 (x21_1 + 1)), (by first | rfl | (simp; done) | (simp [*]; done)), (by first | rfl | (simp; done) | (simp [*]; done)), (by first | rfl | (simp; done) | (simp [*]; done)), (by first | rfl | (simp; done) | (simp [*]; done)), H', ⟨by have := HK1.out; omega⟩, by repeat (first | exact Drawn0.refl _ | apply Drawn0.step)⟩
        · rw [if_neg c6] at H
          have c6b0 : decide (x21_1 < 26) = false := decide_eq_false c6
          clear c6
          simp only [Option.some.injEq, Prod.mk.injEq] at H
          obtain ⟨rfl, rfl⟩ := H
          go_wp2
          go_ret2
          exact ⟨by first | rfl | (simp; done) | (simp only [← hji3, ← hji5] <;> (first | rfl | simp)) | (simp [*]; done), by repeat (first | exact Drawn0.refl _ | apply Drawn0.step)⟩
  · rw [if_neg c4] at H
    exact absurd H (by simp)
end Go.Proofs.YtailoobjgbldgaaGreatDoor.Q
end
section
namespace Go.Proofs.YtailoobjgbldgaaGreatDoor.P
set_option linter.unusedSimpArgs false
set_option linter.unusedVariables false
open Go Go.RowKit Go.Shelf Go.Proofs.YtailoobjgbldgaaGreatDoorW.PrintWords Go.Proofs.YtailoobjgbldgaaGreatDoorW.PrintLast Go.Proofs.YtailoobjgbldgaaGreatDoorW.PrintMore
attribute [local go_sem] Oper.semAt_some max2_int min2_int
theorem boxed_below_ {W W1 : World} {n b : Nat} {t : TypeId} {v : Value} (h : Boxed W b t v) (hb : Below n W W1) (hn : b < n) : Boxed W1 b t v := (hb.block b hn).trans h
theorem keepsFrom_of_below {W W1 : World} (B : Nat) (hb : Below W.heap.size W W1) : KeepsFrom B W W1 := ⟨hb.size, fun k _ _ hk _ => (hb.block k (Array.getElem?_eq_some_iff.1 hk).1).trans hk⟩
theorem KpT.of_below {n₀ Bt : Nat} {W W1 : World} (hb : Below W.heap.size W W1) (h0 : n₀ ≤ W.heap.size) (hB : Bt < W.heap.size) : KpT n₀ Bt W W1 := ⟨hb.mono h0, hb.block Bt hB⟩
theorem KpT.set {n₀ Bt : Nat} {W W1 : World} (h : KpT n₀ Bt W W1) (b : Nat) (v : Value) (h0 : n₀ ≤ b) (hne : b ≠ Bt) : KpT n₀ Bt W (W1.setCell ⟨b, 0, none⟩ v) :=
  ⟨h.1.setCell (p := ⟨b, 0, none⟩) h0 v, (Below.heap_setCell _ _ _ Bt (fun e => hne e.symm)).trans h.2⟩
theorem kpT_b {n₀ Bt : Nat} {w : World} (hn : n₀ ≤ w.heap.size) (hB : Bt < w.heap.size) (W : World) (l : Nat) (o o' : Obj) (hl : w.heap.size ≤ l) (h : W.heap[l]? = some o) (h1 : o.isCells = false) (h2 : o.isWalk = false) : KpT n₀ Bt W (W.putObj l o') :=
  ⟨belowK_b hn W l o o' hl h h1 h2, (grownBy_putObj' W l o').block Bt (by have := (Array.getElem?_eq_some_iff.1 h).1; omega) (fun e => by cases e; omega)⟩
def nearStep (most : Int) (lh : Int × Int) (p : Int) (k : ByteArray) : Option (Int × Int) :=
  match wSmall.f k, Q.size_fast.f 100 p with
  | some (n, is), some (a, ct) =>
    if is = true ∧ n ≤ most ∧ wrap64 (-most) ≤ n ∧ ct = true then
      some (wrap64 (lh.1 + min (wrap64 (n * a)) (wrap64 (n * if p = 2 then a else wrap64 (a + 1)))), wrap64 (lh.2 + max (wrap64 (n * a)) (wrap64 (n * if p = 2 then a else wrap64 (a + 1)))))
    else none
  | _, _ => none
def nearFold (most : Int) : List (Int × ByteArray) → Int × Int → Option (Int × Int)
  | [], lh => some lh
  | x :: xs, lh => (nearStep most lh x.1 x.2).bind (nearFold most xs)
theorem nearFold_append (most : Int) : ∀ (xs ys : List (Int × ByteArray)) (lh : Int × Int), nearFold most (xs ++ ys) lh = (nearFold most xs lh).bind (nearFold most ys)
  | [], _, _ => rfl
  | x :: xs, ys, lh => by
    simp only [List.cons_append, nearFold]
    cases nearStep most lh x.1 x.2 with
    | none => rfl
    | some lh' => exact nearFold_append most xs ys lh'
def nearGood (p : Int) (k : ByteArray) : Prop := (wSmall.f k).isSome = true ∧ (Q.size_fast.f 100 p).isSome = true
instance (p : Int) (k : ByteArray) : Decidable (nearGood p k) := inferInstanceAs (Decidable (_ ∧ _))
def tNear.f (l0 : List Int) (l1 : List ByteArray) (_ : ByteArray) (most : Int) : Option (Int × Int × Bool) :=
  if l0.length ≤ l1.length ∧ l0.length ≤ 1000 ∧ (∀ x ∈ l0.zip l1, nearGood x.1 x.2) then
    some (match nearFold most (l0.zip l1) (0, 0) with | some (lo, hi) => (lo, hi, true) | none => (0, 0, false))
  else none
structure NS (B : Nat) (most lo hi : Int) (is : Bool) (W : World) : Prop where
  b1 : Boxed W (B + 1) 3 (.int .i64 most)
  b2 : Boxed W (B + 2) 3 (.int .i64 lo)
  b3 : Boxed W (B + 3) 3 (.int .i64 hi)
  b4 : Boxed W (B + 4) 4 (.bool is)
theorem NS.below {B : Nat} {most lo hi : Int} {is : Bool} {W W1 : World} (h : NS B most lo hi is W) (hb : Below W.heap.size W W1) : NS B most lo hi is W1 :=
  ⟨boxed_below_ h.b1 hb h.b1.lt, boxed_below_ h.b2 hb h.b2.lt, boxed_below_ h.b3 hb h.b3.lt, boxed_below_ h.b4 hb h.b4.lt⟩
theorem NS.kept {B : Nat} {most lo hi : Int} {is : Bool} {W W1 : World} {row : Option Nat} (h : NS B most lo hi is W) (hg : W.grownBy W1 row) (hr : ∀ r, row = some r → ∃ o : Obj, W.heap[r]? = some o ∧ o.isCells = false) : NS B most lo hi is W1 :=
  have hk : ∀ {b : Nat} {t : TypeId} {v : Value}, Boxed W b t v → Boxed W1 b t v := fun {b t v} hs => hs.kept hg (fun e' => by obtain ⟨o, ho, hc⟩ := hr b e'.symm; rw [show W.heap[b]? = _ from hs] at ho; cases ho; cases hc)
  ⟨hk h.b1, hk h.b2, hk h.b3, hk h.b4⟩
abbrev NearI (w : World) (most : Int) (pre : List (Term nearGood)) (W : World) : Prop := (∃ lh, nearFold most (pre.map (·.1)) (0, 0) = some lh ∧ NS w.heap.size most lh.1 lh.2 false W ∧ w.heap.size + 5 < W.heap.size) ∧ Below w.heap.size w W
abbrev NearX (w : World) (most : Int) (c : Code) (pre : List (Term nearGood)) (W : World) : Prop := (c = .ret ∧ nearFold most (pre.map (·.1)) (0, 0) = none ∧ NS w.heap.size most 0 0 false W) ∧ Below w.heap.size w W
theorem NS.set2 {B : Nat} {most lo hi : Int} {is : Bool} {W : World} (h : NS B most lo hi is W) (v : Int) : NS B most v hi is (W.setCell ⟨B + 2, 0, none⟩ (.int .i64 v)) :=
  ⟨h.b1.other (by omega) _, h.b2.set _, h.b3.other (by omega) _, h.b4.other (by omega) _⟩
theorem NS.set3 {B : Nat} {most lo hi : Int} {is : Bool} {W : World} (h : NS B most lo hi is W) (v : Int) : NS B most lo v is (W.setCell ⟨B + 3, 0, none⟩ (.int .i64 v)) :=
  ⟨h.b1.other (by omega) _, h.b2.other (by omega) _, h.b3.set _, h.b4.other (by omega) _⟩
theorem NS.set4 {B : Nat} {most lo hi : Int} {is : Bool} {W : World} (h : NS B most lo hi is W) (v : Bool) : NS B most lo hi v (W.setCell ⟨B + 4, 0, none⟩ (.bool v)) :=
  ⟨h.b1.other (by omega) _, h.b2.other (by omega) _, h.b3.other (by omega) _, h.b4.set _⟩
theorem NS.drew {B : Nat} {most lo hi : Int} {is : Bool} {W : World} (h : NS B most lo hi is W) : NS B most lo hi is W.drew := ⟨h.b1, h.b2, h.b3, h.b4⟩
theorem nearStep_none {most : Int} {lh : Int × Int} {p : Int} {k : ByteArray} {n a : Int} {is ct : Bool} (hn : wSmall.f k = some (n, is)) (ha : Q.size_fast.f 100 p = some (a, ct)) (hc : ¬ (is = true ∧ n ≤ most ∧ wrap64 (-most) ≤ n ∧ ct = true)) : nearStep most lh p k = none := by
  unfold nearStep
  rw [hn, ha]
  exact if_neg hc
theorem nearStep_some {most : Int} {lh : Int × Int} {p : Int} {k : ByteArray} {n a : Int} {is ct : Bool} (hn : wSmall.f k = some (n, is)) (ha : Q.size_fast.f 100 p = some (a, ct)) (hc : is = true ∧ n ≤ most ∧ wrap64 (-most) ≤ n ∧ ct = true) : nearStep most lh p k = some (wrap64 (lh.1 + min (wrap64 (n * a)) (wrap64 (n * if p = 2 then a else wrap64 (a + 1)))), wrap64 (lh.2 + max (wrap64 (n * a)) (wrap64 (n * if p = 2 then a else wrap64 (a + 1))))) := by
  unfold nearStep
  rw [hn, ha]
  exact if_pos hc
theorem nearFold_snoc {most : Int} {pre : List (Term nearGood)} {lh : Int × Int} {x : Term nearGood} (he : nearFold most (pre.map (·.1)) (0, 0) = some lh) : nearFold most ((pre ++ [x]).map (·.1)) (0, 0) = nearStep most lh x.1.1 x.1.2 := by
  rw [List.map_append, nearFold_append, he]
  show nearFold most [x.1] lh = _
  unfold nearFold
  cases nearStep most lh x.1.1 x.1.2 <;> rfl
theorem near_ret {w W W1 : World} {most lo hi : Int} {pre : List (Term nearGood)} {x : Term nearGood} (N : Nat) (hB : Below w.heap.size w W) (hb : Below W.heap.size W W1) (hS : NS w.heap.size most lo hi false W1)
    (he : nearFold most (pre.map (·.1)) (0, 0) = some (lo, hi)) (hn : nearStep most (lo, hi) x.1.1 x.1.2 = none) :
    KeepsFrom N W (((W1.setCell ⟨w.heap.size + 2, 0, none⟩ (.int .i64 0)).setCell ⟨w.heap.size + 3, 0, none⟩ (.int .i64 0)).setCell ⟨w.heap.size + 4, 0, none⟩ (.bool false)) ∧ NearX w most .ret (pre ++ [x]) (((W1.setCell ⟨w.heap.size + 2, 0, none⟩ (.int .i64 0)).setCell ⟨w.heap.size + 3, 0, none⟩ (.int .i64 0)).setCell ⟨w.heap.size + 4, 0, none⟩ (.bool false)) :=
  ⟨(keepsFrom_of_below N hb).trans ((((KeepsOthers.setCell _ _ _).trans (KeepsOthers.setCell _ _ _)).trans (KeepsOthers.setCell _ _ _)).from N),
   ⟨rfl, (nearFold_snoc he).trans hn, ((hS.set2 0).set3 0).set4 false⟩,
   (((hB.trans (hb.mono hB.size)).setCell (p := ⟨w.heap.size + 2, 0, none⟩) (by simp) _).setCell (p := ⟨w.heap.size + 3, 0, none⟩) (by simp) _).setCell (p := ⟨w.heap.size + 4, 0, none⟩) (by simp) _⟩
theorem near_go {w W W1 : World} {most lo hi lo' hi' : Int} {pre : List (Term nearGood)} {x : Term nearGood} (N Bt : Nat) (hB : Below w.heap.size w W) (hb : Below W.heap.size W W1) (hS : NS w.heap.size most lo hi false W1)
    (he : nearFold most (pre.map (·.1)) (0, 0) = some (lo, hi)) (hn : nearStep most (lo, hi) x.1.1 x.1.2 = some (lo', hi')) (hBt : Bt < W.heap.size) (hBt2 : w.heap.size + 4 < Bt) (hBtw : w.heap.size + 5 < W.heap.size) :
    KeepsFrom N W ((W1.setCell ⟨w.heap.size + 2, 0, none⟩ (.int .i64 lo')).setCell ⟨w.heap.size + 3, 0, none⟩ (.int .i64 hi')).drew ∧ KpT w.heap.size Bt W ((W1.setCell ⟨w.heap.size + 2, 0, none⟩ (.int .i64 lo')).setCell ⟨w.heap.size + 3, 0, none⟩ (.int .i64 hi')).drew ∧ NearI w most (pre ++ [x]) ((W1.setCell ⟨w.heap.size + 2, 0, none⟩ (.int .i64 lo')).setCell ⟨w.heap.size + 3, 0, none⟩ (.int .i64 hi')).drew :=
  have hk : KpT w.heap.size Bt W ((W1.setCell ⟨w.heap.size + 2, 0, none⟩ (.int .i64 lo')).setCell ⟨w.heap.size + 3, 0, none⟩ (.int .i64 hi')) := ((KpT.of_below hb hB.size hBt).set (w.heap.size + 2) _ (by omega) (by omega)).set (w.heap.size + 3) _ (by omega) (by omega)
  ⟨(keepsFrom_of_below N hb).trans ((((KeepsOthers.setCell _ _ _).trans (KeepsOthers.setCell _ _ _)).trans (KeepsOthers.drew _)).from N),
   ⟨hk.1.drew, hk.2⟩,
   ⟨(lo', hi'), (nearFold_snoc he).trans hn, ((hS.set2 lo').set3 hi').drew, by simpa using Nat.lt_of_lt_of_le hBtw hb.size⟩,
   (((hB.trans (hb.mono hB.size)).setCell (p := ⟨w.heap.size + 2, 0, none⟩) (by simp) _).setCell (p := ⟨w.heap.size + 3, 0, none⟩) (by simp) _).drew⟩
set_option maxRecDepth 100000 in
set_option maxHeartbeats 4000000 in
theorem tNear.calls (A0_0 : Option Addr) (c0_0 : Nat) (l0_0 : List Int) (A0_1 : Option Addr) (c0_1 : Nat) (l0_1 : List ByteArray) (a0_2 : ByteArray) (a1 r1 r2 : Int) (r3 : Bool) (w : World) (hG : Glob w) (hr0_0 : Kd.C (Kd.int .i64) w A0_0 l0_0.length l0_0) (hc0_0 : l0_0.length ≤ c0_0) (hr0_1 : Kd.C Kd.string w A0_1 l0_1.length l0_1) (hc0_1 : l0_1.length ≤ c0_1) (h : tNear.f l0_0 l0_1 a0_2 a1 = some (r1, r2, r3)) :
    Calls Tryz.prog 134 #[.agg #[.slice A0_0 l0_0.length c0_0, .slice A0_1 l0_1.length c0_1, .string a0_2], .int .i64 a1] w fun e w' => e = .returned (.tuple #[.int .i64 r1, .int .i64 r2, .bool r3]) ∧ Below w.heap.size w w' := by
  unfold tNear.f at h
  by_cases hq : l0_0.length ≤ l0_1.length ∧ l0_0.length ≤ 1000 ∧ (∀ x ∈ l0_0.zip l0_1, nearGood x.1 x.2)
  case neg => rw [if_neg hq] at h; cases h
  rw [if_pos hq] at h
  obtain ⟨hl, hlen, hgood⟩ := hq
  obtain ⟨zs, hzs⟩ : ∃ zs : List (Term nearGood), zs.map (·.1) = l0_0.zip l0_1 := ⟨(l0_0.zip l0_1).attach.map (fun x => ⟨x.1, hgood x.1 x.2⟩), by rw [List.map_map]; exact List.attach_map_subtype_val _⟩
  rw [← hzs] at h
  refine (callsIn_wide (n := 6)).1 ?_
  refine callsIn_of_wp_marks Tryz.func134 rfl trivial ?_ rfl
  simp only [Tryz.ntmps134, List.size_toArray, List.length_cons, List.length_nil, Nat.reduceAdd, Nat.reduceSub, Array.replicate_succ, Array.replicate_zero, List.push_toArray, List.append_toArray, List.nil_append, List.cons_append]
  gi_wp2_with (refine ⟨trivial, ?_⟩; gi_at_call 135; refine (all_in Fence.wide _ trivial rfl _ _ _ _).mono ?_; rintro e w' ⟨rfl, rfl⟩)
  have hB5 : Below w.heap.size w (((((w.alloc (.cells #[.slice A0_0 l0_0.length c0_0, .slice A0_1 l0_1.length c0_1, .string a0_2] 103)).alloc (.cells #[.int .i64 a1] 3)).alloc (.cells #[.int .i64 0] 3)).alloc (.cells #[.int .i64 0] 3)).alloc (.cells #[.bool false] 4)) := (((((Below.refl _ w).alloc (Nat.le_refl _) _).alloc (by simp only [World.size_alloc]; omega) _).alloc (by simp only [World.size_alloc]; omega) _).alloc (by simp only [World.size_alloc]; omega) _).alloc (by simp only [World.size_alloc]; omega) _
  have hS5 : NS w.heap.size a1 0 0 false (((((w.alloc (.cells #[.slice A0_0 l0_0.length c0_0, .slice A0_1 l0_1.length c0_1, .string a0_2] 103)).alloc (.cells #[.int .i64 a1] 3)).alloc (.cells #[.int .i64 0] 3)).alloc (.cells #[.int .i64 0] 3)).alloc (.cells #[.bool false] 4)) := by
    have z1 := Boxed.new (w.alloc (.cells #[.slice A0_0 l0_0.length c0_0, .slice A0_1 l0_1.length c0_1, .string a0_2] 103)) 3 (.int .i64 a1)
    have z2 := Boxed.new ((w.alloc (.cells #[.slice A0_0 l0_0.length c0_0, .slice A0_1 l0_1.length c0_1, .string a0_2] 103)).alloc (.cells #[.int .i64 a1] 3)) 3 (.int .i64 0)
    have z3 := Boxed.new (((w.alloc (.cells #[.slice A0_0 l0_0.length c0_0, .slice A0_1 l0_1.length c0_1, .string a0_2] 103)).alloc (.cells #[.int .i64 a1] 3)).alloc (.cells #[.int .i64 0] 3)) 3 (.int .i64 0)
    have z4 := Boxed.new ((((w.alloc (.cells #[.slice A0_0 l0_0.length c0_0, .slice A0_1 l0_1.length c0_1, .string a0_2] 103)).alloc (.cells #[.int .i64 a1] 3)).alloc (.cells #[.int .i64 0] 3)).alloc (.cells #[.int .i64 0] 3)) 4 (.bool false)
    simp only [World.size_alloc] at z1 z2 z3 z4
    exact ⟨((z1.alloc _).alloc _).alloc _, (z2.alloc _).alloc _, z3.alloc _, z4⟩
  obtain ⟨w5, hw5⟩ : ∃ w5, (((((w.alloc (.cells #[.slice A0_0 l0_0.length c0_0, .slice A0_1 l0_1.length c0_1, .string a0_2] 103)).alloc (.cells #[.int .i64 a1] 3)).alloc (.cells #[.int .i64 0] 3)).alloc (.cells #[.int .i64 0] 3)).alloc (.cells #[.bool false] 4)) = w5 := ⟨_, rfl⟩
  have hsz : w5.heap.size = w.heap.size + 5 := by rw [← hw5]; simp
  rw [hw5] at hB5 hS5 ⊢
  have hcells := World.alloc_heap_new w5 (.cells #[.slice A0_0 l0_0.length c0_0, .slice A0_1 l0_1.length c0_1, .string a0_2] 103)
  rw [hsz] at hcells
  have hT0 : (w5.alloc (.cells #[.slice A0_0 l0_0.length c0_0, .slice A0_1 l0_1.length c0_1, .string a0_2] 103)).cell? ⟨w.heap.size + 5, 0, none⟩ = some (.slice A0_0 l0_0.length c0_0) := by simp [World.cell?, hcells]
  have hT1 : (w5.alloc (.cells #[.slice A0_0 l0_0.length c0_0, .slice A0_1 l0_1.length c0_1, .string a0_2] 103)).cell? ⟨w.heap.size + 5, 1, none⟩ = some (.slice A0_1 l0_1.length c0_1) := by simp [World.cell?, hcells]
  have hB6 := hB5.alloc (show w.heap.size ≤ w5.heap.size by omega) (.cells #[.slice A0_0 l0_0.length c0_0, .slice A0_1 l0_1.length c0_1, .string a0_2] 103)
  have hS6 := hS5.below ((Below.refl w5.heap.size w5).alloc (Nat.le_refl _) (.cells #[.slice A0_0 l0_0.length c0_0, .slice A0_1 l0_1.length c0_1, .string a0_2] 103))
  have hsz6 : (w5.alloc (.cells #[.slice A0_0 l0_0.length c0_0, .slice A0_1 l0_1.length c0_1, .string a0_2] 103)).heap.size = w.heap.size + 6 := by simp only [World.size_alloc]; omega
  obtain ⟨w6, hw6⟩ : ∃ w6, w5.alloc (.cells #[.slice A0_0 l0_0.length c0_0, .slice A0_1 l0_1.length c0_1, .string a0_2] 103) = w6 := ⟨_, rfl⟩
  rw [hw6] at hT0 hT1 hB6 hS6 hsz6 ⊢
  clear hcells hw6 hS5 hB5 hw5 hsz
  simp only [Nat.add_assoc, Nat.reduceAdd]
  refine wpIn_rangeFunc_ownG rfl (by omega) (gf := 161) (lb := #[.pointer (some ⟨w.heap.size + 5, 0, none⟩)]) rfl trivial (enters_of Tryz.func161 (by kernel_rfl) rfl)
    (all_stops Fence.wide _ trivial rfl (by omega) (w.heap.size + 5) w.heap.size A0_0 A0_1 c0_0 c0_1 l0_0 l0_1 zs hzs hl (by omega) _ w (Nat.le_refl _) (by omega) hB6 (by omega) hT0 hT1 hr0_0 hr0_1) KpT.trans (kpT_b (by omega) (by omega)) (Below.refl _ _) (fun _ => rfl)
    (NearI w a1) (NearX w a1)
    (OwnFrom.and (Own.from (fun s A B row hs hg hr => by obtain ⟨lh, e, hs, hz⟩ := hs; exact ⟨lh, e, hs.kept hg hr, Nat.lt_of_lt_of_le hz hg.size⟩) _) (ownFrom_below (Nat.le_refl _) (by omega)))
    (fun c => OwnFrom.and (Own.from (fun s A B row hs hg hr => ⟨hs.1, hs.2.1, hs.2.2.kept hg hr⟩) _) (ownFrom_below (Nat.le_refl _) (by omega)))
    ⟨⟨(0, 0), rfl, hS6, by omega⟩, hB6⟩
    (fun x => { tmps := #[.agg #[.slice A0_0 l0_0.length c0_0, .slice A0_1 l0_1.length c0_1, .string a0_2], .int .i64 a1, .pointer (some ⟨w.heap.size, 0, none⟩), .pointer (some ⟨w.heap.size + 1, 0, none⟩), .pointer (some ⟨w.heap.size + 2, 0, none⟩), .pointer (some ⟨w.heap.size + 3, 0, none⟩), .pointer (some ⟨w.heap.size + 4, 0, none⟩), .int .i64 x.1.1, .string x.1.2, undef, undef, undef, undef, undef, .agg #[.slice A0_0 l0_0.length c0_0, .slice A0_1 l0_1.length c0_1, .string a0_2], .func (.func 161) #[] #[.pointer (some ⟨w.heap.size + 5, 0, none⟩)], .int .i64 x.1.1, .string x.1.2, undef, undef, undef, undef, undef, undef, undef, undef, undef, undef, undef, undef, undef, undef, undef, undef, undef, undef, undef, undef, undef, undef, undef, undef, undef, undef, undef, undef, undef, undef, undef, undef, undef, undef, undef, undef, undef, undef, undef, undef, undef, undef, undef, undef, undef, undef, undef, undef, undef, undef], defers := [] }) ?assign ?body ?done ?stop
  case assign =>
    intro l x W K hK
    gi_wp2
    exact hK
  case body =>
    rintro l pre ⟨⟨p, k⟩, hk1, hk2⟩ W ⟨⟨⟨lo, hi⟩, he, hS, hz⟩, hB⟩ _
    obtain ⟨⟨n, is⟩, hn⟩ := Option.isSome_iff_exists.1 hk1
    obtain ⟨⟨a, ct⟩, ha⟩ := Option.isSome_iff_exists.1 hk2
    skip
    have hGW : Glob W := hG.below hB
    have d1 := hS.b1.cell
    clear hr0_0 hr0_1 hzs hgood h hT0 hT1 hS6
    gi_wp2_with (first | (refine ⟨trivial, ?_⟩; gi_at_call 110; refine (CallsIn.inRound l (callsIn_wide.2 (wSmall.calls _ n is _ hGW hn))).mono ?_; rintro e w1 ⟨rfl, hb1⟩; have hS1 := hS.below hb1; have d1 := hS1.b1.cell; have d2 := hS1.b2.cell; have d3 := hS1.b3.cell; have d4 := hS1.b4.cell; have f2 := hS1.b2.frozen; have f3 := hS1.b3.frozen; have f4 := hS1.b4.frozen) | (refine ⟨trivial, ?_⟩; gi_at_call 160; refine (CallsIn.inRound l (callsIn_wide.2 (Q.size_fast.calls 100 _ a ct _ ha))).mono ?_; rintro e w2 ⟨rfl, hb2⟩; have hb2' := hb2.below; have hS2 := hS1.below hb2'; have d1 := hS2.b1.cell; have d2 := hS2.b2.cell; have d3 := hS2.b3.cell; have d4 := hS2.b4.cell; have f2 := hS2.b2.frozen; have f3 := hS2.b3.frozen; have f4 := hS2.b4.frozen))
    rotate_left 2
    · have hmx : Tryz.prog.follows .mixedOrders = true := by kernel_rfl
      refine start_in (N := 20) (S := fun w' => w'.cell? ⟨w.heap.size + 3, 0, none⟩ = some (.int .i64 hi)) (ds := [19]) #[false, false, false, false, false, false, false, false, false, false, false, false, false, false, false, false, false, false, false, false] hmx (by kernel_rfl) (fun h => by obtain ⟨_, _, h⟩ := h; exact h) rfl rfl d3 (fun hHeld => ?_)
      refine purM (i := 1) (N := some 49) #[false, true, false, false, false, false, false, false, false, false, false, false, false, false, false, false, false, false, false, false] ?_ (hc := by kernel_rfl)
      refine purM (i := 2) (N := some 50) #[false, true, true, false, false, false, false, false, false, false, false, false, false, false, false, false, false, false, false, false] ?_ (hc := by kernel_rfl)
      refine purM (i := 4) (N := some 52) #[false, true, true, false, true, false, false, false, false, false, false, false, false, false, false, false, false, false, false, false] ?_ (hc := by kernel_rfl)
      refine purM (i := 5) (N := some 53) #[false, true, true, false, true, true, false, false, false, false, false, false, false, false, false, false, false, false, false, false] ?_ (hc := by kernel_rfl)
      refine purM (i := 10) (N := some 58) #[false, true, true, false, true, true, false, false, false, false, true, false, false, false, false, false, false, false, false, false] ?_ (hc := by kernel_rfl)
      refine purM (i := 11) (N := some 59) #[false, true, true, false, true, true, false, false, false, false, true, true, false, false, false, false, false, false, false, false] ?_ (hc := by kernel_rfl)
      refine purM (i := 13) (N := some 61) #[false, true, true, false, true, true, false, false, false, false, true, true, false, true, false, false, false, false, false, false] ?_ (hc := by kernel_rfl)
      refine purM (i := 14) (N := some 62) #[false, true, true, false, true, true, false, false, false, false, true, true, false, true, true, false, false, false, false, false] ?_ (hc := by kernel_rfl)
      refine purM (i := 3) (N := some 51) #[false, true, true, true, true, true, false, false, false, false, true, true, false, true, true, false, false, false, false, false] ?_ (hc := by kernel_rfl)
      refine purM (i := 6) (N := some 54) #[false, true, true, true, true, true, true, false, false, false, true, true, false, true, true, false, false, false, false, false] ?_ (hc := by kernel_rfl)
      refine purM (i := 7) (N := some 55) #[false, true, true, true, true, true, true, true, false, false, true, true, false, true, true, false, false, false, false, false] ?_ (hc := by kernel_rfl)
      refine purM (i := 12) (N := some 60) #[false, true, true, true, true, true, true, true, false, false, true, true, true, true, true, false, false, false, false, false] ?_ (hc := by kernel_rfl)
      refine purM (i := 15) (N := some 63) #[false, true, true, true, true, true, true, true, false, false, true, true, true, true, true, true, false, false, false, false] ?_ (hc := by kernel_rfl)
      refine purM (i := 16) (N := some 64) #[false, true, true, true, true, true, true, true, false, false, true, true, true, true, true, true, true, false, false, false] ?_ (hc := by kernel_rfl)
      refine take_ (i := 9) (N := some 57) (v := ?_) (a' := ?_) #[false, true, true, true, true, true, true, true, false, true, true, true, true, true, true, true, true, false, false, false] rfl rfl (by kernel_rfl) (fun _ _ _ h => h) (Or.inl ⟨by rfl, ?_⟩) hHeld ?_ ?_
      rotate_left
      · intro w' s0
        go_simp
        with_reducible rfl
      rotate_left
      · simp only [Act.put, List.setIfInBounds_toArray, List.set_cons_zero, List.set_cons_succ, i64_w, i32_w]
        rfl
      refine purM (i := 17) (N := some 65) #[false, true, true, true, true, true, true, true, false, true, true, true, true, true, true, true, true, true, false, false] ?_ (hc := by kernel_rfl)
      refine one_ (i := 0) (N := some 48) #[true, true, true, true, true, true, true, true, false, true, true, true, true, true, true, true, true, true, false, false] rfl rfl (by kernel_rfl) (by decide) (fun K hK => ?_)
      refine value_ (w1 := ?_) (v := ?_) (by rfl) rfl ?_ ?_
      rotate_left 2
      · go_simp
        constructor
        · rfl
        · rfl
      refine hK.out _ _ hHeld (fun hHeld => ?_)
      clear hK K
      refine norm_ (a' := ?_) ?_ ?_
      rotate_left
      · show Act.put _ (some 48) _ = _
        simp only [Act.put, List.setIfInBounds_toArray, List.set_cons_zero, List.set_cons_succ, i64_w, i32_w]
        rfl
      refine purM (i := 8) (N := some 56) #[true, true, true, true, true, true, true, true, true, true, true, true, true, true, true, true, true, true, false, false] ?_ (hc := by kernel_rfl)
      refine one_ (i := 18) (N := none) #[true, true, true, true, true, true, true, true, true, true, true, true, true, true, true, true, true, true, true, false] rfl rfl (by kernel_rfl) (by decide) (fun K hK => ?_)
      refine skip_ (w1 := ?_) (by rfl) rfl ?_ ?_
      rotate_left
      · go_simp
        rfl
      have e3 := fun v => hS2.b3.other (B' := w.heap.size + 2) (by omega) v
      have e3c := fun v => (e3 v).cell
      have e3f := fun v => (e3 v).frozen
      refine hK.out _ _ (e3c _) (fun hHeld => ?_)
      clear hK K
      refine last_ (i := 19) (N := none) #[true, true, true, true, true, true, true, true, true, true, true, true, true, true, true, true, true, true, true, true] rfl rfl (by kernel_rfl) (by decide) (fun K hK => ?_)
      refine skip_ (w1 := ?_) (by rfl) rfl ?_ ?_
      rotate_left
      · go_simp
        rfl
      refine hK.out _ _ ?_
      clear hK K
      refine done_ (by kernel_rfl) ?_
      gi_wp2
      have hb12 : Below W.heap.size W w2 := hb1.trans (hb2'.mono hb1.size)
      exact near_go _ _ hB hb12 hS2 he (by rw [nearStep_some hn ha (by simp_all)]; simp_all) hz (by omega) hz
    · have hmx : Tryz.prog.follows .mixedOrders = true := by kernel_rfl
      refine start_in (N := 20) (S := fun w' => w'.cell? ⟨w.heap.size + 3, 0, none⟩ = some (.int .i64 hi)) (ds := [19]) #[false, false, false, false, false, false, false, false, false, false, false, false, false, false, false, false, false, false, false, false] hmx (by kernel_rfl) (fun h => by obtain ⟨_, _, h⟩ := h; exact h) rfl rfl d3 (fun hHeld => ?_)
      refine purM (i := 1) (N := some 49) #[false, true, false, false, false, false, false, false, false, false, false, false, false, false, false, false, false, false, false, false] ?_ (hc := by kernel_rfl)
      refine purM (i := 2) (N := some 50) #[false, true, true, false, false, false, false, false, false, false, false, false, false, false, false, false, false, false, false, false] ?_ (hc := by kernel_rfl)
      refine purM (i := 4) (N := some 52) #[false, true, true, false, true, false, false, false, false, false, false, false, false, false, false, false, false, false, false, false] ?_ (hc := by kernel_rfl)
      refine purM (i := 5) (N := some 53) #[false, true, true, false, true, true, false, false, false, false, false, false, false, false, false, false, false, false, false, false] ?_ (hc := by kernel_rfl)
      refine purM (i := 10) (N := some 58) #[false, true, true, false, true, true, false, false, false, false, true, false, false, false, false, false, false, false, false, false] ?_ (hc := by kernel_rfl)
      refine purM (i := 11) (N := some 59) #[false, true, true, false, true, true, false, false, false, false, true, true, false, false, false, false, false, false, false, false] ?_ (hc := by kernel_rfl)
      refine purM (i := 13) (N := some 61) #[false, true, true, false, true, true, false, false, false, false, true, true, false, true, false, false, false, false, false, false] ?_ (hc := by kernel_rfl)
      refine purM (i := 14) (N := some 62) #[false, true, true, false, true, true, false, false, false, false, true, true, false, true, true, false, false, false, false, false] ?_ (hc := by kernel_rfl)
      refine purM (i := 3) (N := some 51) #[false, true, true, true, true, true, false, false, false, false, true, true, false, true, true, false, false, false, false, false] ?_ (hc := by kernel_rfl)
      refine purM (i := 6) (N := some 54) #[false, true, true, true, true, true, true, false, false, false, true, true, false, true, true, false, false, false, false, false] ?_ (hc := by kernel_rfl)
      refine purM (i := 7) (N := some 55) #[false, true, true, true, true, true, true, true, false, false, true, true, false, true, true, false, false, false, false, false] ?_ (hc := by kernel_rfl)
      refine purM (i := 12) (N := some 60) #[false, true, true, true, true, true, true, true, false, false, true, true, true, true, true, false, false, false, false, false] ?_ (hc := by kernel_rfl)
      refine purM (i := 15) (N := some 63) #[false, true, true, true, true, true, true, true, false, false, true, true, true, true, true, true, false, false, false, false] ?_ (hc := by kernel_rfl)
      refine purM (i := 16) (N := some 64) #[false, true, true, true, true, true, true, true, false, false, true, true, true, true, true, true, true, false, false, false] ?_ (hc := by kernel_rfl)
      refine take_ (i := 9) (N := some 57) (v := ?_) (a' := ?_) #[false, true, true, true, true, true, true, true, false, true, true, true, true, true, true, true, true, false, false, false] rfl rfl (by kernel_rfl) (fun _ _ _ h => h) (Or.inl ⟨by rfl, ?_⟩) hHeld ?_ ?_
      rotate_left
      · intro w' s0
        go_simp
        with_reducible rfl
      rotate_left
      · simp only [Act.put, List.setIfInBounds_toArray, List.set_cons_zero, List.set_cons_succ, i64_w, i32_w]
        rfl
      refine purM (i := 17) (N := some 65) #[false, true, true, true, true, true, true, true, false, true, true, true, true, true, true, true, true, true, false, false] ?_ (hc := by kernel_rfl)
      refine one_ (i := 0) (N := some 48) #[true, true, true, true, true, true, true, true, false, true, true, true, true, true, true, true, true, true, false, false] rfl rfl (by kernel_rfl) (by decide) (fun K hK => ?_)
      refine value_ (w1 := ?_) (v := ?_) (by rfl) rfl ?_ ?_
      rotate_left 2
      · go_simp
        constructor
        · rfl
        · rfl
      refine hK.out _ _ hHeld (fun hHeld => ?_)
      clear hK K
      refine norm_ (a' := ?_) ?_ ?_
      rotate_left
      · show Act.put _ (some 48) _ = _
        simp only [Act.put, List.setIfInBounds_toArray, List.set_cons_zero, List.set_cons_succ, i64_w, i32_w]
        rfl
      refine purM (i := 8) (N := some 56) #[true, true, true, true, true, true, true, true, true, true, true, true, true, true, true, true, true, true, false, false] ?_ (hc := by kernel_rfl)
      refine one_ (i := 18) (N := none) #[true, true, true, true, true, true, true, true, true, true, true, true, true, true, true, true, true, true, true, false] rfl rfl (by kernel_rfl) (by decide) (fun K hK => ?_)
      refine skip_ (w1 := ?_) (by rfl) rfl ?_ ?_
      rotate_left
      · go_simp
        rfl
      have e3 := fun v => hS2.b3.other (B' := w.heap.size + 2) (by omega) v
      have e3c := fun v => (e3 v).cell
      have e3f := fun v => (e3 v).frozen
      refine hK.out _ _ (e3c _) (fun hHeld => ?_)
      clear hK K
      refine last_ (i := 19) (N := none) #[true, true, true, true, true, true, true, true, true, true, true, true, true, true, true, true, true, true, true, true] rfl rfl (by kernel_rfl) (by decide) (fun K hK => ?_)
      refine skip_ (w1 := ?_) (by rfl) rfl ?_ ?_
      rotate_left
      · go_simp
        rfl
      refine hK.out _ _ ?_
      clear hK K
      refine done_ (by kernel_rfl) ?_
      gi_wp2
      have hb12 : Below W.heap.size W w2 := hb1.trans (hb2'.mono hb1.size)
      have hq : nearStep a1 (lo, hi) p k = some (wrap64 (lo + min (wrap64 (n * a)) (wrap64 (n * wrap64 (a + 1)))), wrap64 (hi + max (wrap64 (n * a)) (wrap64 (n * wrap64 (a + 1))))) := by rw [nearStep_some hn ha (by simp_all)]; simp_all
      exact near_go _ _ hB hb12 hS2 he hq hz (by omega) hz
    all_goals first | exact near_ret _ hB hb1 hS1 he (nearStep_none hn ha (by rintro ⟨h1, h2, h3, h4⟩; first | omega | (simp_all; done) | (simp_all; omega))) | exact near_ret _ hB (hb1.trans (hb2'.mono hb1.size)) hS2 he (nearStep_none hn ha (by rintro ⟨h1, h2, h3, h4⟩; first | omega | (simp_all; done) | (simp_all; omega)))
  case done =>
    rintro D ys W hD rfl ⟨⟨⟨lo, hi⟩, he, hS, hz⟩, hB⟩ hK
    rw [he] at h
    simp only [Option.some.injEq, Prod.mk.injEq] at h
    obtain ⟨rfl, rfl, rfl⟩ := h
    have d2 := hS.b2.cell
    have d3 := hS.b3.cell
    have d4 := hS.b4.cell
    have f2 := hS.b2.frozen
    have f3 := hS.b3.frozen
    have f4 := hS.b4.frozen
    have hmx : Tryz.prog.follows .mixedOrders = true := by kernel_rfl
    gi_wp2
    gi_region_with_o (fail)
    all_goals gi_wp2
    all_goals (
      have hS3 := (((hS.set2 lo).set3 hi).set4 true).drew
      have hK3 := ((((KeepsOthers.setCell W ⟨w.heap.size + 2, 0, none⟩ (.int .i64 lo)).trans (KeepsOthers.setCell _ ⟨w.heap.size + 3, 0, none⟩ (.int .i64 hi))).trans (KeepsOthers.setCell _ ⟨w.heap.size + 4, 0, none⟩ (.bool true))).trans (KeepsOthers.drew _)).same D _ hK rfl
      have hB3 := (((hB.setCell (p := ⟨w.heap.size + 2, 0, none⟩) (by simp) (.int .i64 lo)).setCell (p := ⟨w.heap.size + 3, 0, none⟩) (by simp) (.int .i64 hi)).setCell (p := ⟨w.heap.size + 4, 0, none⟩) (by simp) (.bool true)).drew
      obtain ⟨W3, hW3⟩ : ∃ W3, (((W.setCell ⟨w.heap.size + 2, 0, none⟩ (.int .i64 lo)).setCell ⟨w.heap.size + 3, 0, none⟩ (.int .i64 hi)).setCell ⟨w.heap.size + 4, 0, none⟩ (.bool true)).drew = W3 := ⟨_, rfl⟩
      rw [hW3] at hS3 hK3 hB3 ⊢
      refine ⟨by simp, .inl ⟨_, _, rfl, run_takeDeferred hK3, ?_⟩⟩
      have hS' := hS3.kept (grownBy_putObj' W3 D (.deferred none)) (fun r e => by cases e; exact ⟨_, hK3, rfl⟩)
      have e2 := hS'.b2.cell
      have e3 := hS'.b3.cell
      have e4 := hS'.b4.cell
      refine ⟨_, ?_, rfl, hB3.trans (belowK_b (w := w) (Nat.le_refl _) W3 D _ _ (by omega) hK3 rfl rfl)⟩
      simp [results, Tryz.f134, go_sem, e2, e3, e4])
  case stop =>
    rintro D c pre W hD ⟨k, hk, rfl⟩ ⟨⟨rfl, he, hS⟩, hB⟩ hK
    have hnone : nearFold a1 (zs.map (·.1)) (0, 0) = none := by
      rw [← List.take_append_drop k zs, List.map_append, nearFold_append, he]
      rfl
    rw [hnone] at h
    simp only [Option.some.injEq, Prod.mk.injEq] at h
    obtain ⟨rfl, rfl, rfl⟩ := h
    gi_wp2
    refine ⟨by simp, .inl ⟨_, _, rfl, run_takeDeferred hK, ?_⟩⟩
    have hS' := hS.kept (grownBy_putObj' W D (.deferred none)) (fun r e => by cases e; exact ⟨_, hK, rfl⟩)
    have e2 := hS'.b2.cell
    have e3 := hS'.b3.cell
    have e4 := hS'.b4.cell
    refine ⟨_, ?_, rfl, hB.trans (belowK_b (w := w) (Nat.le_refl _) W D _ _ (by omega) hK rfl rfl)⟩
    simp [results, Tryz.f134, go_sem, e2, e3, e4]
end Go.Proofs.YtailoobjgbldgaaGreatDoor.P
end
section
namespace Go.Proofs.YtailoobjgbldgaaGreatDoor.P
open Go.RowKit Go.Proofs.YtailoobjgbldgaaGreatDoorW.PrintWords Go.Proofs.YtailoobjgbldgaaGreatDoorW.PrintLast Go.Proofs.YtailoobjgbldgaaGreatDoorW.PrintMore
attribute [local go_sem] max2_int min2_int max_two min_two max_three min_three max_four min_four   
set_option linter.unusedVariables false
set_option linter.unusedSimpArgs false
def size_terms_quick.f (l0_0 : List Int) (l0_1 : List ByteArray) (a0_2 : ByteArray) : Option (Int) := (tNear.f l0_0 l0_1 a0_2 10000000).bind fun bt318 => (if bt318.2.2 = true then (if bt318.1 ≥ 0 then (some 1) else (if bt318.2.1 ≤ 0 then (some (-1)) else (some 0))) else (some 0))
set_option maxHeartbeats 8000000 in
set_option maxRecDepth 100000 in
theorem size_terms_quick.calls (A0_0 : Option Addr) (c0_0 : Nat) (l0_0 : List Int) (A0_1 : Option Addr) (c0_1 : Nat) (l0_1 : List ByteArray) (a0_2 : ByteArray) (r : Int) (w : World) (hG : Glob w) (hr0_0 : Kd.C (Kd.int .i64) w A0_0 l0_0.length l0_0) (hc0_0 : l0_0.length ≤ c0_0) (hr0_1 : Kd.C Kd.string w A0_1 l0_1.length l0_1) (hc0_1 : l0_1.length ≤ c0_1) (h : size_terms_quick.f l0_0 l0_1 a0_2 = some r) :
  Calls Tryz.prog 108 #[.agg #[.slice A0_0 l0_0.length c0_0, .slice A0_1 l0_1.length c0_1, .string a0_2]] w fun e w' => e = .returned (.int .i64 r) ∧ Below w.heap.size w w' := by
 have hu103 := Tryz.underlying103
 have HR0_0 := Aside0.mk hr0_0
 have HC0_0 := Aside0.mk hc0_0
 clear hr0_0 hc0_0
 have HR0_1 := Aside0.mk hr0_1
 have HC0_1 := Aside0.mk hc0_1
 clear hr0_1 hc0_1
 have HG0 := Aside0.mk hG
 clear hG
 have HB := Aside0.mk (Below.refl w.heap.size w)
 have H : ((tNear.f l0_0 l0_1 a0_2 10000000).bind fun bt318 => (if bt318.2.2 = true then (if bt318.1 ≥ 0 then (some 1) else (if bt318.2.1 ≤ 0 then (some (-1)) else (some 0))) else (some 0))) = some r := h
 clear h
 replace H := Option.bind_eq_some_iff.mp H
 obtain ⟨⟨t318, t319, t320⟩, A20, H⟩ := H
 replace H : (if t320 = true then (if t318 ≥ 0 then (some 1) else (if t319 ≤ 0 then (some (-1)) else (some 0))) else (some 0)) = some r := H
 have A2 := Aside0.mk A20
 clear A20
 by_cases c3 : t320 = true
 ·subst c3
  have H1 : (if t318 ≥ 0 then (some 1) else (if t319 ≤ 0 then (some (-1)) else (some 0))) = some r := by rw [if_pos rfl] at H; exact H
  clear H
  have H := H1
  clear H1
  by_cases c4 : t318 ≥ 0
  ·rw [if_pos c4] at H
   have c4b0 : decide (0 ≤ t318) = true := decide_eq_true c4
   clear c4
   obtain rfl := Option.some.inj H
   go_enter Tryz.func108, Tryz.ntmps108
   go_wp2_with (first | ((with_reducible refine gate_dst (N := 1) rfl ?_); refine boxM (N := 1) #[.slice A0_0 l0_0.length c0_0, .slice A0_1 l0_1.length c0_1, .string a0_2] 103 ?_; intro gb317 hg w5 hbox hb; have BK317 := Aside0.mk (hbox); have GW317 := Aside0.mk ((by rw [hg]; exact (below_size (bl HB)) : w.heap.size ≤ gb317)); have GE317 := Aside0.mk ((by rw [hg]; exact (below_size (bl HB)) : w.heap.size ≤ gb317)); replace HB := Aside0.mk (below_step (bl HB) hb); clear hb hbox hg; have hcz6_0 : w5.cell? ⟨gb317, 0, none⟩ = some (.slice A0_0 l0_0.length c0_0) := (blk_cell BK317.out 0).trans rfl; have hcz6_1 : w5.cell? ⟨gb317, 1, none⟩ = some (.slice A0_1 l0_1.length c0_1) := (blk_cell BK317.out 1).trans rfl; have hcz6_2 : w5.cell? ⟨gb317, 2, none⟩ = some (.string a0_2) := (blk_cell BK317.out 2).trans rfl; have hfz6_0 := blk_frozen BK317.out 0; have hfz6_1 := blk_frozen BK317.out 1; have hfz6_2 := blk_frozen BK317.out 2) | ((with_reducible refine gate_callee (f := 134) rfl ?_); refine goesM (some 8) Tryz.func134 #[.agg #[.slice A0_0 l0_0.length c0_0, .slice A0_1 l0_1.length c0_1, .string a0_2], .int .i64 10000000] ?_; (with_reducible refine (tNear.calls _ _ l0_0 _ _ l0_1 a0_2 10000000 t318 t319 true _ ?side1 ?side2 ?side3 ?side4 ?side5 A2.out).mono ?_); (case side1 => exact Glob.below HG0.out (bl HB)); (case side2 => repeat (first | exact (Kd.C_below HR0_0.out HB.out) | (with_reducible refine Kd.C_alloc ?_ _) | (with_reducible refine Kd.C_drewN ?_ _) | (with_reducible refine Kd.C_drew ?_))); (case side3 => exact HC0_0.out); (case side4 => repeat (first | exact (Kd.C_below HR0_1.out HB.out) | (with_reducible refine Kd.C_alloc ?_ _) | (with_reducible refine Kd.C_drewN ?_ _) | (with_reducible refine Kd.C_drew ?_))); (case side5 => exact HC0_1.out); rintro e w7 ⟨rfl, hb⟩; refine ⟨_, rfl, ?_⟩; replace BK317 := Aside0.mk (blk_below (g := gb317) (o := .cells #[.slice A0_0 l0_0.length c0_0, .slice A0_1 l0_1.length c0_1, .string a0_2] 103 (0, 0)) (bk BK317) hb); replace HB := Aside0.mk (below_step (bl HB) hb); (try clear hb); (try clear hb2); (try clear hk); (try clear hi)))
   go_ret
   exact ⟨rl, bl HB⟩
  ·rw [if_neg c4] at H
   have c4b0 : decide (0 ≤ t318) = false := decide_eq_false c4
   clear c4
   by_cases c8 : t319 ≤ 0
   ·rw [if_pos c8] at H
    have c8b0 : decide (t319 ≤ 0) = true := decide_eq_true c8
    clear c8
    obtain rfl := Option.some.inj H
    go_enter Tryz.func108, Tryz.ntmps108
    go_wp2_with (first | ((with_reducible refine gate_dst (N := 1) rfl ?_); refine boxM (N := 1) #[.slice A0_0 l0_0.length c0_0, .slice A0_1 l0_1.length c0_1, .string a0_2] 103 ?_; intro gb317 hg w9 hbox hb; have BK317 := Aside0.mk (hbox); have GW317 := Aside0.mk ((by rw [hg]; exact (below_size (bl HB)) : w.heap.size ≤ gb317)); have GE317 := Aside0.mk ((by rw [hg]; exact (below_size (bl HB)) : w.heap.size ≤ gb317)); replace HB := Aside0.mk (below_step (bl HB) hb); clear hb hbox hg; have hcz10_0 : w9.cell? ⟨gb317, 0, none⟩ = some (.slice A0_0 l0_0.length c0_0) := (blk_cell BK317.out 0).trans rfl; have hcz10_1 : w9.cell? ⟨gb317, 1, none⟩ = some (.slice A0_1 l0_1.length c0_1) := (blk_cell BK317.out 1).trans rfl; have hcz10_2 : w9.cell? ⟨gb317, 2, none⟩ = some (.string a0_2) := (blk_cell BK317.out 2).trans rfl; have hfz10_0 := blk_frozen BK317.out 0; have hfz10_1 := blk_frozen BK317.out 1; have hfz10_2 := blk_frozen BK317.out 2) | ((with_reducible refine gate_callee (f := 134) rfl ?_); refine goesM (some 8) Tryz.func134 #[.agg #[.slice A0_0 l0_0.length c0_0, .slice A0_1 l0_1.length c0_1, .string a0_2], .int .i64 10000000] ?_; (with_reducible refine (tNear.calls _ _ l0_0 _ _ l0_1 a0_2 10000000 t318 t319 true _ ?side1 ?side2 ?side3 ?side4 ?side5 A2.out).mono ?_); (case side1 => exact Glob.below HG0.out (bl HB)); (case side2 => repeat (first | exact (Kd.C_below HR0_0.out HB.out) | (with_reducible refine Kd.C_alloc ?_ _) | (with_reducible refine Kd.C_drewN ?_ _) | (with_reducible refine Kd.C_drew ?_))); (case side3 => exact HC0_0.out); (case side4 => repeat (first | exact (Kd.C_below HR0_1.out HB.out) | (with_reducible refine Kd.C_alloc ?_ _) | (with_reducible refine Kd.C_drewN ?_ _) | (with_reducible refine Kd.C_drew ?_))); (case side5 => exact HC0_1.out); rintro e w11 ⟨rfl, hb⟩; refine ⟨_, rfl, ?_⟩; replace BK317 := Aside0.mk (blk_below (g := gb317) (o := .cells #[.slice A0_0 l0_0.length c0_0, .slice A0_1 l0_1.length c0_1, .string a0_2] 103 (0, 0)) (bk BK317) hb); replace HB := Aside0.mk (below_step (bl HB) hb); (try clear hb); (try clear hb2); (try clear hk); (try clear hi)))
    go_ret
    exact ⟨rl, bl HB⟩
   ·rw [if_neg c8] at H
    have c8b0 : decide (t319 ≤ 0) = false := decide_eq_false c8
    clear c8
    obtain rfl := Option.some.inj H
    go_enter Tryz.func108, Tryz.ntmps108
    go_wp2_with (first | ((with_reducible refine gate_dst (N := 1) rfl ?_); refine boxM (N := 1) #[.slice A0_0 l0_0.length c0_0, .slice A0_1 l0_1.length c0_1, .string a0_2] 103 ?_; intro gb317 hg w12 hbox hb; have BK317 := Aside0.mk (hbox); have GW317 := Aside0.mk ((by rw [hg]; exact (below_size (bl HB)) : w.heap.size ≤ gb317)); have GE317 := Aside0.mk ((by rw [hg]; exact (below_size (bl HB)) : w.heap.size ≤ gb317)); replace HB := Aside0.mk (below_step (bl HB) hb); clear hb hbox hg; have hcz13_0 : w12.cell? ⟨gb317, 0, none⟩ = some (.slice A0_0 l0_0.length c0_0) := (blk_cell BK317.out 0).trans rfl; have hcz13_1 : w12.cell? ⟨gb317, 1, none⟩ = some (.slice A0_1 l0_1.length c0_1) := (blk_cell BK317.out 1).trans rfl; have hcz13_2 : w12.cell? ⟨gb317, 2, none⟩ = some (.string a0_2) := (blk_cell BK317.out 2).trans rfl; have hfz13_0 := blk_frozen BK317.out 0; have hfz13_1 := blk_frozen BK317.out 1; have hfz13_2 := blk_frozen BK317.out 2) | ((with_reducible refine gate_callee (f := 134) rfl ?_); refine goesM (some 8) Tryz.func134 #[.agg #[.slice A0_0 l0_0.length c0_0, .slice A0_1 l0_1.length c0_1, .string a0_2], .int .i64 10000000] ?_; (with_reducible refine (tNear.calls _ _ l0_0 _ _ l0_1 a0_2 10000000 t318 t319 true _ ?side1 ?side2 ?side3 ?side4 ?side5 A2.out).mono ?_); (case side1 => exact Glob.below HG0.out (bl HB)); (case side2 => repeat (first | exact (Kd.C_below HR0_0.out HB.out) | (with_reducible refine Kd.C_alloc ?_ _) | (with_reducible refine Kd.C_drewN ?_ _) | (with_reducible refine Kd.C_drew ?_))); (case side3 => exact HC0_0.out); (case side4 => repeat (first | exact (Kd.C_below HR0_1.out HB.out) | (with_reducible refine Kd.C_alloc ?_ _) | (with_reducible refine Kd.C_drewN ?_ _) | (with_reducible refine Kd.C_drew ?_))); (case side5 => exact HC0_1.out); rintro e w14 ⟨rfl, hb⟩; refine ⟨_, rfl, ?_⟩; replace BK317 := Aside0.mk (blk_below (g := gb317) (o := .cells #[.slice A0_0 l0_0.length c0_0, .slice A0_1 l0_1.length c0_1, .string a0_2] 103 (0, 0)) (bk BK317) hb); replace HB := Aside0.mk (below_step (bl HB) hb); (try clear hb); (try clear hb2); (try clear hk); (try clear hi)))
    go_ret
    exact ⟨rl, bl HB⟩
 ·replace c3 := Bool.eq_false_iff.mpr c3
  subst c3
  have H1 : (some 0) = some r := by rw [if_neg (show ¬ (false = true) by decide)] at H; exact H
  clear H
  have H := H1
  clear H1
  obtain rfl := Option.some.inj H
  go_enter Tryz.func108, Tryz.ntmps108
  go_wp2_with (first | ((with_reducible refine gate_dst (N := 1) rfl ?_); refine boxM (N := 1) #[.slice A0_0 l0_0.length c0_0, .slice A0_1 l0_1.length c0_1, .string a0_2] 103 ?_; intro gb317 hg w15 hbox hb; have BK317 := Aside0.mk (hbox); have GW317 := Aside0.mk ((by rw [hg]; exact (below_size (bl HB)) : w.heap.size ≤ gb317)); have GE317 := Aside0.mk ((by rw [hg]; exact (below_size (bl HB)) : w.heap.size ≤ gb317)); replace HB := Aside0.mk (below_step (bl HB) hb); clear hb hbox hg; have hcz16_0 : w15.cell? ⟨gb317, 0, none⟩ = some (.slice A0_0 l0_0.length c0_0) := (blk_cell BK317.out 0).trans rfl; have hcz16_1 : w15.cell? ⟨gb317, 1, none⟩ = some (.slice A0_1 l0_1.length c0_1) := (blk_cell BK317.out 1).trans rfl; have hcz16_2 : w15.cell? ⟨gb317, 2, none⟩ = some (.string a0_2) := (blk_cell BK317.out 2).trans rfl; have hfz16_0 := blk_frozen BK317.out 0; have hfz16_1 := blk_frozen BK317.out 1; have hfz16_2 := blk_frozen BK317.out 2) | ((with_reducible refine gate_callee (f := 134) rfl ?_); refine goesM (some 8) Tryz.func134 #[.agg #[.slice A0_0 l0_0.length c0_0, .slice A0_1 l0_1.length c0_1, .string a0_2], .int .i64 10000000] ?_; (with_reducible refine (tNear.calls _ _ l0_0 _ _ l0_1 a0_2 10000000 t318 t319 false _ ?side1 ?side2 ?side3 ?side4 ?side5 A2.out).mono ?_); (case side1 => exact Glob.below HG0.out (bl HB)); (case side2 => repeat (first | exact (Kd.C_below HR0_0.out HB.out) | (with_reducible refine Kd.C_alloc ?_ _) | (with_reducible refine Kd.C_drewN ?_ _) | (with_reducible refine Kd.C_drew ?_))); (case side3 => exact HC0_0.out); (case side4 => repeat (first | exact (Kd.C_below HR0_1.out HB.out) | (with_reducible refine Kd.C_alloc ?_ _) | (with_reducible refine Kd.C_drewN ?_ _) | (with_reducible refine Kd.C_drew ?_))); (case side5 => exact HC0_1.out); rintro e w17 ⟨rfl, hb⟩; refine ⟨_, rfl, ?_⟩; replace BK317 := Aside0.mk (blk_below (g := gb317) (o := .cells #[.slice A0_0 l0_0.length c0_0, .slice A0_1 l0_1.length c0_1, .string a0_2] 103 (0, 0)) (bk BK317) hb); replace HB := Aside0.mk (below_step (bl HB) hb); (try clear hb); (try clear hb2); (try clear hk); (try clear hi)))
  go_ret
  exact ⟨rl, bl HB⟩
def size_terms_sign.f (l0_0 : List Int) (l0_1 : List ByteArray) (a0_2 : ByteArray) : Option (Int) := if (l0_0.length : Int) = 0 then (some 0) else ((size_terms_quick.f l0_0 l0_1 a0_2).bind fun t322 => (if t322 = 0 then (none) else (some t322)))
set_option maxHeartbeats 8000000 in
set_option maxRecDepth 100000 in
theorem size_terms_sign.calls (A0_0 : Option Addr) (c0_0 : Nat) (l0_0 : List Int) (A0_1 : Option Addr) (c0_1 : Nat) (l0_1 : List ByteArray) (a0_2 : ByteArray) (r : Int) (w : World) (hG : Glob w) (hr0_0 : Kd.C (Kd.int .i64) w A0_0 l0_0.length l0_0) (hc0_0 : l0_0.length ≤ c0_0) (hr0_1 : Kd.C Kd.string w A0_1 l0_1.length l0_1) (hc0_1 : l0_1.length ≤ c0_1) (h : size_terms_sign.f l0_0 l0_1 a0_2 = some r) :
  Calls Tryz.prog 67 #[.agg #[.slice A0_0 l0_0.length c0_0, .slice A0_1 l0_1.length c0_1, .string a0_2]] w fun e w' => e = .returned (.int .i64 r) ∧ Below w.heap.size w w' := by
 have hu103 := Tryz.underlying103
 have HR0_0 := Aside0.mk hr0_0
 have HC0_0 := Aside0.mk hc0_0
 clear hr0_0 hc0_0
 have HR0_1 := Aside0.mk hr0_1
 have HC0_1 := Aside0.mk hc0_1
 clear hr0_1 hc0_1
 have HG0 := Aside0.mk hG
 clear hG
 have HB := Aside0.mk (Below.refl w.heap.size w)
 have H : (if (l0_0.length : Int) = 0 then (some 0) else ((size_terms_quick.f l0_0 l0_1 a0_2).bind fun t322 => (if t322 = 0 then (none) else (some t322)))) = some r := h
 clear h
 by_cases c2 : (l0_0.length : Int) = 0
 ·rw [if_pos c2] at H
  have c2b0 : ((l0_0.length : Int) == 0) = true := beq_iff_eq.mpr c2
  have c2b1 : ((l0_0.length : Int) != 0) = false := bne_eq_false_iff_eq.mpr c2
  clear c2
  obtain rfl := Option.some.inj H
  go_enter Tryz.func67, Tryz.ntmps67
  go_wp2_with (first | ((with_reducible refine gate_dst (N := 1) rfl ?_); refine boxM (N := 1) #[.slice A0_0 l0_0.length c0_0, .slice A0_1 l0_1.length c0_1, .string a0_2] 103 ?_; intro gb321 hg w3 hbox hb; have BK321 := Aside0.mk (hbox); have GW321 := Aside0.mk ((by rw [hg]; exact (below_size (bl HB)) : w.heap.size ≤ gb321)); have GE321 := Aside0.mk ((by rw [hg]; exact (below_size (bl HB)) : w.heap.size ≤ gb321)); replace HB := Aside0.mk (below_step (bl HB) hb); clear hb hbox hg; have hcz4_0 : w3.cell? ⟨gb321, 0, none⟩ = some (.slice A0_0 l0_0.length c0_0) := (blk_cell BK321.out 0).trans rfl; have hcz4_1 : w3.cell? ⟨gb321, 1, none⟩ = some (.slice A0_1 l0_1.length c0_1) := (blk_cell BK321.out 1).trans rfl; have hcz4_2 : w3.cell? ⟨gb321, 2, none⟩ = some (.string a0_2) := (blk_cell BK321.out 2).trans rfl; have hfz4_0 := blk_frozen BK321.out 0; have hfz4_1 := blk_frozen BK321.out 1; have hfz4_2 := blk_frozen BK321.out 2))
  go_step3
  go_wp2_with (first | ((with_reducible refine gate_dst (N := 1) rfl ?_); refine boxM (N := 1) #[.slice A0_0 l0_0.length c0_0, .slice A0_1 l0_1.length c0_1, .string a0_2] 103 ?_; intro gb321 hg w3 hbox hb; have BK321 := Aside0.mk (hbox); have GW321 := Aside0.mk ((by rw [hg]; exact (below_size (bl HB)) : w.heap.size ≤ gb321)); have GE321 := Aside0.mk ((by rw [hg]; exact (below_size (bl HB)) : w.heap.size ≤ gb321)); replace HB := Aside0.mk (below_step (bl HB) hb); clear hb hbox hg; have hcz4_0 : w3.cell? ⟨gb321, 0, none⟩ = some (.slice A0_0 l0_0.length c0_0) := (blk_cell BK321.out 0).trans rfl; have hcz4_1 : w3.cell? ⟨gb321, 1, none⟩ = some (.slice A0_1 l0_1.length c0_1) := (blk_cell BK321.out 1).trans rfl; have hcz4_2 : w3.cell? ⟨gb321, 2, none⟩ = some (.string a0_2) := (blk_cell BK321.out 2).trans rfl; have hfz4_0 := blk_frozen BK321.out 0; have hfz4_1 := blk_frozen BK321.out 1; have hfz4_2 := blk_frozen BK321.out 2))
  rw [Exit.noGoto_ret]
  go_ret
  exact ⟨rl, bl HB⟩
 ·rw [if_neg c2] at H
  have c2b0 : ((l0_0.length : Int) == 0) = false := beq_eq_false_iff_ne.mpr c2
  have c2b1 : ((l0_0.length : Int) != 0) = true := bne_iff_ne.mpr c2
  have c2b2 : ¬ (l0_0 = []) := fun h_ => c2 (by rw [h_]; rfl)
  replace H := Option.bind_eq_some_iff.mp H
  obtain ⟨t322, A50, H⟩ := H
  replace H : (if t322 = 0 then (none) else (some t322)) = some r := H
  have A5 := Aside0.mk A50
  clear A50
  by_cases c6 : t322 = 0
  ·rw [if_pos c6] at H
   exact absurd H (by simp)
  ·rw [if_neg c6] at H
   have c6b0 : (t322 == 0) = false := beq_eq_false_iff_ne.mpr c6
   have c6b1 : (t322 != 0) = true := bne_iff_ne.mpr c6
   obtain rfl := Option.some.inj H
   go_enter Tryz.func67, Tryz.ntmps67
   go_wp2_with (first | ((with_reducible refine gate_dst (N := 1) rfl ?_); refine boxM (N := 1) #[.slice A0_0 l0_0.length c0_0, .slice A0_1 l0_1.length c0_1, .string a0_2] 103 ?_; intro gb321 hg w7 hbox hb; have BK321 := Aside0.mk (hbox); have GW321 := Aside0.mk ((by rw [hg]; exact (below_size (bl HB)) : w.heap.size ≤ gb321)); have GE321 := Aside0.mk ((by rw [hg]; exact (below_size (bl HB)) : w.heap.size ≤ gb321)); replace HB := Aside0.mk (below_step (bl HB) hb); clear hb hbox hg; have hcz8_0 : w7.cell? ⟨gb321, 0, none⟩ = some (.slice A0_0 l0_0.length c0_0) := (blk_cell BK321.out 0).trans rfl; have hcz8_1 : w7.cell? ⟨gb321, 1, none⟩ = some (.slice A0_1 l0_1.length c0_1) := (blk_cell BK321.out 1).trans rfl; have hcz8_2 : w7.cell? ⟨gb321, 2, none⟩ = some (.string a0_2) := (blk_cell BK321.out 2).trans rfl; have hfz8_0 := blk_frozen BK321.out 0; have hfz8_1 := blk_frozen BK321.out 1; have hfz8_2 := blk_frozen BK321.out 2) | ((with_reducible refine gate_callee (f := 108) rfl ?_); refine goesM (some 12) Tryz.func108 #[.agg #[.slice A0_0 l0_0.length c0_0, .slice A0_1 l0_1.length c0_1, .string a0_2]] ?_; (with_reducible refine (size_terms_quick.calls _ _ l0_0 _ _ l0_1 a0_2 t322 _ ?side1 ?side2 ?side3 ?side4 ?side5 A5.out).mono ?_); (case side1 => exact Glob.below HG0.out (bl HB)); (case side2 => repeat (first | exact (Kd.C_below HR0_0.out HB.out) | (with_reducible refine Kd.C_alloc ?_ _) | (with_reducible refine Kd.C_drewN ?_ _) | (with_reducible refine Kd.C_drew ?_))); (case side3 => exact HC0_0.out); (case side4 => repeat (first | exact (Kd.C_below HR0_1.out HB.out) | (with_reducible refine Kd.C_alloc ?_ _) | (with_reducible refine Kd.C_drewN ?_ _) | (with_reducible refine Kd.C_drew ?_))); (case side5 => exact HC0_1.out); rintro e w9 ⟨rfl, hb⟩; refine ⟨_, rfl, ?_⟩; replace BK321 := Aside0.mk (blk_below (g := gb321) (o := .cells #[.slice A0_0 l0_0.length c0_0, .slice A0_1 l0_1.length c0_1, .string a0_2] 103 (0, 0)) (bk BK321) hb); replace HB := Aside0.mk (below_step (bl HB) hb); (try clear hb); (try clear hb2); (try clear hk); (try clear hi)))
   go_step3
   go_wp2_with (first | ((with_reducible refine gate_dst (N := 1) rfl ?_); refine boxM (N := 1) #[.slice A0_0 l0_0.length c0_0, .slice A0_1 l0_1.length c0_1, .string a0_2] 103 ?_; intro gb321 hg w7 hbox hb; have BK321 := Aside0.mk (hbox); have GW321 := Aside0.mk ((by rw [hg]; exact (below_size (bl HB)) : w.heap.size ≤ gb321)); have GE321 := Aside0.mk ((by rw [hg]; exact (below_size (bl HB)) : w.heap.size ≤ gb321)); replace HB := Aside0.mk (below_step (bl HB) hb); clear hb hbox hg; have hcz8_0 : w7.cell? ⟨gb321, 0, none⟩ = some (.slice A0_0 l0_0.length c0_0) := (blk_cell BK321.out 0).trans rfl; have hcz8_1 : w7.cell? ⟨gb321, 1, none⟩ = some (.slice A0_1 l0_1.length c0_1) := (blk_cell BK321.out 1).trans rfl; have hcz8_2 : w7.cell? ⟨gb321, 2, none⟩ = some (.string a0_2) := (blk_cell BK321.out 2).trans rfl; have hfz8_0 := blk_frozen BK321.out 0; have hfz8_1 := blk_frozen BK321.out 1; have hfz8_2 := blk_frozen BK321.out 2) | ((with_reducible refine gate_callee (f := 108) rfl ?_); refine goesM (some 12) Tryz.func108 #[.agg #[.slice A0_0 l0_0.length c0_0, .slice A0_1 l0_1.length c0_1, .string a0_2]] ?_; (with_reducible refine (size_terms_quick.calls _ _ l0_0 _ _ l0_1 a0_2 t322 _ ?side1 ?side2 ?side3 ?side4 ?side5 A5.out).mono ?_); (case side1 => exact Glob.below HG0.out (bl HB)); (case side2 => repeat (first | exact (Kd.C_below HR0_0.out HB.out) | (with_reducible refine Kd.C_alloc ?_ _) | (with_reducible refine Kd.C_drewN ?_ _) | (with_reducible refine Kd.C_drew ?_))); (case side3 => exact HC0_0.out); (case side4 => repeat (first | exact (Kd.C_below HR0_1.out HB.out) | (with_reducible refine Kd.C_alloc ?_ _) | (with_reducible refine Kd.C_drewN ?_ _) | (with_reducible refine Kd.C_drew ?_))); (case side5 => exact HC0_1.out); rintro e w9 ⟨rfl, hb⟩; refine ⟨_, rfl, ?_⟩; replace BK321 := Aside0.mk (blk_below (g := gb321) (o := .cells #[.slice A0_0 l0_0.length c0_0, .slice A0_1 l0_1.length c0_1, .string a0_2] 103 (0, 0)) (bk BK321) hb); replace HB := Aside0.mk (below_step (bl HB) hb); (try clear hb); (try clear hb2); (try clear hk); (try clear hi)))
   rw [Exit.noGoto_ret]
   go_ret
   exact ⟨rl, bl HB⟩
def size_compare.f (k : Nat) (l0 : List Int) (l1 : List (S30)) (l2 : List (S30)) : Option (Int) := (size_number.f 1).bind fun bt326 => ((size_number.f (-1)).bind fun bt328 => ((size_sum.f k (l0.length : Int) (([l1, l2] : List (List (S30)))) (([(⟨bt326.1, bt326.2⟩ : S30), (⟨bt328.1, bt328.2⟩ : S30)] : List (S30)))).bind fun t333 => ((size_termsOf.f k l0 t333).bind fun bt336 => ((size_terms_sign.f bt336.1 bt336.2.1 bt336.2.2).bind fun t343 => (some t343)))))
set_option maxHeartbeats 8000000 in
set_option maxRecDepth 100000 in
theorem size_compare.calls (k : Nat) (A0 : Option Addr) (c0 : Nat) (l0 : List Int) (P1_ : Nat → Prop) (A1 : Option Addr) (c1 : Nat) (l1 : List (S30)) (P2_ : Nat → Prop) (A2 : Option Addr) (c2 : Nat) (l2 : List (S30)) (r : Int) (w : World) (hG : Glob w) (hr0 : Kd.C (Kd.int .i64) w A0 l0.length l0) (hc0 : l0.length ≤ c0) (hs1 : Kd.V k30 30 w w.heap.size (fun k_ => P1_ k_) (.slice A1 l1.length c1) l1) (hs2 : Kd.V k30 30 w w.heap.size (fun k_ => P2_ k_) (.slice A2 l2.length c2) l2) (h : size_compare.f k l0 l1 l2 = some r) :
  Calls Tryz.prog 64 #[.slice A0 l0.length c0, .slice A1 l1.length c1, .slice A2 l2.length c2] w fun e w' => e = .returned (.int .i64 r) ∧ Below w.heap.size w w' := by
 have HR0 := Aside0.mk hr0
 have HC0 := Aside0.mk hc0
 clear hr0 hc0
 have HO1 := Aside0.mk (show Kd.V k30 30 w w.heap.size (fun k_ => ((P1_ k_ ∨ P2_ k_) ∨ w.heap.size ≤ k_)) (.slice A1 l1.length c1) l1 from Kd.V_mono hs1 (fun k_ hk => .inl (.inl hk)))
 have HO2 := Aside0.mk (show Kd.V k30 30 w w.heap.size (fun k_ => ((P1_ k_ ∨ P2_ k_) ∨ w.heap.size ≤ k_)) (.slice A2 l2.length c2) l2 from Kd.V_mono hs2 (fun k_ hk => .inl (.inr hk)))
 have HG0 := Aside0.mk hG
 clear hG
 have HB := Aside0.mk (Below.refl w.heap.size w)
 have H : ((size_number.f 1).bind fun bt326 => ((size_number.f (-1)).bind fun bt328 => ((size_sum.f k (l0.length : Int) (([l1, l2] : List (List (S30)))) (([(⟨bt326.1, bt326.2⟩ : S30), (⟨bt328.1, bt328.2⟩ : S30)] : List (S30)))).bind fun t333 => ((size_termsOf.f k l0 t333).bind fun bt336 => ((size_terms_sign.f bt336.1 bt336.2.1 bt336.2.2).bind fun t343 => (some t343)))))) = some r := h
 clear h
 obtain ⟨y323, hy323⟩ : ∃ y_ : List (List (S30)), y_ = (([l1, l2] : List (List (S30)))) := ⟨_, rfl⟩
 replace H : ((size_number.f 1).bind fun bt326 => ((size_number.f (-1)).bind fun bt328 => ((size_sum.f k (l0.length : Int) y323 (([(⟨bt326.1, bt326.2⟩ : S30), (⟨bt328.1, bt328.2⟩ : S30)] : List (S30)))).bind fun t333 => ((size_termsOf.f k l0 t333).bind fun bt336 => ((size_terms_sign.f bt336.1 bt336.2.1 bt336.2.2).bind fun t343 => (some t343)))))) = some r := by first | (rw [hy323]; with_reducible exact H) | (have H2_ := (Option.bind_some _ _).symm.trans H; rw [hy323]; with_reducible exact H2_) | (have H2_ := (Option.bind_some _ _).symm.trans H; with_reducible exact H2_) | with_reducible exact H | (rw [hy323]; exact H) | exact H
 have Ny323 := Aside0.mk hy323
 clear hy323
 replace H := Option.bind_eq_some_iff.mp H
 obtain ⟨⟨t326, t327⟩, A40, H⟩ := H
 replace H : ((size_number.f (-1)).bind fun bt328 => ((size_sum.f k (l0.length : Int) y323 (([(⟨t326, t327⟩ : S30), (⟨bt328.1, bt328.2⟩ : S30)] : List (S30)))).bind fun t333 => ((size_termsOf.f k l0 t333).bind fun bt336 => ((size_terms_sign.f bt336.1 bt336.2.1 bt336.2.2).bind fun t343 => (some t343))))) = some r := H
 have A4 := Aside0.mk A40
 clear A40
 replace H := Option.bind_eq_some_iff.mp H
 obtain ⟨⟨t328, t329⟩, A50, H⟩ := H
 replace H : ((size_sum.f k (l0.length : Int) y323 (([(⟨t326, t327⟩ : S30), (⟨t328, t329⟩ : S30)] : List (S30)))).bind fun t333 => ((size_termsOf.f k l0 t333).bind fun bt336 => ((size_terms_sign.f bt336.1 bt336.2.1 bt336.2.2).bind fun t343 => (some t343)))) = some r := H
 have A5 := Aside0.mk A50
 clear A50
 obtain ⟨y330, hy330⟩ : ∃ y_ : List (S30), y_ = (([(⟨t326, t327⟩ : S30), (⟨t328, t329⟩ : S30)] : List (S30))) := ⟨_, rfl⟩
 replace H : ((size_sum.f k (l0.length : Int) y323 y330).bind fun t333 => ((size_termsOf.f k l0 t333).bind fun bt336 => ((size_terms_sign.f bt336.1 bt336.2.1 bt336.2.2).bind fun t343 => (some t343)))) = some r := by first | (rw [hy330]; with_reducible exact H) | (have H2_ := (Option.bind_some _ _).symm.trans H; rw [hy330]; with_reducible exact H2_) | (have H2_ := (Option.bind_some _ _).symm.trans H; with_reducible exact H2_) | with_reducible exact H | (rw [hy330]; exact H) | exact H
 have Ny330 := Aside0.mk hy330
 clear hy330
 replace H := Option.bind_eq_some_iff.mp H
 obtain ⟨t333, A60, H⟩ := H
 replace H : ((size_termsOf.f k l0 t333).bind fun bt336 => ((size_terms_sign.f bt336.1 bt336.2.1 bt336.2.2).bind fun t343 => (some t343))) = some r := H
 have A6 := Aside0.mk A60
 clear A60
 replace H := Option.bind_eq_some_iff.mp H
 obtain ⟨⟨t336, t339, t342⟩, A70, H⟩ := H
 replace H : ((size_terms_sign.f t336 t339 t342).bind fun t343 => (some t343)) = some r := H
 have A7 := Aside0.mk A70
 clear A70
 replace H := Option.bind_eq_some_iff.mp H
 obtain ⟨t343, A80, H⟩ := H
 replace H : (some t343) = some r := H
 have A8 := Aside0.mk A80
 clear A80
 obtain rfl := Option.some.inj H
 go_enter Tryz.func64, Tryz.ntmps64
 go_wp2_with (first | ((with_reducible refine gate_dst (N := 12) rfl ?_); refine Kd.N_lit (Kd.slice 30 k30) _ 34 ?hg (N' := 12) ?hd (xs := ([l1, l2] : List (List (S30)))) (inner := [.slice A1 l1.length c1, .slice A2 l2.length c2]) (ok := (fun k_ => ((P1_ k_ ∨ P2_ k_) ∨ w.heap.size ≤ k_))) (okp := (fun k_ => ((P1_ k_ ∨ P2_ k_) ∨ w.heap.size ≤ k_))) ?hr ?hp (fun _ hk => hk) ((show ∀ k_, w.heap.size ≤ k_ → (fun k_ => ((P1_ k_ ∨ P2_ k_) ∨ w.heap.size ≤ k_)) k_ from fun k_ hk => (.inr (Nat.le_trans (below_size (bl HB)) hk))) _ (Nat.le_refl _)) (Below.refl _ _) (Nat.le_refl _) (by simp) ?_; (case hd => rfl); (case hg => rfl); (case hr => first | (go_simp; done) | (go_simp; rfl)); (case hp => exact (Reps.one (show Kd.FK (Kd.slice 30 k30) _ _ l1 [.slice A1 l1.length c1] from (Kd.FK_slice_mk (Kd.V_reads' (Kd.V_mono (ok' := (fun k_ => ((P1_ k_ ∨ P2_ k_) ∨ w.heap.size ≤ k_))) (HO1.out) (fun k_ hk => hk))).2.1 (Kd.V_F (Kd.V_mono (ok' := (fun k_ => ((P1_ k_ ∨ P2_ k_) ∨ w.heap.size ≤ k_))) (HO1.out) (fun k_ hk => hk))))) (Reps.one (show Kd.FK (Kd.slice 30 k30) _ _ l2 [.slice A2 l2.length c2] from (Kd.FK_slice_mk (Kd.V_reads' (Kd.V_mono (ok' := (fun k_ => ((P1_ k_ ∨ P2_ k_) ∨ w.heap.size ≤ k_))) (HO2.out) (fun k_ hk => hk))).2.1 (Kd.V_F (Kd.V_mono (ok' := (fun k_ => ((P1_ k_ ∨ P2_ k_) ∨ w.heap.size ≤ k_))) (HO2.out) (fun k_ hk => hk))))) (Reps.none _ _)))); intro v324 w9 ho10 hb hg_ hnew_; clear hg_ hnew_; (first | rw [← Ny323.out] at ho10 | (simp only [Int.reduceToNat] at ho10; rw [← Ny323.out] at ho10)); replace HO1 := Aside0.mk (Kd.V_elder' (by (with_reducible repeat (first | apply Kd.V_alloc | apply Kd.V_drewN | apply Kd.V_drew)); exact HO1.out) (Kd.N_base ho10) hb); replace HO2 := Aside0.mk (Kd.V_elder' (by (with_reducible repeat (first | apply Kd.V_alloc | apply Kd.V_drewN | apply Kd.V_drew)); exact HO2.out) (Kd.N_base ho10) hb); have HO325 := Aside0.mk (Kd.N_lower ho10 (below_size (bl HB))); replace HB := Aside0.mk (below_step (bl HB) hb); clear hb ho10) | ((with_reducible refine gate_callee (f := 65) rfl ?_); refine goesM (some 13) Tryz.func65 #[.int .i64 1] ?_; (with_reducible refine (size_number.calls 1 t326 t327 _ ?side1 A4.out).mono ?_); (case side1 => exact Glob.below HG0.out (bl HB)); rintro e w11 ⟨rfl, hb⟩; refine ⟨_, rfl, ?_⟩; replace HO1 := Aside0.mk (Kd.V_below (by (with_reducible repeat (first | apply Kd.V_alloc | apply Kd.V_drewN | apply Kd.V_drew)); exact HO1.out) hb); replace HO2 := Aside0.mk (Kd.V_below (by (with_reducible repeat (first | apply Kd.V_alloc | apply Kd.V_drewN | apply Kd.V_drew)); exact HO2.out) hb); replace HO325 := Aside0.mk (Kd.N_below (by (with_reducible repeat (first | apply Kd.N_alloc | apply Kd.N_drewN | apply Kd.N_drew)); exact HO325.out) hb); replace HB := Aside0.mk (below_step (bl HB) hb); (try clear hb); (try clear hb2); (try clear hk); (try clear hi)) | ((with_reducible refine gate_callee (f := 65) rfl ?_); refine goesM (some 14) Tryz.func65 #[.int .i64 (-1)] ?_; (with_reducible refine (size_number.calls (-1) t328 t329 _ ?side1 A5.out).mono ?_); (case side1 => exact Glob.below HG0.out (bl HB)); rintro e w12 ⟨rfl, hb⟩; refine ⟨_, rfl, ?_⟩; replace HO1 := Aside0.mk (Kd.V_below (by (with_reducible repeat (first | apply Kd.V_alloc | apply Kd.V_drewN | apply Kd.V_drew)); exact HO1.out) hb); replace HO2 := Aside0.mk (Kd.V_below (by (with_reducible repeat (first | apply Kd.V_alloc | apply Kd.V_drewN | apply Kd.V_drew)); exact HO2.out) hb); replace HO325 := Aside0.mk (Kd.N_below (by (with_reducible repeat (first | apply Kd.N_alloc | apply Kd.N_drewN | apply Kd.N_drew)); exact HO325.out) hb); replace HB := Aside0.mk (below_step (bl HB) hb); (try clear hb); (try clear hb2); (try clear hk); (try clear hi)) | ((with_reducible refine gate_dst (N := 15) rfl ?_); refine Kd.R_lit k30 _ 30 ?hg (N := 15) ?hd (xs := ([(⟨t326, t327⟩ : S30), (⟨t328, t329⟩ : S30)] : List (S30))) (inner := [.string t326, .string t327, .string t328, .string t329]) (ok := fun _ => True) (okp := fun _ => True) ?hr ?hp (fun _ hk => hk) trivial (Below.refl _ _) (Nat.le_refl _) (by simp) ?_; (case hd => rfl); (case hg => rfl); (case hr => first | (go_simp; done) | (go_simp; rfl)); (case hp => exact (Reps.c2 (show Kd.M k30 _ _ _ (⟨t326, t327⟩ : S30) [.string t326, .string t327] from (k30_mkM _ _ _ (⟨t326, t327⟩ : S30) )) (Reps.c2 (show Kd.M k30 _ _ _ (⟨t328, t329⟩ : S30) [.string t328, .string t329] from (k30_mkM _ _ _ (⟨t328, t329⟩ : S30) )) (Reps.none _ _)))); intro v331 w13 ho14 hb hg_ hnew_; clear hg_ hnew_; (first | rw [← Ny330.out] at ho14 | (simp only [Int.reduceToNat] at ho14; rw [← Ny330.out] at ho14)); replace HO1 := Aside0.mk (Kd.V_elder' (by (with_reducible repeat (first | apply Kd.V_alloc | apply Kd.V_drewN | apply Kd.V_drew)); exact HO1.out) (Kd.R_base ho14) hb); replace HO2 := Aside0.mk (Kd.V_elder' (by (with_reducible repeat (first | apply Kd.V_alloc | apply Kd.V_drewN | apply Kd.V_drew)); exact HO2.out) (Kd.R_base ho14) hb); replace HO325 := Aside0.mk (Kd.N_elder' (by (with_reducible repeat (first | apply Kd.N_alloc | apply Kd.N_drewN | apply Kd.N_drew)); exact HO325.out) (Kd.R_base ho14) hb); have HO332 := Aside0.mk (Kd.R_lower (Kd.R_newM (M := fun k_ => (w.heap.size ≤ k_)) ho14 (below_size (bl HB)) (fun k_ h_ => h_)) (below_size (bl HB))); replace HB := Aside0.mk (below_step (bl HB) hb); clear hb ho14; obtain ⟨Ao15, co15, eo15⟩ := Kd.N_slice HO325.out; subst eo15; obtain ⟨Ao16, co16, eo16⟩ := Kd.R_slice HO332.out; subst eo16) | ((with_reducible refine gate_callee (f := 59) rfl ?_); refine goesM (some 16) Tryz.func59 #[.int .i64 (l0.length : Int), .slice Ao15 y323.length co15, .slice Ao16 y330.length co16] ?_; (with_reducible refine (size_sum.calls k (l0.length : Int) _ _ y323 _ _ y330 t333 _ ?side1 ?side2 ?side3 ?side4 ?side5 A6.out).mono ?_); (case side1 => exact Glob.below HG0.out (bl HB)); (case side2 => repeat (first | exact (Kd.N_reads' HO325.out).2.2 | (with_reducible refine Kd.C_alloc ?_ _) | (with_reducible refine Kd.C_drewN ?_ _) | (with_reducible refine Kd.C_drew ?_))); (case side3 => exact (Kd.N_reads' HO325.out).2.1); (case side4 => repeat (first | exact (Kd.R_reads' HO332.out).2.2 | (with_reducible refine Kd.C_alloc ?_ _) | (with_reducible refine Kd.C_drewN ?_ _) | (with_reducible refine Kd.C_drew ?_))); (case side5 => exact (Kd.R_reads' HO332.out).2.1); rintro e w17 ⟨v334, rfl, ho0, hb⟩; refine ⟨_, rfl, ?_⟩; replace HO1 := Aside0.mk (Kd.V_elder' (by (with_reducible repeat (first | apply Kd.V_alloc | apply Kd.V_drewN | apply Kd.V_drew)); exact HO1.out) (Kd.R_base ho0) hb); replace HO2 := Aside0.mk (Kd.V_elder' (by (with_reducible repeat (first | apply Kd.V_alloc | apply Kd.V_drewN | apply Kd.V_drew)); exact HO2.out) (Kd.R_base ho0) hb); replace HO325 := Aside0.mk (Kd.N_elder' (by (with_reducible repeat (first | apply Kd.N_alloc | apply Kd.N_drewN | apply Kd.N_drew)); exact HO325.out) (Kd.R_base ho0) hb); have HO335 := Aside0.mk (Kd.R_lower (Kd.R_new' (Kd.R_newM (M := fun k_ => (w.heap.size ≤ k_)) ho0 (below_size (bl HB)) (fun k_ h_ => h_)) (Kd.R_lt (kr HO332))) (below_size (bl HB))); replace HO332 := Aside0.mk (Kd.R_elder' (kr HO332) (Kd.R_base ho0) hb); replace HB := Aside0.mk (below_step (bl HB) hb); (try clear hb); (try clear hb2); (try clear hk); (try clear hi); (try clear ho0); obtain ⟨Ao18, co18, eo18⟩ := Kd.R_slice HO335.out; subst eo18) | ((with_reducible refine gate_callee (f := 66) rfl ?_); refine goesM (some 17) Tryz.func66 #[.slice A0 l0.length c0, .slice Ao18 t333.length co18] ?_; (with_reducible refine (size_termsOf.calls k _ _ l0 _ _ t333 t336 t339 t342 _ ?side1 ?side2 ?side3 ?side4 ?side5 A7.out).mono ?_); (case side1 => exact Glob.below HG0.out (bl HB)); (case side2 => repeat (first | exact (Kd.C_below HR0.out HB.out) | (with_reducible refine Kd.C_alloc ?_ _) | (with_reducible refine Kd.C_drewN ?_ _) | (with_reducible refine Kd.C_drew ?_))); (case side3 => exact HC0.out); (case side4 => repeat (first | exact (Kd.R_reads' HO335.out).2.2 | (with_reducible refine Kd.C_alloc ?_ _) | (with_reducible refine Kd.C_drewN ?_ _) | (with_reducible refine Kd.C_drew ?_))); (case side5 => exact (Kd.R_reads' HO335.out).2.1); rintro e w19 ⟨v337, v340, rfl, ho0, ho1, hb⟩; refine ⟨_, rfl, ?_⟩; replace HO1 := Aside0.mk (Kd.V_mono (Kd.V_told (Kd.V_told (Kd.V_old (by (with_reducible repeat (first | apply Kd.V_alloc | apply Kd.V_drewN | apply Kd.V_drew)); exact HO1.out) hb) (Kd.R_base ho0)) (Kd.R_base ho1)) (fun _ h_ => h_.1)); replace HO2 := Aside0.mk (Kd.V_mono (Kd.V_told (Kd.V_told (Kd.V_old (by (with_reducible repeat (first | apply Kd.V_alloc | apply Kd.V_drewN | apply Kd.V_drew)); exact HO2.out) hb) (Kd.R_base ho0)) (Kd.R_base ho1)) (fun _ h_ => h_.1)); replace HO325 := Aside0.mk (Kd.N_mono (Kd.N_told (Kd.N_told (Kd.N_old (by (with_reducible repeat (first | apply Kd.N_alloc | apply Kd.N_drewN | apply Kd.N_drew)); exact HO325.out) hb) (Kd.R_base ho0)) (Kd.R_base ho1)) (fun _ h_ => h_.1)); replace HO332 := Aside0.mk (Kd.R_below (kr HO332) hb); replace HO335 := Aside0.mk (Kd.R_below (kr HO335) hb); have HO338 := Aside0.mk (Kd.R_lower (Kd.R_newM (M := fun k_ => (w.heap.size ≤ k_)) ho0 (below_size (bl HB)) (fun k_ h_ => h_)) (below_size (bl HB))); have HO341 := Aside0.mk (Kd.R_lower (Kd.R_newM (M := fun k_ => (w.heap.size ≤ k_)) ho1 (below_size (bl HB)) (fun k_ h_ => h_)) (below_size (bl HB))); replace HB := Aside0.mk (below_step (bl HB) hb); (try clear hb); (try clear hb2); (try clear hk); (try clear hi); (try clear ho0); (try clear ho1); obtain ⟨Ao20, co20, eo20⟩ := Kd.R_slice HO338.out; subst eo20; obtain ⟨Ao21, co21, eo21⟩ := Kd.R_slice HO341.out; subst eo21) | ((with_reducible refine gate_callee (f := 67) rfl ?_); refine goesM (some 18) Tryz.func67 #[.agg #[.slice Ao20 t336.length co20, .slice Ao21 t339.length co21, .string t342]] ?_; (with_reducible refine (size_terms_sign.calls _ _ t336 _ _ t339 t342 t343 _ ?side1 ?side2 ?side3 ?side4 ?side5 A8.out).mono ?_); (case side1 => exact Glob.below HG0.out (bl HB)); (case side2 => repeat (first | exact (Kd.R_reads' HO338.out).2.2 | (with_reducible refine Kd.C_alloc ?_ _) | (with_reducible refine Kd.C_drewN ?_ _) | (with_reducible refine Kd.C_drew ?_))); (case side3 => exact (Kd.R_reads' HO338.out).2.1); (case side4 => repeat (first | exact (Kd.R_reads' HO341.out).2.2 | (with_reducible refine Kd.C_alloc ?_ _) | (with_reducible refine Kd.C_drewN ?_ _) | (with_reducible refine Kd.C_drew ?_))); (case side5 => exact (Kd.R_reads' HO341.out).2.1); rintro e w22 ⟨rfl, hb⟩; refine ⟨_, rfl, ?_⟩; replace HO1 := Aside0.mk (Kd.V_below (by (with_reducible repeat (first | apply Kd.V_alloc | apply Kd.V_drewN | apply Kd.V_drew)); exact HO1.out) hb); replace HO2 := Aside0.mk (Kd.V_below (by (with_reducible repeat (first | apply Kd.V_alloc | apply Kd.V_drewN | apply Kd.V_drew)); exact HO2.out) hb); replace HO325 := Aside0.mk (Kd.N_below (by (with_reducible repeat (first | apply Kd.N_alloc | apply Kd.N_drewN | apply Kd.N_drew)); exact HO325.out) hb); replace HO332 := Aside0.mk (Kd.R_below (kr HO332) hb); replace HO335 := Aside0.mk (Kd.R_below (kr HO335) hb); replace HO338 := Aside0.mk (Kd.R_below (kr HO338) hb); replace HO341 := Aside0.mk (Kd.R_below (kr HO341) hb); replace HB := Aside0.mk (below_step (bl HB) hb); (try clear hb); (try clear hb2); (try clear hk); (try clear hi)))
 go_ret
 exact ⟨rl, bl HB⟩
def size_Compare.f (k : Nat) (l0 : List Int) (l1 : List (S30)) (l2 : List (S30)) : Option (Int × Int) := (size_CheckAll.f k l0 (([l1, l2] : List (List (S30))))).bind fun t347 => (if t347 = 0 then ((size_compare.f k l0 l1 l2).bind fun t348 => (some (t348, 0))) else (some (0, t347)))
set_option maxHeartbeats 8000000 in
set_option maxRecDepth 100000 in
theorem size_Compare.calls (k : Nat) (A0 : Option Addr) (c0 : Nat) (l0 : List Int) (P1_ : Nat → Prop) (A1 : Option Addr) (c1 : Nat) (l1 : List (S30)) (P2_ : Nat → Prop) (A2 : Option Addr) (c2 : Nat) (l2 : List (S30)) (r1 : Int) (r2 : Int) (w : World) (hG : Glob w) (hr0 : Kd.C (Kd.int .i64) w A0 l0.length l0) (hc0 : l0.length ≤ c0) (hs1 : Kd.V k30 30 w w.heap.size (fun k_ => P1_ k_) (.slice A1 l1.length c1) l1) (hs2 : Kd.V k30 30 w w.heap.size (fun k_ => P2_ k_) (.slice A2 l2.length c2) l2) (h : size_Compare.f k l0 l1 l2 = some (r1, r2)) :
  Calls Tryz.prog 21 #[.slice A0 l0.length c0, .slice A1 l1.length c1, .slice A2 l2.length c2] w fun e w' => e = .returned (.tuple #[.int .i64 r1, .int .i64 r2]) ∧ Below w.heap.size w w' := by
 have HR0 := Aside0.mk hr0
 have HC0 := Aside0.mk hc0
 clear hr0 hc0
 have HO1 := Aside0.mk (show Kd.V k30 30 w w.heap.size (fun k_ => ((P1_ k_ ∨ P2_ k_) ∨ w.heap.size ≤ k_)) (.slice A1 l1.length c1) l1 from Kd.V_mono hs1 (fun k_ hk => .inl (.inl hk)))
 have HO2 := Aside0.mk (show Kd.V k30 30 w w.heap.size (fun k_ => ((P1_ k_ ∨ P2_ k_) ∨ w.heap.size ≤ k_)) (.slice A2 l2.length c2) l2 from Kd.V_mono hs2 (fun k_ hk => .inl (.inr hk)))
 have HG0 := Aside0.mk hG
 clear hG
 have HB := Aside0.mk (Below.refl w.heap.size w)
 have H : ((size_CheckAll.f k l0 (([l1, l2] : List (List (S30))))).bind fun t347 => (if t347 = 0 then ((size_compare.f k l0 l1 l2).bind fun t348 => (some (t348, 0))) else (some (0, t347)))) = some (r1, r2) := h
 clear h
 obtain ⟨y344, hy344⟩ : ∃ y_ : List (List (S30)), y_ = (([l1, l2] : List (List (S30)))) := ⟨_, rfl⟩
 replace H : ((size_CheckAll.f k l0 y344).bind fun t347 => (if t347 = 0 then ((size_compare.f k l0 l1 l2).bind fun t348 => (some (t348, 0))) else (some (0, t347)))) = some (r1, r2) := by first | (rw [hy344]; with_reducible exact H) | (have H2_ := (Option.bind_some _ _).symm.trans H; rw [hy344]; with_reducible exact H2_) | (have H2_ := (Option.bind_some _ _).symm.trans H; with_reducible exact H2_) | with_reducible exact H | (rw [hy344]; exact H) | exact H
 have Ny344 := Aside0.mk hy344
 clear hy344
 replace H := Option.bind_eq_some_iff.mp H
 obtain ⟨t347, A40, H⟩ := H
 replace H : (if t347 = 0 then ((size_compare.f k l0 l1 l2).bind fun t348 => (some (t348, 0))) else (some (0, t347))) = some (r1, r2) := H
 have A4 := Aside0.mk A40
 clear A40
 by_cases c5 : t347 = 0
 ·rw [if_pos c5] at H
  have c5b0 : (t347 == 0) = true := beq_iff_eq.mpr c5
  have c5b1 : (t347 != 0) = false := bne_eq_false_iff_eq.mpr c5
  clear c5
  replace H := Option.bind_eq_some_iff.mp H
  obtain ⟨t348, A60, H⟩ := H
  replace H : (some (t348, 0)) = some (r1, r2) := H
  have A6 := Aside0.mk A60
  clear A60
  simp only [Option.some.injEq, Prod.mk.injEq] at H
  obtain ⟨rfl, rfl⟩ := H
  go_enter Tryz.func21, Tryz.ntmps21
  go_wp2_with (first | ((with_reducible refine gate_dst (N := 12) rfl ?_); refine Kd.N_lit (Kd.slice 30 k30) _ 34 ?hg (N' := 12) ?hd (xs := ([l1, l2] : List (List (S30)))) (inner := [.slice A1 l1.length c1, .slice A2 l2.length c2]) (ok := (fun k_ => ((P1_ k_ ∨ P2_ k_) ∨ w.heap.size ≤ k_))) (okp := (fun k_ => ((P1_ k_ ∨ P2_ k_) ∨ w.heap.size ≤ k_))) ?hr ?hp (fun _ hk => hk) ((show ∀ k_, w.heap.size ≤ k_ → (fun k_ => ((P1_ k_ ∨ P2_ k_) ∨ w.heap.size ≤ k_)) k_ from fun k_ hk => (.inr (Nat.le_trans (below_size (bl HB)) hk))) _ (Nat.le_refl _)) (Below.refl _ _) (Nat.le_refl _) (by simp) ?_; (case hd => rfl); (case hg => rfl); (case hr => first | (go_simp; done) | (go_simp; rfl)); (case hp => exact (Reps.one (show Kd.FK (Kd.slice 30 k30) _ _ l1 [.slice A1 l1.length c1] from (Kd.FK_slice_mk (Kd.V_reads' (Kd.V_mono (ok' := (fun k_ => ((P1_ k_ ∨ P2_ k_) ∨ w.heap.size ≤ k_))) (HO1.out) (fun k_ hk => hk))).2.1 (Kd.V_F (Kd.V_mono (ok' := (fun k_ => ((P1_ k_ ∨ P2_ k_) ∨ w.heap.size ≤ k_))) (HO1.out) (fun k_ hk => hk))))) (Reps.one (show Kd.FK (Kd.slice 30 k30) _ _ l2 [.slice A2 l2.length c2] from (Kd.FK_slice_mk (Kd.V_reads' (Kd.V_mono (ok' := (fun k_ => ((P1_ k_ ∨ P2_ k_) ∨ w.heap.size ≤ k_))) (HO2.out) (fun k_ hk => hk))).2.1 (Kd.V_F (Kd.V_mono (ok' := (fun k_ => ((P1_ k_ ∨ P2_ k_) ∨ w.heap.size ≤ k_))) (HO2.out) (fun k_ hk => hk))))) (Reps.none _ _)))); intro v345 w7 ho8 hb hg_ hnew_; clear hg_ hnew_; (first | rw [← Ny344.out] at ho8 | (simp only [Int.reduceToNat] at ho8; rw [← Ny344.out] at ho8)); replace HO1 := Aside0.mk (Kd.V_elder' (by (with_reducible repeat (first | apply Kd.V_alloc | apply Kd.V_drewN | apply Kd.V_drew)); exact HO1.out) (Kd.N_base ho8) hb); replace HO2 := Aside0.mk (Kd.V_elder' (by (with_reducible repeat (first | apply Kd.V_alloc | apply Kd.V_drewN | apply Kd.V_drew)); exact HO2.out) (Kd.N_base ho8) hb); have HO346 := Aside0.mk (Kd.N_lower ho8 (below_size (bl HB))); replace HB := Aside0.mk (below_step (bl HB) hb); clear hb ho8; obtain ⟨Ao9, co9, eo9⟩ := Kd.N_slice HO346.out; subst eo9) | ((with_reducible refine gate_callee (f := 52) rfl ?_); refine goesM (some 13) Tryz.func52 #[.slice A0 l0.length c0, .slice Ao9 y344.length co9] ?_; (with_reducible refine (size_CheckAll.calls k _ _ l0 _ _ y344 t347 _ ?side1 ?side2 ?side3 ?side4 ?side5 A4.out).mono ?_); (case side1 => exact Glob.below HG0.out (bl HB)); (case side2 => repeat (first | exact (Kd.C_below HR0.out HB.out) | (with_reducible refine Kd.C_alloc ?_ _) | (with_reducible refine Kd.C_drewN ?_ _) | (with_reducible refine Kd.C_drew ?_))); (case side3 => exact HC0.out); (case side4 => repeat (first | exact (Kd.N_reads' HO346.out).2.2 | (with_reducible refine Kd.C_alloc ?_ _) | (with_reducible refine Kd.C_drewN ?_ _) | (with_reducible refine Kd.C_drew ?_))); (case side5 => exact (Kd.N_reads' HO346.out).2.1); rintro e w10 ⟨rfl, hb⟩; refine ⟨_, rfl, ?_⟩; replace HO1 := Aside0.mk (Kd.V_below (by (with_reducible repeat (first | apply Kd.V_alloc | apply Kd.V_drewN | apply Kd.V_drew)); exact HO1.out) hb); replace HO2 := Aside0.mk (Kd.V_below (by (with_reducible repeat (first | apply Kd.V_alloc | apply Kd.V_drewN | apply Kd.V_drew)); exact HO2.out) hb); replace HO346 := Aside0.mk (Kd.N_below (by (with_reducible repeat (first | apply Kd.N_alloc | apply Kd.N_drewN | apply Kd.N_drew)); exact HO346.out) hb); replace HB := Aside0.mk (below_step (bl HB) hb); (try clear hb); (try clear hb2); (try clear hk); (try clear hi)) | ((with_reducible refine gate_callee (f := 64) rfl ?_); refine goesM (some 20) Tryz.func64 #[.slice A0 l0.length c0, .slice A1 l1.length c1, .slice A2 l2.length c2] ?_; (with_reducible refine (size_compare.calls k _ _ l0 (fun k_ => (((P1_ k_ ∨ P2_ k_) ∨ w.heap.size ≤ k_) ∧ some k_ ≠ (.slice Ao9 y344.length co9 : Value).ownBlock)) _ _ l1 (fun k_ => (((P1_ k_ ∨ P2_ k_) ∨ w.heap.size ≤ k_) ∧ some k_ ≠ (.slice Ao9 y344.length co9 : Value).ownBlock)) _ _ l2 t348 _ ?side1 ?side2 ?side3 ?side4 ?side5 A6.out).mono ?_); (case side1 => exact Glob.below HG0.out (bl HB)); (case side2 => repeat (first | exact (Kd.C_below HR0.out HB.out) | (with_reducible refine Kd.C_alloc ?_ _) | (with_reducible refine Kd.C_drewN ?_ _) | (with_reducible refine Kd.C_drew ?_))); (case side3 => exact HC0.out); (case side4 => exact HO1.out); (case side5 => exact HO2.out); rintro e w11 ⟨rfl, hb⟩; refine ⟨_, rfl, ?_⟩; replace HO1 := Aside0.mk (Kd.V_below (by (with_reducible repeat (first | apply Kd.V_alloc | apply Kd.V_drewN | apply Kd.V_drew)); exact HO1.out) hb); replace HO2 := Aside0.mk (Kd.V_below (by (with_reducible repeat (first | apply Kd.V_alloc | apply Kd.V_drewN | apply Kd.V_drew)); exact HO2.out) hb); replace HO346 := Aside0.mk (Kd.N_below (by (with_reducible repeat (first | apply Kd.N_alloc | apply Kd.N_drewN | apply Kd.N_drew)); exact HO346.out) hb); replace HB := Aside0.mk (below_step (bl HB) hb); (try clear hb); (try clear hb2); (try clear hk); (try clear hi)))
  go_ret2
  exact ⟨rl, bl HB⟩
 ·rw [if_neg c5] at H
  have c5b0 : (t347 == 0) = false := beq_eq_false_iff_ne.mpr c5
  have c5b1 : (t347 != 0) = true := bne_iff_ne.mpr c5
  simp only [Option.some.injEq, Prod.mk.injEq] at H
  obtain ⟨rfl, rfl⟩ := H
  go_enter Tryz.func21, Tryz.ntmps21
  go_wp2_with (first | ((with_reducible refine gate_dst (N := 12) rfl ?_); refine Kd.N_lit (Kd.slice 30 k30) _ 34 ?hg (N' := 12) ?hd (xs := ([l1, l2] : List (List (S30)))) (inner := [.slice A1 l1.length c1, .slice A2 l2.length c2]) (ok := (fun k_ => ((P1_ k_ ∨ P2_ k_) ∨ w.heap.size ≤ k_))) (okp := (fun k_ => ((P1_ k_ ∨ P2_ k_) ∨ w.heap.size ≤ k_))) ?hr ?hp (fun _ hk => hk) ((show ∀ k_, w.heap.size ≤ k_ → (fun k_ => ((P1_ k_ ∨ P2_ k_) ∨ w.heap.size ≤ k_)) k_ from fun k_ hk => (.inr (Nat.le_trans (below_size (bl HB)) hk))) _ (Nat.le_refl _)) (Below.refl _ _) (Nat.le_refl _) (by simp) ?_; (case hd => rfl); (case hg => rfl); (case hr => first | (go_simp; done) | (go_simp; rfl)); (case hp => exact (Reps.one (show Kd.FK (Kd.slice 30 k30) _ _ l1 [.slice A1 l1.length c1] from (Kd.FK_slice_mk (Kd.V_reads' (Kd.V_mono (ok' := (fun k_ => ((P1_ k_ ∨ P2_ k_) ∨ w.heap.size ≤ k_))) (HO1.out) (fun k_ hk => hk))).2.1 (Kd.V_F (Kd.V_mono (ok' := (fun k_ => ((P1_ k_ ∨ P2_ k_) ∨ w.heap.size ≤ k_))) (HO1.out) (fun k_ hk => hk))))) (Reps.one (show Kd.FK (Kd.slice 30 k30) _ _ l2 [.slice A2 l2.length c2] from (Kd.FK_slice_mk (Kd.V_reads' (Kd.V_mono (ok' := (fun k_ => ((P1_ k_ ∨ P2_ k_) ∨ w.heap.size ≤ k_))) (HO2.out) (fun k_ hk => hk))).2.1 (Kd.V_F (Kd.V_mono (ok' := (fun k_ => ((P1_ k_ ∨ P2_ k_) ∨ w.heap.size ≤ k_))) (HO2.out) (fun k_ hk => hk))))) (Reps.none _ _)))); intro v345 w12 ho13 hb hg_ hnew_; clear hg_ hnew_; (first | rw [← Ny344.out] at ho13 | (simp only [Int.reduceToNat] at ho13; rw [← Ny344.out] at ho13)); replace HO1 := Aside0.mk (Kd.V_elder' (by (with_reducible repeat (first | apply Kd.V_alloc | apply Kd.V_drewN | apply Kd.V_drew)); exact HO1.out) (Kd.N_base ho13) hb); replace HO2 := Aside0.mk (Kd.V_elder' (by (with_reducible repeat (first | apply Kd.V_alloc | apply Kd.V_drewN | apply Kd.V_drew)); exact HO2.out) (Kd.N_base ho13) hb); have HO346 := Aside0.mk (Kd.N_lower ho13 (below_size (bl HB))); replace HB := Aside0.mk (below_step (bl HB) hb); clear hb ho13; obtain ⟨Ao14, co14, eo14⟩ := Kd.N_slice HO346.out; subst eo14) | ((with_reducible refine gate_callee (f := 52) rfl ?_); refine goesM (some 13) Tryz.func52 #[.slice A0 l0.length c0, .slice Ao14 y344.length co14] ?_; (with_reducible refine (size_CheckAll.calls k _ _ l0 _ _ y344 t347 _ ?side1 ?side2 ?side3 ?side4 ?side5 A4.out).mono ?_); (case side1 => exact Glob.below HG0.out (bl HB)); (case side2 => repeat (first | exact (Kd.C_below HR0.out HB.out) | (with_reducible refine Kd.C_alloc ?_ _) | (with_reducible refine Kd.C_drewN ?_ _) | (with_reducible refine Kd.C_drew ?_))); (case side3 => exact HC0.out); (case side4 => repeat (first | exact (Kd.N_reads' HO346.out).2.2 | (with_reducible refine Kd.C_alloc ?_ _) | (with_reducible refine Kd.C_drewN ?_ _) | (with_reducible refine Kd.C_drew ?_))); (case side5 => exact (Kd.N_reads' HO346.out).2.1); rintro e w15 ⟨rfl, hb⟩; refine ⟨_, rfl, ?_⟩; replace HO1 := Aside0.mk (Kd.V_below (by (with_reducible repeat (first | apply Kd.V_alloc | apply Kd.V_drewN | apply Kd.V_drew)); exact HO1.out) hb); replace HO2 := Aside0.mk (Kd.V_below (by (with_reducible repeat (first | apply Kd.V_alloc | apply Kd.V_drewN | apply Kd.V_drew)); exact HO2.out) hb); replace HO346 := Aside0.mk (Kd.N_below (by (with_reducible repeat (first | apply Kd.N_alloc | apply Kd.N_drewN | apply Kd.N_drew)); exact HO346.out) hb); replace HB := Aside0.mk (below_step (bl HB) hb); (try clear hb); (try clear hb2); (try clear hk); (try clear hi)))
  go_ret2
  exact ⟨rl, bl HB⟩
end Go.Proofs.YtailoobjgbldgaaGreatDoor.P
end
section
namespace Go.Proofs.YtailoobjgbldgaaGreatDoor.P
set_option linter.unusedVariables false
set_option linter.unusedSimpArgs false
open Go Go.RowKit Go.Proofs.YtailoobjgbldgaaGreatDoorW.PrintWords Go.Proofs.YtailoobjgbldgaaGreatDoorW.PrintLast Go.Proofs.YtailoobjgbldgaaGreatDoorW.PrintMore
def anyO {α : Type} (g : α → Option Bool) : List α → Option Bool
  | [] => some false
  | x :: xs => (g x).bind fun b => if b then some true else anyO g xs
def cCombine.f (k : Nat) (l : List S30) : Option Bool := if l.length ≤ 1000000000 then anyO (fun x : S30 => size_Combine_1.f k x.f0 x.f1) l else none
set_option maxRecDepth 100000 in
set_option maxHeartbeats 2000000 in
theorem cCombine.index (k : Nat) (A0 : Option Addr) (c0 : Nat) (l0 : List S30) (r : Bool) (w : World) (hG : Glob w) (hr0 : Kd.C k30 w A0 l0.length l0) (hl : l0.length ≤ 1000000000) (h : anyO (fun x : S30 => size_Combine_1.f k x.f0 x.f1) l0 = some r) :
    Calls Tryz.prog 100 #[.slice A0 l0.length c0, .func (.func 57) #[] #[]] w fun e w' => (∃ i : Int, e = .returned (.int .i64 i) ∧ decide (0 ≤ i) = r) ∧ Below w.heap.size w w' := by
  go_enter Tryz.func100, Tryz.ntmps100
  go_wp2
  go_loopw [8] (fun i wr => ∃ j : Nat, j ≤ l0.length ∧ i = .int .i64 j ∧ anyO (fun x : S30 => size_Combine_1.f k x.f0 x.f1) (l0.drop j) = some r ∧ Below w.heap.size w wr)
    (fun i _ => l0.length - (intOf i).toNat)
  case atStart => exact ⟨0, Nat.zero_le _, rfl, h, Below.refl _ _⟩
  case round =>
    obtain ⟨j, hj, rfl, ha, hB⟩ := hrel
    by_cases hlt : j < l0.length
    · obtain ⟨ad, rfl, hx0, hx1⟩ := at_T30 hr0 (j : Int) (by omega) (by omega)
      replace hx0 := (hB.cell (World.block_lt_of_cell? w _ hx0)).trans hx0
      replace hx1 := (hB.cell (World.block_lt_of_cell? w _ hx1)).trans hx1
      rw [List.drop_eq_getElem_cons hlt] at ha
      have hrd : rd_T30 l0 (j : Int) = l0[j] := by simp [rd_T30, hlt]
      rw [hrd] at hx0 hx1
      simp only [Int.toNat_natCast] at hx0 hx1
      generalize l0[j] = x at ha hx0 hx1
      obtain ⟨b, hb, ha⟩ := Option.bind_eq_some_iff.1 ha
      cases b with
      | true =>
        obtain rfl : true = r := by simpa using ha
        go_wp2_with (go_at_call 57; refine (size_Combine_1.calls k _ _ true _ (hG.below hB) hb).mono ?_; rintro e w1 ⟨rfl, hb1⟩)
        go_ret
        exact ⟨⟨_, rfl, by simp⟩, hB.trans (hb1.mono hB.size)⟩
      | false =>
        have ha : anyO (fun x : S30 => size_Combine_1.f k x.f0 x.f1) (l0.drop (j + 1)) = some r := by simpa using ha
        go_wp2_with (go_at_call 57; refine (size_Combine_1.calls k _ _ false _ (hG.below hB) hb).mono ?_; rintro e w1 ⟨rfl, hb1⟩)
        go_roundw
        case rel => exact ⟨j + 1, by omega, by simp [wrap64] <;> omega, ha, hB.trans (hb1.mono hB.size)⟩
        case measure => simp [intOf, wrap64] <;> omega
    · obtain rfl : j = l0.length := by omega
      simp only [List.drop_length, anyO, Option.some.injEq] at ha
      subst ha
      go_wp2
      go_ret
      exact ⟨⟨_, rfl, by simp⟩, hB⟩
set_option maxHeartbeats 2000000 in
theorem cCombine.calls (k : Nat) (A0 : Option Addr) (c0 : Nat) (l0 : List S30) (r : Bool) (w : World) (hG : Glob w) (hr0 : Kd.C k30 w A0 l0.length l0) (hc0 : l0.length ≤ c0) (h : cCombine.f k l0 = some r) :
    Calls Tryz.prog 56 #[.slice A0 l0.length c0, .func (.func 57) #[] #[]] w fun e w' => e = .returned (.bool r) ∧ Below w.heap.size w w' := by
  unfold cCombine.f at h
  by_cases hl : l0.length ≤ 1000000000
  · rw [if_pos hl] at h
    go_enter Tryz.func56, Tryz.ntmps56
    go_wp2_with (go_at_call 100; refine (cCombine.index k _ _ _ r _ hG hr0 hl h).mono ?_; rintro e w1 ⟨⟨i, rfl, hi⟩, hb1⟩)
    go_ret
    subst hi
    exact ⟨by simp, hb1⟩
  · rw [if_neg hl] at h; cases h
def cResult.f (l : List S30) : Option Bool := if l.length ≤ 1000000000 then anyO (fun x : S30 => size_result_1.f x.f0 x.f1) l else none
set_option maxRecDepth 100000 in
set_option maxHeartbeats 2000000 in
theorem cResult.index (A0 : Option Addr) (c0 : Nat) (l0 : List S30) (r : Bool) (w : World) (hr0 : Kd.C k30 w A0 l0.length l0) (hl : l0.length ≤ 1000000000) (h : anyO (fun x : S30 => size_result_1.f x.f0 x.f1) l0 = some r) :
    Calls Tryz.prog 130 #[.slice A0 l0.length c0, .func (.func 102) #[] #[]] w fun e w' => (∃ i : Int, e = .returned (.int .i64 i) ∧ decide (0 ≤ i) = r) ∧ Below w.heap.size w w' := by
  go_enter Tryz.func130, Tryz.ntmps130
  go_wp2
  go_loopw [8] (fun i wr => ∃ j : Nat, j ≤ l0.length ∧ i = .int .i64 j ∧ anyO (fun x : S30 => size_result_1.f x.f0 x.f1) (l0.drop j) = some r ∧ Below w.heap.size w wr)
    (fun i _ => l0.length - (intOf i).toNat)
  case atStart => exact ⟨0, Nat.zero_le _, rfl, h, Below.refl _ _⟩
  case round =>
    obtain ⟨j, hj, rfl, ha, hB⟩ := hrel
    by_cases hlt : j < l0.length
    · obtain ⟨ad, rfl, hx0, hx1⟩ := at_T30 hr0 (j : Int) (by omega) (by omega)
      replace hx0 := (hB.cell (World.block_lt_of_cell? w _ hx0)).trans hx0
      replace hx1 := (hB.cell (World.block_lt_of_cell? w _ hx1)).trans hx1
      rw [List.drop_eq_getElem_cons hlt] at ha
      have hrd : rd_T30 l0 (j : Int) = l0[j] := by simp [rd_T30, hlt]
      rw [hrd] at hx0 hx1
      simp only [Int.toNat_natCast] at hx0 hx1
      generalize l0[j] = x at ha hx0 hx1
      obtain ⟨b, hb, ha⟩ := Option.bind_eq_some_iff.1 ha
      cases b with
      | true =>
        obtain rfl : true = r := by simpa using ha
        go_wp2_with (go_at_call 102; refine (size_result_1.calls _ _ true _ hb).mono ?_; rintro e w1 ⟨rfl, hb1⟩)
        go_ret
        exact ⟨⟨_, rfl, by simp⟩, hB.trans (hb1.mono hB.size)⟩
      | false =>
        have ha : anyO (fun x : S30 => size_result_1.f x.f0 x.f1) (l0.drop (j + 1)) = some r := by simpa using ha
        go_wp2_with (go_at_call 102; refine (size_result_1.calls _ _ false _ hb).mono ?_; rintro e w1 ⟨rfl, hb1⟩)
        go_roundw
        case rel => exact ⟨j + 1, by omega, by simp [wrap64] <;> omega, ha, hB.trans (hb1.mono hB.size)⟩
        case measure => simp [intOf, wrap64] <;> omega
    · obtain rfl : j = l0.length := by omega
      simp only [List.drop_length, anyO, Option.some.injEq] at ha
      subst ha
      go_wp2
      go_ret
      exact ⟨⟨_, rfl, by simp⟩, hB⟩
set_option maxHeartbeats 2000000 in
theorem cResult.calls (A0 : Option Addr) (c0 : Nat) (l0 : List S30) (r : Bool) (w : World) (hr0 : Kd.C k30 w A0 l0.length l0) (hc0 : l0.length ≤ c0) (h : cResult.f l0 = some r) :
    Calls Tryz.prog 101 #[.slice A0 l0.length c0, .func (.func 102) #[] #[]] w fun e w' => e = .returned (.bool r) ∧ Below w.heap.size w w' := by
  unfold cResult.f at h
  by_cases hl : l0.length ≤ 1000000000
  · rw [if_pos hl] at h
    go_enter Tryz.func101, Tryz.ntmps101
    go_wp2_with (go_at_call 130; refine (cResult.index _ _ _ r _ hr0 hl h).mono ?_; rintro e w1 ⟨⟨i, rfl, hi⟩, hb1⟩)
    go_ret
    subst hi
    exact ⟨by simp, hb1⟩
  · rw [if_neg hl] at h; cases h
end Go.Proofs.YtailoobjgbldgaaGreatDoor.P
end
section
namespace Go.Proofs.YtailoobjgbldgaaGreatDoor.P
open Go.RowKit Go.Proofs.YtailoobjgbldgaaGreatDoorW.PrintWords Go.Proofs.YtailoobjgbldgaaGreatDoorW.PrintLast Go.Proofs.YtailoobjgbldgaaGreatDoorW.PrintMore
attribute [local go_sem] max2_int min2_int max_two min_two max_three min_three max_four min_four   
set_option linter.unusedVariables false
set_option linter.unusedSimpArgs false
def size_result.f (l0 : List (S30)) : Option ((List (S30)) × Int) := (cResult.f l0).bind fun t349 => (if t349 = true then (some (([] : List (S30)), 4)) else (some (l0, 0)))
set_option maxHeartbeats 8000000 in
set_option maxRecDepth 100000 in
theorem size_result.calls (P0_ : Nat → Prop) (u9000_ : Value) (l0 : List (S30)) (r1 : List (S30)) (r2 : Int) (w0 w : World) (hB : Below w0.heap.size w0 w) (ho0 : Kd.R k30 30 w w0.heap.size P0_ u9000_ l0) (h : size_result.f l0 = some (r1, r2)) :
  Calls Tryz.prog 58 #[u9000_] w fun e w' => ∃ v0_ : Value, e = .returned (.tuple #[v0_, .int .i64 r2]) ∧ Kd.R k30 30 w' w0.heap.size (fun k_ => (P0_ k_ ∨ w.heap.size ≤ k_)) v0_ r1 ∧ Below w0.heap.size w0 w' ∧ Kept w w' (fun k_ => P0_ k_) := by
 have HO0 := Aside0.mk (show Kd.R k30 30 w w0.heap.size (fun k_ => (P0_ k_ ∨ w.heap.size ≤ k_)) u9000_ l0 from Kd.R_mono ho0 (fun k_ hk => (.inl hk)))
 have HK := Aside0.mk (Kept.refl w (fun k_ => P0_ k_))
 have HW0 := Aside0.mk hB.size
 have HB := Aside0.mk hB
 clear hB
 have H : ((cResult.f l0).bind fun t349 => (if t349 = true then (some (([] : List (S30)), 4)) else (some (l0, 0)))) = some (r1, r2) := h
 clear h
 replace H := Option.bind_eq_some_iff.mp H
 obtain ⟨t349, A20, H⟩ := H
 replace H : (if t349 = true then (some (([] : List (S30)), 4)) else (some (l0, 0))) = some (r1, r2) := H
 have A2 := Aside0.mk A20
 clear A20
 by_cases c3 : t349 = true
 ·subst c3
  have H1 : (some (([] : List (S30)), 4)) = some (r1, r2) := by rw [if_pos rfl] at H; exact H
  clear H
  have H := H1
  clear H1
  simp only [Option.some.injEq, Prod.mk.injEq] at H
  obtain ⟨rfl, rfl⟩ := H
  obtain ⟨Ao4, co4, eo4⟩ := Kd.R_slice HO0.out
  subst eo4
  go_enter Tryz.func58, Tryz.ntmps58
  go_wp2_with (first | ((with_reducible refine gate_callee (f := 101) rfl ?_); refine goesM (some 5) Tryz.func101 #[.slice Ao4 l0.length co4, .func (.func 102) #[] #[]] ?_; (with_reducible refine (cResult.calls _ _ l0 true _ ?side1 ?side2 A2.out).mono ?_); (case side1 => repeat (first | exact (Kd.R_reads' HO0.out).2.2 | (with_reducible refine Kd.C_alloc ?_ _) | (with_reducible refine Kd.C_drewN ?_ _) | (with_reducible refine Kd.C_drew ?_))); (case side2 => exact (Kd.R_reads' HO0.out).2.1); rintro e w5 ⟨rfl, hb⟩; refine ⟨_, rfl, ?_⟩; replace HO0 := Aside0.mk (Kd.R_below (kr HO0) hb); replace HK := Aside0.mk (Kept.below (S := (fun k_ => P0_ k_)) (by repeat (first | (with_reducible first | exact HK.out | apply Kept.alloc | apply Kept.drewN | apply Kept.drew) | exact HK.out)) hb); replace HB := Aside0.mk (below_step (bl HB) hb); (try clear hb); (try clear hb2); (try clear hk); (try clear hi)))
  go_ret2
  exact ⟨_, rl, by first | exact Kd.R_nil _ _ _ _ _ | exact Kd.N_nil _ _ _ _ _ | exact Kd.V_nil _ _ _ _ _ | exact Kd.Q_nil _ _ _ _ _ | exact Kd.S_nil _ _ _ _ _, bl HB, by repeat (first | (with_reducible first | exact HK.out | apply Kept.alloc | apply Kept.drewN | apply Kept.drew) | exact HK.out)⟩
 ·replace c3 := Bool.eq_false_iff.mpr c3
  subst c3
  have H1 : (some (l0, 0)) = some (r1, r2) := by rw [if_neg (show ¬ (false = true) by decide)] at H; exact H
  clear H
  have H := H1
  clear H1
  simp only [Option.some.injEq, Prod.mk.injEq] at H
  obtain ⟨rfl, rfl⟩ := H
  obtain ⟨Ao6, co6, eo6⟩ := Kd.R_slice HO0.out
  subst eo6
  go_enter Tryz.func58, Tryz.ntmps58
  go_wp2_with (first | ((with_reducible refine gate_callee (f := 101) rfl ?_); refine goesM (some 5) Tryz.func101 #[.slice Ao6 l0.length co6, .func (.func 102) #[] #[]] ?_; (with_reducible refine (cResult.calls _ _ l0 false _ ?side1 ?side2 A2.out).mono ?_); (case side1 => repeat (first | exact (Kd.R_reads' HO0.out).2.2 | (with_reducible refine Kd.C_alloc ?_ _) | (with_reducible refine Kd.C_drewN ?_ _) | (with_reducible refine Kd.C_drew ?_))); (case side2 => exact (Kd.R_reads' HO0.out).2.1); rintro e w7 ⟨rfl, hb⟩; refine ⟨_, rfl, ?_⟩; replace HO0 := Aside0.mk (Kd.R_below (kr HO0) hb); replace HK := Aside0.mk (Kept.below (S := (fun k_ => P0_ k_)) (by repeat (first | (with_reducible first | exact HK.out | apply Kept.alloc | apply Kept.drewN | apply Kept.drew) | exact HK.out)) hb); replace HB := Aside0.mk (below_step (bl HB) hb); (try clear hb); (try clear hb2); (try clear hk); (try clear hi)))
  go_ret2
  exact ⟨_, rl, kr HO0, bl HB, by repeat (first | (with_reducible first | exact HK.out | apply Kept.alloc | apply Kept.drewN | apply Kept.drew) | exact HK.out)⟩
def size_Combine.f (k : Nat) (l0 : List Int) (l1 : List (List (S30))) (l2 : List (S30)) : Option ((List (S30)) × Int) := (size_CheckAll.f k l0 l1).bind fun t350 => (if t350 = 0 then (if (l2.length : Int) = (l1.length : Int) then ((cCombine.f k l2).bind fun t351 => (if t351 = true then (some (([] : List (S30)), 2)) else ((size_sum.f k (l0.length : Int) l1 l2).bind fun t352 => ((size_result.f t352).bind fun bt355 => (some (bt355.1, bt355.2)))))) else (some (([] : List (S30)), 5))) else (some (([] : List (S30)), t350)))
set_option maxHeartbeats 8000000 in
set_option maxRecDepth 100000 in
theorem size_Combine.calls (k : Nat) (A0 : Option Addr) (c0 : Nat) (l0 : List Int) (A1 : Option Addr) (c1 : Nat) (l1 : List (List (S30))) (A2 : Option Addr) (c2 : Nat) (l2 : List (S30)) (r1 : List (S30)) (r2 : Int) (w : World) (hG : Glob w) (hr0 : Kd.C (Kd.int .i64) w A0 l0.length l0) (hc0 : l0.length ≤ c0) (hr1 : Kd.C (Kd.slice 30 k30) w A1 l1.length l1) (hc1 : l1.length ≤ c1) (hr2 : Kd.C k30 w A2 l2.length l2) (hc2 : l2.length ≤ c2) (h : size_Combine.f k l0 l1 l2 = some (r1, r2)) :
  Calls Tryz.prog 16 #[.slice A0 l0.length c0, .slice A1 l1.length c1, .slice A2 l2.length c2] w fun e w' => ∃ v0_ : Value, e = .returned (.tuple #[v0_, .int .i64 r2]) ∧ Kd.R k30 30 w' w.heap.size (fun _ => True) v0_ r1 ∧ Below w.heap.size w w' := by
 have HR0 := Aside0.mk hr0
 have HC0 := Aside0.mk hc0
 clear hr0 hc0
 have HR1 := Aside0.mk hr1
 have HC1 := Aside0.mk hc1
 clear hr1 hc1
 have HR2 := Aside0.mk hr2
 have HC2 := Aside0.mk hc2
 clear hr2 hc2
 have HG0 := Aside0.mk hG
 clear hG
 have HB := Aside0.mk (Below.refl w.heap.size w)
 have H : ((size_CheckAll.f k l0 l1).bind fun t350 => (if t350 = 0 then (if (l2.length : Int) = (l1.length : Int) then ((cCombine.f k l2).bind fun t351 => (if t351 = true then (some (([] : List (S30)), 2)) else ((size_sum.f k (l0.length : Int) l1 l2).bind fun t352 => ((size_result.f t352).bind fun bt355 => (some (bt355.1, bt355.2)))))) else (some (([] : List (S30)), 5))) else (some (([] : List (S30)), t350)))) = some (r1, r2) := h
 clear h
 replace H := Option.bind_eq_some_iff.mp H
 obtain ⟨t350, A40, H⟩ := H
 replace H : (if t350 = 0 then (if (l2.length : Int) = (l1.length : Int) then ((cCombine.f k l2).bind fun t351 => (if t351 = true then (some (([] : List (S30)), 2)) else ((size_sum.f k (l0.length : Int) l1 l2).bind fun t352 => ((size_result.f t352).bind fun bt355 => (some (bt355.1, bt355.2)))))) else (some (([] : List (S30)), 5))) else (some (([] : List (S30)), t350))) = some (r1, r2) := H
 have A4 := Aside0.mk A40
 clear A40
 by_cases c5 : t350 = 0
 ·rw [if_pos c5] at H
  have c5b0 : (t350 == 0) = true := beq_iff_eq.mpr c5
  have c5b1 : (t350 != 0) = false := bne_eq_false_iff_eq.mpr c5
  clear c5
  by_cases c6 : (l2.length : Int) = (l1.length : Int)
  ·rw [if_pos c6] at H
   have c6b0 : ((l2.length : Int) == (l1.length : Int)) = true := beq_iff_eq.mpr c6
   have c6b1 : ((l2.length : Int) != (l1.length : Int)) = false := bne_eq_false_iff_eq.mpr c6
   have c6b2 : (l2.length == l1.length) = true := by first | simpa using c6 | (simp at c6 ⊢; omega)
   clear c6
   replace H := Option.bind_eq_some_iff.mp H
   obtain ⟨t351, A70, H⟩ := H
   replace H : (if t351 = true then (some (([] : List (S30)), 2)) else ((size_sum.f k (l0.length : Int) l1 l2).bind fun t352 => ((size_result.f t352).bind fun bt355 => (some (bt355.1, bt355.2))))) = some (r1, r2) := H
   have A7 := Aside0.mk A70
   clear A70
   by_cases c8 : t351 = true
   ·subst c8
    have H1 : (some (([] : List (S30)), 2)) = some (r1, r2) := by rw [if_pos rfl] at H; exact H
    clear H
    have H := H1
    clear H1
    simp only [Option.some.injEq, Prod.mk.injEq] at H
    obtain ⟨rfl, rfl⟩ := H
    go_enter Tryz.func16, Tryz.ntmps16
    go_wp2_with (first | ((with_reducible refine gate_callee (f := 52) rfl ?_); refine goesM (some 11) Tryz.func52 #[.slice A0 l0.length c0, .slice A1 l1.length c1] ?_; (with_reducible refine (size_CheckAll.calls k _ _ l0 _ _ l1 t350 _ ?side1 ?side2 ?side3 ?side4 ?side5 A4.out).mono ?_); (case side1 => exact Glob.below HG0.out (bl HB)); (case side2 => repeat (first | exact HR0.out | (with_reducible refine Kd.C_alloc ?_ _) | (with_reducible refine Kd.C_drewN ?_ _) | (with_reducible refine Kd.C_drew ?_))); (case side3 => exact HC0.out); (case side4 => repeat (first | exact HR1.out | (with_reducible refine Kd.C_alloc ?_ _) | (with_reducible refine Kd.C_drewN ?_ _) | (with_reducible refine Kd.C_drew ?_))); (case side5 => exact HC1.out); rintro e w9 ⟨rfl, hb⟩; refine ⟨_, rfl, ?_⟩; replace HB := Aside0.mk (below_step (bl HB) hb); (try clear hb); (try clear hb2); (try clear hk); (try clear hi)) | ((with_reducible refine gate_callee (f := 56) rfl ?_); refine goesM (some 21) Tryz.func56 #[.slice A2 l2.length c2, .func (.func 57) #[] #[]] ?_; (with_reducible refine (cCombine.calls k _ _ l2 true _ ?side1 ?side2 ?side3 A7.out).mono ?_); (case side1 => exact Glob.below HG0.out (bl HB)); (case side2 => repeat (first | exact (Kd.C_below HR2.out HB.out) | (with_reducible refine Kd.C_alloc ?_ _) | (with_reducible refine Kd.C_drewN ?_ _) | (with_reducible refine Kd.C_drew ?_))); (case side3 => exact HC2.out); rintro e w10 ⟨rfl, hb⟩; refine ⟨_, rfl, ?_⟩; replace HB := Aside0.mk (below_step (bl HB) hb); (try clear hb); (try clear hb2); (try clear hk); (try clear hi)))
    go_ret2
    exact ⟨_, rl, by first | exact Kd.R_nil _ _ _ _ _ | exact Kd.N_nil _ _ _ _ _ | exact Kd.V_nil _ _ _ _ _ | exact Kd.Q_nil _ _ _ _ _ | exact Kd.S_nil _ _ _ _ _, bl HB⟩
   ·replace c8 := Bool.eq_false_iff.mpr c8
    subst c8
    have H1 : ((size_sum.f k (l0.length : Int) l1 l2).bind fun t352 => ((size_result.f t352).bind fun bt355 => (some (bt355.1, bt355.2)))) = some (r1, r2) := by rw [if_neg (show ¬ (false = true) by decide)] at H; exact H
    clear H
    have H := H1
    clear H1
    replace H := Option.bind_eq_some_iff.mp H
    obtain ⟨t352, A110, H⟩ := H
    replace H : ((size_result.f t352).bind fun bt355 => (some (bt355.1, bt355.2))) = some (r1, r2) := H
    have A11 := Aside0.mk A110
    clear A110
    replace H := Option.bind_eq_some_iff.mp H
    obtain ⟨⟨t355, t358⟩, A120, H⟩ := H
    replace H : (some (t355, t358)) = some (r1, r2) := H
    have A12 := Aside0.mk A120
    clear A120
    simp only [Option.some.injEq, Prod.mk.injEq] at H
    obtain ⟨rfl, rfl⟩ := H
    go_enter Tryz.func16, Tryz.ntmps16
    go_wp2_with (first | ((with_reducible refine gate_callee (f := 52) rfl ?_); refine goesM (some 11) Tryz.func52 #[.slice A0 l0.length c0, .slice A1 l1.length c1] ?_; (with_reducible refine (size_CheckAll.calls k _ _ l0 _ _ l1 t350 _ ?side1 ?side2 ?side3 ?side4 ?side5 A4.out).mono ?_); (case side1 => exact Glob.below HG0.out (bl HB)); (case side2 => repeat (first | exact HR0.out | (with_reducible refine Kd.C_alloc ?_ _) | (with_reducible refine Kd.C_drewN ?_ _) | (with_reducible refine Kd.C_drew ?_))); (case side3 => exact HC0.out); (case side4 => repeat (first | exact HR1.out | (with_reducible refine Kd.C_alloc ?_ _) | (with_reducible refine Kd.C_drewN ?_ _) | (with_reducible refine Kd.C_drew ?_))); (case side5 => exact HC1.out); rintro e w13 ⟨rfl, hb⟩; refine ⟨_, rfl, ?_⟩; replace HB := Aside0.mk (below_step (bl HB) hb); (try clear hb); (try clear hb2); (try clear hk); (try clear hi)) | ((with_reducible refine gate_callee (f := 56) rfl ?_); refine goesM (some 21) Tryz.func56 #[.slice A2 l2.length c2, .func (.func 57) #[] #[]] ?_; (with_reducible refine (cCombine.calls k _ _ l2 false _ ?side1 ?side2 ?side3 A7.out).mono ?_); (case side1 => exact Glob.below HG0.out (bl HB)); (case side2 => repeat (first | exact (Kd.C_below HR2.out HB.out) | (with_reducible refine Kd.C_alloc ?_ _) | (with_reducible refine Kd.C_drewN ?_ _) | (with_reducible refine Kd.C_drew ?_))); (case side3 => exact HC2.out); rintro e w14 ⟨rfl, hb⟩; refine ⟨_, rfl, ?_⟩; replace HB := Aside0.mk (below_step (bl HB) hb); (try clear hb); (try clear hb2); (try clear hk); (try clear hi)) | ((with_reducible refine gate_callee (f := 59) rfl ?_); refine goesM (some 26) Tryz.func59 #[.int .i64 (l0.length : Int), .slice A1 l1.length c1, .slice A2 l2.length c2] ?_; (with_reducible refine (size_sum.calls k (l0.length : Int) _ _ l1 _ _ l2 t352 _ ?side1 ?side2 ?side3 ?side4 ?side5 A11.out).mono ?_); (case side1 => exact Glob.below HG0.out (bl HB)); (case side2 => repeat (first | exact (Kd.C_below HR1.out HB.out) | (with_reducible refine Kd.C_alloc ?_ _) | (with_reducible refine Kd.C_drewN ?_ _) | (with_reducible refine Kd.C_drew ?_))); (case side3 => exact HC1.out); (case side4 => repeat (first | exact (Kd.C_below HR2.out HB.out) | (with_reducible refine Kd.C_alloc ?_ _) | (with_reducible refine Kd.C_drewN ?_ _) | (with_reducible refine Kd.C_drew ?_))); (case side5 => exact HC2.out); rintro e w15 ⟨v353, rfl, ho0, hb⟩; refine ⟨_, rfl, ?_⟩; have HO354 := Aside0.mk (Kd.R_lower ho0 (below_size (bl HB))); replace HB := Aside0.mk (below_step (bl HB) hb); (try clear hb); (try clear hb2); (try clear hk); (try clear hi); (try clear ho0); obtain ⟨Ao16, co16, eo16⟩ := Kd.R_slice HO354.out; subst eo16) | ((with_reducible refine gate_callee (f := 58) rfl ?_); refine goesM (some 27) Tryz.func58 #[.slice Ao16 t352.length co16] ?_; (with_reducible refine (size_result.calls (fun k_ => some k_ = (.slice Ao16 t352.length co16 : Value).ownBlock) (.slice Ao16 t352.length co16) t352 t355 t358 w _ ?side1 ?side2 A12.out).mono ?_); (case side1 => repeat (first | (with_reducible first | exact HB.out | apply below_alloc | apply pw_below_drewN | apply below_drew1) | exact HB.out)); (case side2 => exact Kd.R_tight rfl HO354.out); rintro e w17 ⟨v356, rfl, ho0, hb, hkp⟩; refine ⟨_, rfl, ?_⟩; have n0_ := Aside0.mk (Kd.R_mono (ok' := fun k_ => True) ho0 (fun k_ hk_ => trivial)); have n1_ := Aside0.mk (hb); clear HB; clear HO354; have HO357 := n0_; have HB := n1_; clear n0_ n1_; (try clear hb); (try clear hkp); (try clear ho0)))
    go_ret2
    exact ⟨_, rl, kr HO357, bl HB⟩
  ·rw [if_neg c6] at H
   have c6b0 : ((l2.length : Int) == (l1.length : Int)) = false := beq_eq_false_iff_ne.mpr c6
   have c6b1 : ((l2.length : Int) != (l1.length : Int)) = true := bne_iff_ne.mpr c6
   have c6b2 : (l2.length == l1.length) = false := by first | simpa using c6 | (simp at c6 ⊢; omega)
   simp only [Option.some.injEq, Prod.mk.injEq] at H
   obtain ⟨rfl, rfl⟩ := H
   go_enter Tryz.func16, Tryz.ntmps16
   go_wp2_with (first | ((with_reducible refine gate_callee (f := 52) rfl ?_); refine goesM (some 11) Tryz.func52 #[.slice A0 l0.length c0, .slice A1 l1.length c1] ?_; (with_reducible refine (size_CheckAll.calls k _ _ l0 _ _ l1 t350 _ ?side1 ?side2 ?side3 ?side4 ?side5 A4.out).mono ?_); (case side1 => exact Glob.below HG0.out (bl HB)); (case side2 => repeat (first | exact HR0.out | (with_reducible refine Kd.C_alloc ?_ _) | (with_reducible refine Kd.C_drewN ?_ _) | (with_reducible refine Kd.C_drew ?_))); (case side3 => exact HC0.out); (case side4 => repeat (first | exact HR1.out | (with_reducible refine Kd.C_alloc ?_ _) | (with_reducible refine Kd.C_drewN ?_ _) | (with_reducible refine Kd.C_drew ?_))); (case side5 => exact HC1.out); rintro e w18 ⟨rfl, hb⟩; refine ⟨_, rfl, ?_⟩; replace HB := Aside0.mk (below_step (bl HB) hb); (try clear hb); (try clear hb2); (try clear hk); (try clear hi)))
   go_ret2
   exact ⟨_, rl, by first | exact Kd.R_nil _ _ _ _ _ | exact Kd.N_nil _ _ _ _ _ | exact Kd.V_nil _ _ _ _ _ | exact Kd.Q_nil _ _ _ _ _ | exact Kd.S_nil _ _ _ _ _, bl HB⟩
 ·rw [if_neg c5] at H
  have c5b0 : (t350 == 0) = false := beq_eq_false_iff_ne.mpr c5
  have c5b1 : (t350 != 0) = true := bne_iff_ne.mpr c5
  simp only [Option.some.injEq, Prod.mk.injEq] at H
  obtain ⟨rfl, rfl⟩ := H
  go_enter Tryz.func16, Tryz.ntmps16
  go_wp2_with (first | ((with_reducible refine gate_callee (f := 52) rfl ?_); refine goesM (some 11) Tryz.func52 #[.slice A0 l0.length c0, .slice A1 l1.length c1] ?_; (with_reducible refine (size_CheckAll.calls k _ _ l0 _ _ l1 t350 _ ?side1 ?side2 ?side3 ?side4 ?side5 A4.out).mono ?_); (case side1 => exact Glob.below HG0.out (bl HB)); (case side2 => repeat (first | exact HR0.out | (with_reducible refine Kd.C_alloc ?_ _) | (with_reducible refine Kd.C_drewN ?_ _) | (with_reducible refine Kd.C_drew ?_))); (case side3 => exact HC0.out); (case side4 => repeat (first | exact HR1.out | (with_reducible refine Kd.C_alloc ?_ _) | (with_reducible refine Kd.C_drewN ?_ _) | (with_reducible refine Kd.C_drew ?_))); (case side5 => exact HC1.out); rintro e w19 ⟨rfl, hb⟩; refine ⟨_, rfl, ?_⟩; replace HB := Aside0.mk (below_step (bl HB) hb); (try clear hb); (try clear hb2); (try clear hk); (try clear hi)))
  go_ret2
  exact ⟨_, rl, by first | exact Kd.R_nil _ _ _ _ _ | exact Kd.N_nil _ _ _ _ _ | exact Kd.V_nil _ _ _ _ _ | exact Kd.Q_nil _ _ _ _ _ | exact Kd.S_nil _ _ _ _ _, bl HB⟩
def size_Scale.f (k : Nat) (l0 : List Int) (l1 : List (S30)) (a2_0 : ByteArray) (a2_1 : ByteArray) : Option ((List (S30)) × Int) := (size_Combine.f k l0 (([l1] : List (List (S30)))) (([(⟨a2_0, a2_1⟩ : S30)] : List (S30)))).bind fun bt366 => (some (bt366.1, bt366.2))
set_option maxHeartbeats 8000000 in
set_option maxRecDepth 100000 in
theorem size_Scale.calls (k : Nat) (A0 : Option Addr) (c0 : Nat) (l0 : List Int) (P1_ : Nat → Prop) (A1 : Option Addr) (c1 : Nat) (l1 : List (S30)) (a2_0 : ByteArray) (a2_1 : ByteArray) (r1 : List (S30)) (r2 : Int) (w : World) (hG : Glob w) (hr0 : Kd.C (Kd.int .i64) w A0 l0.length l0) (hc0 : l0.length ≤ c0) (hs1 : Kd.V k30 30 w w.heap.size (fun k_ => P1_ k_) (.slice A1 l1.length c1) l1) (h : size_Scale.f k l0 l1 a2_0 a2_1 = some (r1, r2)) :
  Calls Tryz.prog 23 #[.slice A0 l0.length c0, .slice A1 l1.length c1, .agg #[.string a2_0, .string a2_1]] w fun e w' => ∃ v0_ : Value, e = .returned (.tuple #[v0_, .int .i64 r2]) ∧ Kd.R k30 30 w' w.heap.size (fun k_ => (w.heap.size ≤ k_)) v0_ r1 ∧ Below w.heap.size w w' := by
 have hu30 := Tryz.underlying30
 have HR0 := Aside0.mk hr0
 have HC0 := Aside0.mk hc0
 clear hr0 hc0
 have HO1 := Aside0.mk (show Kd.V k30 30 w w.heap.size (fun k_ => (P1_ k_ ∨ w.heap.size ≤ k_)) (.slice A1 l1.length c1) l1 from Kd.V_mono hs1 (fun k_ hk => .inl hk))
 have HG0 := Aside0.mk hG
 clear hG
 have HB := Aside0.mk (Below.refl w.heap.size w)
 have H : ((size_Combine.f k l0 (([l1] : List (List (S30)))) (([(⟨a2_0, a2_1⟩ : S30)] : List (S30)))).bind fun bt366 => (some (bt366.1, bt366.2))) = some (r1, r2) := h
 clear h
 obtain ⟨y360, hy360⟩ : ∃ y_ : List (List (S30)), y_ = (([l1] : List (List (S30)))) := ⟨_, rfl⟩
 replace H : ((size_Combine.f k l0 y360 (([(⟨a2_0, a2_1⟩ : S30)] : List (S30)))).bind fun bt366 => (some (bt366.1, bt366.2))) = some (r1, r2) := by first | (rw [hy360]; with_reducible exact H) | (have H2_ := (Option.bind_some _ _).symm.trans H; rw [hy360]; with_reducible exact H2_) | (have H2_ := (Option.bind_some _ _).symm.trans H; with_reducible exact H2_) | with_reducible exact H | (rw [hy360]; exact H) | exact H
 have Ny360 := Aside0.mk hy360
 clear hy360
 obtain ⟨y363, hy363⟩ : ∃ y_ : List (S30), y_ = (([(⟨a2_0, a2_1⟩ : S30)] : List (S30))) := ⟨_, rfl⟩
 replace H : ((size_Combine.f k l0 y360 y363).bind fun bt366 => (some (bt366.1, bt366.2))) = some (r1, r2) := by first | (rw [hy363]; with_reducible exact H) | (have H2_ := (Option.bind_some _ _).symm.trans H; rw [hy363]; with_reducible exact H2_) | (have H2_ := (Option.bind_some _ _).symm.trans H; with_reducible exact H2_) | with_reducible exact H | (rw [hy363]; exact H) | exact H
 have Ny363 := Aside0.mk hy363
 clear hy363
 replace H := Option.bind_eq_some_iff.mp H
 obtain ⟨⟨t366, t367⟩, A40, H⟩ := H
 replace H : (some (t366, t367)) = some (r1, r2) := H
 have A4 := Aside0.mk A40
 clear A40
 simp only [Option.some.injEq, Prod.mk.injEq] at H
 obtain ⟨rfl, rfl⟩ := H
 go_enter Tryz.func23, Tryz.ntmps23
 go_wp2_with (first | ((with_reducible refine gate_dst (N := 5) rfl ?_); refine boxM (N := 5) #[.string a2_0, .string a2_1] 30 ?_; intro gb359 hg w5 hbox hb; replace HO1 := Aside0.mk (Kd.V_below (Kd.V_elderB (by (with_reducible repeat (first | apply Kd.V_alloc | apply Kd.V_drewN | apply Kd.V_drew)); exact HO1.out) gb359 (Nat.le_of_eq hg.symm)) hb); have BK359 := Aside0.mk (hbox); have GW359 := Aside0.mk ((by rw [hg]; exact (below_size (bl HB)) : w.heap.size ≤ gb359)); have GE359 := Aside0.mk ((by rw [hg]; exact (below_size (bl HB)) : w.heap.size ≤ gb359)); replace HB := Aside0.mk (below_step (bl HB) hb); clear hb hbox hg) | ((with_reducible refine gate_dst (N := 10) rfl ?_); refine Kd.N_lit (Kd.slice 30 k30) _ 34 ?hg (N' := 10) ?hd (xs := ([l1] : List (List (S30)))) (inner := [.slice A1 l1.length c1]) (ok := (fun k_ => (P1_ k_ ∨ w.heap.size ≤ k_) ∧ k_ ≠ gb359)) (okp := (fun k_ => (P1_ k_ ∨ w.heap.size ≤ k_) ∧ k_ ≠ gb359)) ?hr ?hp (fun _ hk => hk) ((show ∀ k_, w5.heap.size ≤ k_ → (fun k_ => (P1_ k_ ∨ w.heap.size ≤ k_) ∧ k_ ≠ gb359) k_ from fun k_ hk => ⟨(.inr (Nat.le_trans (below_size (bl HB)) hk)), Kd.freshB (g := gb359) (o := .cells #[.string a2_0, .string a2_1] 30 (0, 0)) (bk BK359) k_ hk⟩) _ (Nat.le_refl _)) (Below.refl _ _) (Nat.le_refl _) (by simp) ?_; (case hd => rfl); (case hg => rfl); (case hr => first | (go_simp; done) | (go_simp; rfl)); (case hp => exact (Reps.one (show Kd.FK (Kd.slice 30 k30) _ _ l1 [.slice A1 l1.length c1] from (Kd.FK_slice_mk (Kd.V_reads' (Kd.V_mono (ok' := (fun k_ => (P1_ k_ ∨ w.heap.size ≤ k_) ∧ k_ ≠ gb359)) (HO1.out) (fun k_ hk => ⟨hk.1, hk.2⟩))).2.1 (Kd.V_F (Kd.V_mono (ok' := (fun k_ => (P1_ k_ ∨ w.heap.size ≤ k_) ∧ k_ ≠ gb359)) (HO1.out) (fun k_ hk => ⟨hk.1, hk.2⟩))))) (Reps.none _ _))); intro v361 w6 ho7 hb hg_ hnew_; clear hg_ hnew_; (first | rw [← Ny360.out] at ho7 | (simp only [Int.reduceToNat] at ho7; rw [← Ny360.out] at ho7)); replace HO1 := Aside0.mk (Kd.V_elder' (by (with_reducible repeat (first | apply Kd.V_alloc | apply Kd.V_drewN | apply Kd.V_drew)); exact HO1.out) (Kd.N_base ho7) hb); have HO362 := Aside0.mk (Kd.N_lower ho7 (below_size (bl HB))); replace BK359 := Aside0.mk (blk_below (g := gb359) (o := .cells #[.string a2_0, .string a2_1] 30 (0, 0)) (bk BK359) hb); replace HB := Aside0.mk (below_step (bl HB) hb); clear hb ho7; have hcz8_0 : w6.cell? ⟨gb359, 0, none⟩ = some (.string a2_0) := (blk_cell BK359.out 0).trans rfl; have hcz8_1 : w6.cell? ⟨gb359, 1, none⟩ = some (.string a2_1) := (blk_cell BK359.out 1).trans rfl; have hfz8_0 := blk_frozen BK359.out 0; have hfz8_1 := blk_frozen BK359.out 1) | ((with_reducible refine gate_dst (N := 12) rfl ?_); refine Kd.R_lit k30 _ 30 ?hg (N := 12) ?hd (xs := ([(⟨a2_0, a2_1⟩ : S30)] : List (S30))) (inner := [.string a2_0, .string a2_1]) (ok := fun _ => True) (okp := fun _ => True) ?hr ?hp (fun _ hk => hk) trivial (Below.refl _ _) (Nat.le_refl _) (by simp) ?_; (case hd => rfl); (case hg => rfl); (case hr => first | (go_simp; done) | (go_simp; rfl)); (case hp => exact (Reps.c2 (show Kd.M k30 _ _ _ (⟨a2_0, a2_1⟩ : S30) [.string a2_0, .string a2_1] from (k30_mkM _ _ _ (⟨a2_0, a2_1⟩ : S30) )) (Reps.none _ _))); intro v364 w9 ho10 hb hg_ hnew_; clear hg_ hnew_; (first | rw [← Ny363.out] at ho10 | (simp only [Int.reduceToNat] at ho10; rw [← Ny363.out] at ho10)); replace HO1 := Aside0.mk (Kd.V_elder' (by (with_reducible repeat (first | apply Kd.V_alloc | apply Kd.V_drewN | apply Kd.V_drew)); exact HO1.out) (Kd.R_base ho10) hb); replace HO362 := Aside0.mk (Kd.N_elder' (by (with_reducible repeat (first | apply Kd.N_alloc | apply Kd.N_drewN | apply Kd.N_drew)); exact HO362.out) (Kd.R_base ho10) hb); have HO365 := Aside0.mk (Kd.R_lower (Kd.R_newB (Kd.R_newM (M := fun k_ => (w.heap.size ≤ k_)) ho10 (below_size (bl HB)) (fun k_ h_ => h_)) (g := gb359) (o := .cells #[.string a2_0, .string a2_1] 30 (0, 0)) (bk BK359)) (below_size (bl HB))); replace BK359 := Aside0.mk (blk_below (g := gb359) (o := .cells #[.string a2_0, .string a2_1] 30 (0, 0)) (bk BK359) hb); replace HB := Aside0.mk (below_step (bl HB) hb); clear hb ho10; obtain ⟨Ao11, co11, eo11⟩ := Kd.N_slice HO362.out; subst eo11; obtain ⟨Ao12, co12, eo12⟩ := Kd.R_slice HO365.out; subst eo12) | ((with_reducible refine gate_callee (f := 16) rfl ?_); refine goesM (some 13) Tryz.func16 #[.slice A0 l0.length c0, .slice Ao11 y360.length co11, .slice Ao12 y363.length co12] ?_; (with_reducible refine (size_Combine.calls k _ _ l0 _ _ y360 _ _ y363 t366 t367 _ ?side1 ?side2 ?side3 ?side4 ?side5 ?side6 ?side7 A4.out).mono ?_); (case side1 => exact Glob.below HG0.out (bl HB)); (case side2 => repeat (first | exact (Kd.C_below HR0.out HB.out) | (with_reducible refine Kd.C_alloc ?_ _) | (with_reducible refine Kd.C_drewN ?_ _) | (with_reducible refine Kd.C_drew ?_))); (case side3 => exact HC0.out); (case side4 => repeat (first | exact (Kd.N_reads' HO362.out).2.2 | (with_reducible refine Kd.C_alloc ?_ _) | (with_reducible refine Kd.C_drewN ?_ _) | (with_reducible refine Kd.C_drew ?_))); (case side5 => exact (Kd.N_reads' HO362.out).2.1); (case side6 => repeat (first | exact (Kd.R_reads' HO365.out).2.2 | (with_reducible refine Kd.C_alloc ?_ _) | (with_reducible refine Kd.C_drewN ?_ _) | (with_reducible refine Kd.C_drew ?_))); (case side7 => exact (Kd.R_reads' HO365.out).2.1); rintro e w13 ⟨v368, rfl, ho0, hb⟩; refine ⟨_, rfl, ?_⟩; replace HO1 := Aside0.mk (Kd.V_elder' (by (with_reducible repeat (first | apply Kd.V_alloc | apply Kd.V_drewN | apply Kd.V_drew)); exact HO1.out) (Kd.R_base ho0) hb); replace HO362 := Aside0.mk (Kd.N_elder' (by (with_reducible repeat (first | apply Kd.N_alloc | apply Kd.N_drewN | apply Kd.N_drew)); exact HO362.out) (Kd.R_base ho0) hb); have HO369 := Aside0.mk (Kd.R_lower (Kd.R_newB (Kd.R_new' (Kd.R_newM (M := fun k_ => (w.heap.size ≤ k_)) ho0 (below_size (bl HB)) (fun k_ h_ => h_)) (Kd.R_lt (kr HO365))) (g := gb359) (o := .cells #[.string a2_0, .string a2_1] 30 (0, 0)) (bk BK359)) (below_size (bl HB))); replace HO365 := Aside0.mk (Kd.R_elder' (kr HO365) (Kd.R_base ho0) hb); replace BK359 := Aside0.mk (blk_below (g := gb359) (o := .cells #[.string a2_0, .string a2_1] 30 (0, 0)) (bk BK359) hb); replace HB := Aside0.mk (below_step (bl HB) hb); (try clear hb); (try clear hb2); (try clear hk); (try clear hi); (try clear ho0)))
 go_ret2
 exact ⟨_, rl, by (with_reducible repeat (first | apply Kd.R_alloc | apply Kd.R_drewN | apply Kd.R_drew)); exact Kd.R_mono HO369.out (fun _ hk => hk.1.1.1), bl HB⟩
def size_checkQuotient.f (k : Nat) (l0 : List Int) (l1 : List (S30)) (l2 : List (S30)) : Option (Int) := (size_CheckAll.f k l0 (([l1, l2] : List (List (S30))))).bind fun t373 => (if t373 = 0 then ((size_termsOf.f k l0 l2).bind fun bt374 => (if (bt374.1.length : Int) = 0 then (some 17) else (some 0))) else (some t373))
set_option maxHeartbeats 8000000 in
set_option maxRecDepth 100000 in
theorem size_checkQuotient.calls (k : Nat) (A0 : Option Addr) (c0 : Nat) (l0 : List Int) (P1_ : Nat → Prop) (A1 : Option Addr) (c1 : Nat) (l1 : List (S30)) (P2_ : Nat → Prop) (A2 : Option Addr) (c2 : Nat) (l2 : List (S30)) (r : Int) (w : World) (hG : Glob w) (hr0 : Kd.C (Kd.int .i64) w A0 l0.length l0) (hc0 : l0.length ≤ c0) (hs1 : Kd.V k30 30 w w.heap.size (fun k_ => P1_ k_) (.slice A1 l1.length c1) l1) (hs2 : Kd.V k30 30 w w.heap.size (fun k_ => P2_ k_) (.slice A2 l2.length c2) l2) (h : size_checkQuotient.f k l0 l1 l2 = some r) :
  Calls Tryz.prog 74 #[.slice A0 l0.length c0, .slice A1 l1.length c1, .slice A2 l2.length c2] w fun e w' => e = .returned (.int .i64 r) ∧ Below w.heap.size w w' := by
 have hfd103_0 : ∀ (x0_ x1_ x2_ : Value) (W : World), (Instr.field 103 (.agg #[x0_, x1_, x2_]) 0).run Tryz.prog W = .ok x0_ W := fun _ _ _ _ => by kernel_rfl
 have HR0 := Aside0.mk hr0
 have HC0 := Aside0.mk hc0
 clear hr0 hc0
 have HO1 := Aside0.mk (show Kd.V k30 30 w w.heap.size (fun k_ => ((P1_ k_ ∨ P2_ k_) ∨ w.heap.size ≤ k_)) (.slice A1 l1.length c1) l1 from Kd.V_mono hs1 (fun k_ hk => .inl (.inl hk)))
 have HO2 := Aside0.mk (show Kd.V k30 30 w w.heap.size (fun k_ => ((P1_ k_ ∨ P2_ k_) ∨ w.heap.size ≤ k_)) (.slice A2 l2.length c2) l2 from Kd.V_mono hs2 (fun k_ hk => .inl (.inr hk)))
 have HG0 := Aside0.mk hG
 clear hG
 have HB := Aside0.mk (Below.refl w.heap.size w)
 have H : ((size_CheckAll.f k l0 (([l1, l2] : List (List (S30))))).bind fun t373 => (if t373 = 0 then ((size_termsOf.f k l0 l2).bind fun bt374 => (if (bt374.1.length : Int) = 0 then (some 17) else (some 0))) else (some t373))) = some r := h
 clear h
 obtain ⟨y370, hy370⟩ : ∃ y_ : List (List (S30)), y_ = (([l1, l2] : List (List (S30)))) := ⟨_, rfl⟩
 replace H : ((size_CheckAll.f k l0 y370).bind fun t373 => (if t373 = 0 then ((size_termsOf.f k l0 l2).bind fun bt374 => (if (bt374.1.length : Int) = 0 then (some 17) else (some 0))) else (some t373))) = some r := by first | (rw [hy370]; with_reducible exact H) | (have H2_ := (Option.bind_some _ _).symm.trans H; rw [hy370]; with_reducible exact H2_) | (have H2_ := (Option.bind_some _ _).symm.trans H; with_reducible exact H2_) | with_reducible exact H | (rw [hy370]; exact H) | exact H
 have Ny370 := Aside0.mk hy370
 clear hy370
 replace H := Option.bind_eq_some_iff.mp H
 obtain ⟨t373, A40, H⟩ := H
 replace H : (if t373 = 0 then ((size_termsOf.f k l0 l2).bind fun bt374 => (if (bt374.1.length : Int) = 0 then (some 17) else (some 0))) else (some t373)) = some r := H
 have A4 := Aside0.mk A40
 clear A40
 by_cases c5 : t373 = 0
 ·rw [if_pos c5] at H
  have c5b0 : (t373 == 0) = true := beq_iff_eq.mpr c5
  have c5b1 : (t373 != 0) = false := bne_eq_false_iff_eq.mpr c5
  clear c5
  replace H := Option.bind_eq_some_iff.mp H
  obtain ⟨⟨t374, t377, t380⟩, A60, H⟩ := H
  replace H : (if (t374.length : Int) = 0 then (some 17) else (some 0)) = some r := H
  have A6 := Aside0.mk A60
  clear A60
  by_cases c7 : (t374.length : Int) = 0
  ·rw [if_pos c7] at H
   have c7b0 : ((t374.length : Int) == 0) = true := beq_iff_eq.mpr c7
   have c7b1 : ((t374.length : Int) != 0) = false := bne_eq_false_iff_eq.mpr c7
   clear c7
   obtain rfl := Option.some.inj H
   go_enter Tryz.func74, Tryz.ntmps74
   go_wp2_with (first | ((with_reducible refine gate_dst (N := 11) rfl ?_); refine Kd.N_lit (Kd.slice 30 k30) _ 34 ?hg (N' := 11) ?hd (xs := ([l1, l2] : List (List (S30)))) (inner := [.slice A1 l1.length c1, .slice A2 l2.length c2]) (ok := (fun k_ => ((P1_ k_ ∨ P2_ k_) ∨ w.heap.size ≤ k_))) (okp := (fun k_ => ((P1_ k_ ∨ P2_ k_) ∨ w.heap.size ≤ k_))) ?hr ?hp (fun _ hk => hk) ((show ∀ k_, w.heap.size ≤ k_ → (fun k_ => ((P1_ k_ ∨ P2_ k_) ∨ w.heap.size ≤ k_)) k_ from fun k_ hk => (.inr (Nat.le_trans (below_size (bl HB)) hk))) _ (Nat.le_refl _)) (Below.refl _ _) (Nat.le_refl _) (by simp) ?_; (case hd => rfl); (case hg => rfl); (case hr => first | (go_simp; done) | (go_simp; rfl)); (case hp => exact (Reps.one (show Kd.FK (Kd.slice 30 k30) _ _ l1 [.slice A1 l1.length c1] from (Kd.FK_slice_mk (Kd.V_reads' (Kd.V_mono (ok' := (fun k_ => ((P1_ k_ ∨ P2_ k_) ∨ w.heap.size ≤ k_))) (HO1.out) (fun k_ hk => hk))).2.1 (Kd.V_F (Kd.V_mono (ok' := (fun k_ => ((P1_ k_ ∨ P2_ k_) ∨ w.heap.size ≤ k_))) (HO1.out) (fun k_ hk => hk))))) (Reps.one (show Kd.FK (Kd.slice 30 k30) _ _ l2 [.slice A2 l2.length c2] from (Kd.FK_slice_mk (Kd.V_reads' (Kd.V_mono (ok' := (fun k_ => ((P1_ k_ ∨ P2_ k_) ∨ w.heap.size ≤ k_))) (HO2.out) (fun k_ hk => hk))).2.1 (Kd.V_F (Kd.V_mono (ok' := (fun k_ => ((P1_ k_ ∨ P2_ k_) ∨ w.heap.size ≤ k_))) (HO2.out) (fun k_ hk => hk))))) (Reps.none _ _)))); intro v371 w8 ho9 hb hg_ hnew_; clear hg_ hnew_; (first | rw [← Ny370.out] at ho9 | (simp only [Int.reduceToNat] at ho9; rw [← Ny370.out] at ho9)); replace HO1 := Aside0.mk (Kd.V_elder' (by (with_reducible repeat (first | apply Kd.V_alloc | apply Kd.V_drewN | apply Kd.V_drew)); exact HO1.out) (Kd.N_base ho9) hb); replace HO2 := Aside0.mk (Kd.V_elder' (by (with_reducible repeat (first | apply Kd.V_alloc | apply Kd.V_drewN | apply Kd.V_drew)); exact HO2.out) (Kd.N_base ho9) hb); have HO372 := Aside0.mk (Kd.N_lower ho9 (below_size (bl HB))); replace HB := Aside0.mk (below_step (bl HB) hb); clear hb ho9; obtain ⟨Ao10, co10, eo10⟩ := Kd.N_slice HO372.out; subst eo10) | ((with_reducible refine gate_callee (f := 52) rfl ?_); refine goesM (some 12) Tryz.func52 #[.slice A0 l0.length c0, .slice Ao10 y370.length co10] ?_; (with_reducible refine (size_CheckAll.calls k _ _ l0 _ _ y370 t373 _ ?side1 ?side2 ?side3 ?side4 ?side5 A4.out).mono ?_); (case side1 => exact Glob.below HG0.out (bl HB)); (case side2 => repeat (first | exact (Kd.C_below HR0.out HB.out) | (with_reducible refine Kd.C_alloc ?_ _) | (with_reducible refine Kd.C_drewN ?_ _) | (with_reducible refine Kd.C_drew ?_))); (case side3 => exact HC0.out); (case side4 => repeat (first | exact (Kd.N_reads' HO372.out).2.2 | (with_reducible refine Kd.C_alloc ?_ _) | (with_reducible refine Kd.C_drewN ?_ _) | (with_reducible refine Kd.C_drew ?_))); (case side5 => exact (Kd.N_reads' HO372.out).2.1); rintro e w11 ⟨rfl, hb⟩; refine ⟨_, rfl, ?_⟩; replace HO1 := Aside0.mk (Kd.V_below (by (with_reducible repeat (first | apply Kd.V_alloc | apply Kd.V_drewN | apply Kd.V_drew)); exact HO1.out) hb); replace HO2 := Aside0.mk (Kd.V_below (by (with_reducible repeat (first | apply Kd.V_alloc | apply Kd.V_drewN | apply Kd.V_drew)); exact HO2.out) hb); replace HO372 := Aside0.mk (Kd.N_below (by (with_reducible repeat (first | apply Kd.N_alloc | apply Kd.N_drewN | apply Kd.N_drew)); exact HO372.out) hb); replace HB := Aside0.mk (below_step (bl HB) hb); (try clear hb); (try clear hb2); (try clear hk); (try clear hi)) | ((with_reducible refine gate_callee (f := 66) rfl ?_); refine goesM (some 18) Tryz.func66 #[.slice A0 l0.length c0, .slice A2 l2.length c2] ?_; (with_reducible refine (size_termsOf.calls k _ _ l0 _ _ l2 t374 t377 t380 _ ?side1 ?side2 ?side3 ?side4 ?side5 A6.out).mono ?_); (case side1 => exact Glob.below HG0.out (bl HB)); (case side2 => repeat (first | exact (Kd.C_below HR0.out HB.out) | (with_reducible refine Kd.C_alloc ?_ _) | (with_reducible refine Kd.C_drewN ?_ _) | (with_reducible refine Kd.C_drew ?_))); (case side3 => exact HC0.out); (case side4 => repeat (first | exact (Kd.V_reads' HO2.out).2.2 | (with_reducible refine Kd.C_alloc ?_ _) | (with_reducible refine Kd.C_drewN ?_ _) | (with_reducible refine Kd.C_drew ?_))); (case side5 => exact (Kd.V_reads' HO2.out).2.1); rintro e w12 ⟨v375, v378, rfl, ho0, ho1, hb⟩; refine ⟨_, rfl, ?_⟩; replace HO1 := Aside0.mk (Kd.V_mono (Kd.V_told (Kd.V_told (Kd.V_old (by (with_reducible repeat (first | apply Kd.V_alloc | apply Kd.V_drewN | apply Kd.V_drew)); exact HO1.out) hb) (Kd.R_base ho0)) (Kd.R_base ho1)) (fun _ h_ => h_.1)); replace HO2 := Aside0.mk (Kd.V_mono (Kd.V_told (Kd.V_told (Kd.V_old (by (with_reducible repeat (first | apply Kd.V_alloc | apply Kd.V_drewN | apply Kd.V_drew)); exact HO2.out) hb) (Kd.R_base ho0)) (Kd.R_base ho1)) (fun _ h_ => h_.1)); replace HO372 := Aside0.mk (Kd.N_mono (Kd.N_told (Kd.N_told (Kd.N_old (by (with_reducible repeat (first | apply Kd.N_alloc | apply Kd.N_drewN | apply Kd.N_drew)); exact HO372.out) hb) (Kd.R_base ho0)) (Kd.R_base ho1)) (fun _ h_ => h_.1)); have HO376 := Aside0.mk (Kd.R_lower (Kd.R_newM (M := fun k_ => (w.heap.size ≤ k_)) ho0 (below_size (bl HB)) (fun k_ h_ => h_)) (below_size (bl HB))); have HO379 := Aside0.mk (Kd.R_lower (Kd.R_newM (M := fun k_ => (w.heap.size ≤ k_)) ho1 (below_size (bl HB)) (fun k_ h_ => h_)) (below_size (bl HB))); replace HB := Aside0.mk (below_step (bl HB) hb); (try clear hb); (try clear hb2); (try clear hk); (try clear hi); (try clear ho0); (try clear ho1); obtain ⟨Ao13, co13, eo13⟩ := Kd.R_slice HO376.out; subst eo13))
   go_ret
   exact ⟨rl, bl HB⟩
  ·rw [if_neg c7] at H
   have c7b0 : ((t374.length : Int) == 0) = false := beq_eq_false_iff_ne.mpr c7
   have c7b1 : ((t374.length : Int) != 0) = true := bne_iff_ne.mpr c7
   have c7b2 : ¬ (t374 = []) := fun h_ => c7 (by rw [h_]; rfl)
   obtain rfl := Option.some.inj H
   go_enter Tryz.func74, Tryz.ntmps74
   go_wp2_with (first | ((with_reducible refine gate_dst (N := 11) rfl ?_); refine Kd.N_lit (Kd.slice 30 k30) _ 34 ?hg (N' := 11) ?hd (xs := ([l1, l2] : List (List (S30)))) (inner := [.slice A1 l1.length c1, .slice A2 l2.length c2]) (ok := (fun k_ => ((P1_ k_ ∨ P2_ k_) ∨ w.heap.size ≤ k_))) (okp := (fun k_ => ((P1_ k_ ∨ P2_ k_) ∨ w.heap.size ≤ k_))) ?hr ?hp (fun _ hk => hk) ((show ∀ k_, w.heap.size ≤ k_ → (fun k_ => ((P1_ k_ ∨ P2_ k_) ∨ w.heap.size ≤ k_)) k_ from fun k_ hk => (.inr (Nat.le_trans (below_size (bl HB)) hk))) _ (Nat.le_refl _)) (Below.refl _ _) (Nat.le_refl _) (by simp) ?_; (case hd => rfl); (case hg => rfl); (case hr => first | (go_simp; done) | (go_simp; rfl)); (case hp => exact (Reps.one (show Kd.FK (Kd.slice 30 k30) _ _ l1 [.slice A1 l1.length c1] from (Kd.FK_slice_mk (Kd.V_reads' (Kd.V_mono (ok' := (fun k_ => ((P1_ k_ ∨ P2_ k_) ∨ w.heap.size ≤ k_))) (HO1.out) (fun k_ hk => hk))).2.1 (Kd.V_F (Kd.V_mono (ok' := (fun k_ => ((P1_ k_ ∨ P2_ k_) ∨ w.heap.size ≤ k_))) (HO1.out) (fun k_ hk => hk))))) (Reps.one (show Kd.FK (Kd.slice 30 k30) _ _ l2 [.slice A2 l2.length c2] from (Kd.FK_slice_mk (Kd.V_reads' (Kd.V_mono (ok' := (fun k_ => ((P1_ k_ ∨ P2_ k_) ∨ w.heap.size ≤ k_))) (HO2.out) (fun k_ hk => hk))).2.1 (Kd.V_F (Kd.V_mono (ok' := (fun k_ => ((P1_ k_ ∨ P2_ k_) ∨ w.heap.size ≤ k_))) (HO2.out) (fun k_ hk => hk))))) (Reps.none _ _)))); intro v371 w14 ho15 hb hg_ hnew_; clear hg_ hnew_; (first | rw [← Ny370.out] at ho15 | (simp only [Int.reduceToNat] at ho15; rw [← Ny370.out] at ho15)); replace HO1 := Aside0.mk (Kd.V_elder' (by (with_reducible repeat (first | apply Kd.V_alloc | apply Kd.V_drewN | apply Kd.V_drew)); exact HO1.out) (Kd.N_base ho15) hb); replace HO2 := Aside0.mk (Kd.V_elder' (by (with_reducible repeat (first | apply Kd.V_alloc | apply Kd.V_drewN | apply Kd.V_drew)); exact HO2.out) (Kd.N_base ho15) hb); have HO372 := Aside0.mk (Kd.N_lower ho15 (below_size (bl HB))); replace HB := Aside0.mk (below_step (bl HB) hb); clear hb ho15; obtain ⟨Ao16, co16, eo16⟩ := Kd.N_slice HO372.out; subst eo16) | ((with_reducible refine gate_callee (f := 52) rfl ?_); refine goesM (some 12) Tryz.func52 #[.slice A0 l0.length c0, .slice Ao16 y370.length co16] ?_; (with_reducible refine (size_CheckAll.calls k _ _ l0 _ _ y370 t373 _ ?side1 ?side2 ?side3 ?side4 ?side5 A4.out).mono ?_); (case side1 => exact Glob.below HG0.out (bl HB)); (case side2 => repeat (first | exact (Kd.C_below HR0.out HB.out) | (with_reducible refine Kd.C_alloc ?_ _) | (with_reducible refine Kd.C_drewN ?_ _) | (with_reducible refine Kd.C_drew ?_))); (case side3 => exact HC0.out); (case side4 => repeat (first | exact (Kd.N_reads' HO372.out).2.2 | (with_reducible refine Kd.C_alloc ?_ _) | (with_reducible refine Kd.C_drewN ?_ _) | (with_reducible refine Kd.C_drew ?_))); (case side5 => exact (Kd.N_reads' HO372.out).2.1); rintro e w17 ⟨rfl, hb⟩; refine ⟨_, rfl, ?_⟩; replace HO1 := Aside0.mk (Kd.V_below (by (with_reducible repeat (first | apply Kd.V_alloc | apply Kd.V_drewN | apply Kd.V_drew)); exact HO1.out) hb); replace HO2 := Aside0.mk (Kd.V_below (by (with_reducible repeat (first | apply Kd.V_alloc | apply Kd.V_drewN | apply Kd.V_drew)); exact HO2.out) hb); replace HO372 := Aside0.mk (Kd.N_below (by (with_reducible repeat (first | apply Kd.N_alloc | apply Kd.N_drewN | apply Kd.N_drew)); exact HO372.out) hb); replace HB := Aside0.mk (below_step (bl HB) hb); (try clear hb); (try clear hb2); (try clear hk); (try clear hi)) | ((with_reducible refine gate_callee (f := 66) rfl ?_); refine goesM (some 18) Tryz.func66 #[.slice A0 l0.length c0, .slice A2 l2.length c2] ?_; (with_reducible refine (size_termsOf.calls k _ _ l0 _ _ l2 t374 t377 t380 _ ?side1 ?side2 ?side3 ?side4 ?side5 A6.out).mono ?_); (case side1 => exact Glob.below HG0.out (bl HB)); (case side2 => repeat (first | exact (Kd.C_below HR0.out HB.out) | (with_reducible refine Kd.C_alloc ?_ _) | (with_reducible refine Kd.C_drewN ?_ _) | (with_reducible refine Kd.C_drew ?_))); (case side3 => exact HC0.out); (case side4 => repeat (first | exact (Kd.V_reads' HO2.out).2.2 | (with_reducible refine Kd.C_alloc ?_ _) | (with_reducible refine Kd.C_drewN ?_ _) | (with_reducible refine Kd.C_drew ?_))); (case side5 => exact (Kd.V_reads' HO2.out).2.1); rintro e w18 ⟨v375, v378, rfl, ho0, ho1, hb⟩; refine ⟨_, rfl, ?_⟩; replace HO1 := Aside0.mk (Kd.V_mono (Kd.V_told (Kd.V_told (Kd.V_old (by (with_reducible repeat (first | apply Kd.V_alloc | apply Kd.V_drewN | apply Kd.V_drew)); exact HO1.out) hb) (Kd.R_base ho0)) (Kd.R_base ho1)) (fun _ h_ => h_.1)); replace HO2 := Aside0.mk (Kd.V_mono (Kd.V_told (Kd.V_told (Kd.V_old (by (with_reducible repeat (first | apply Kd.V_alloc | apply Kd.V_drewN | apply Kd.V_drew)); exact HO2.out) hb) (Kd.R_base ho0)) (Kd.R_base ho1)) (fun _ h_ => h_.1)); replace HO372 := Aside0.mk (Kd.N_mono (Kd.N_told (Kd.N_told (Kd.N_old (by (with_reducible repeat (first | apply Kd.N_alloc | apply Kd.N_drewN | apply Kd.N_drew)); exact HO372.out) hb) (Kd.R_base ho0)) (Kd.R_base ho1)) (fun _ h_ => h_.1)); have HO376 := Aside0.mk (Kd.R_lower (Kd.R_newM (M := fun k_ => (w.heap.size ≤ k_)) ho0 (below_size (bl HB)) (fun k_ h_ => h_)) (below_size (bl HB))); have HO379 := Aside0.mk (Kd.R_lower (Kd.R_newM (M := fun k_ => (w.heap.size ≤ k_)) ho1 (below_size (bl HB)) (fun k_ h_ => h_)) (below_size (bl HB))); replace HB := Aside0.mk (below_step (bl HB) hb); (try clear hb); (try clear hb2); (try clear hk); (try clear hi); (try clear ho0); (try clear ho1); obtain ⟨Ao19, co19, eo19⟩ := Kd.R_slice HO376.out; subst eo19))
   go_ret
   exact ⟨rl, bl HB⟩
 ·rw [if_neg c5] at H
  have c5b0 : (t373 == 0) = false := beq_eq_false_iff_ne.mpr c5
  have c5b1 : (t373 != 0) = true := bne_iff_ne.mpr c5
  obtain rfl := Option.some.inj H
  go_enter Tryz.func74, Tryz.ntmps74
  go_wp2_with (first | ((with_reducible refine gate_dst (N := 11) rfl ?_); refine Kd.N_lit (Kd.slice 30 k30) _ 34 ?hg (N' := 11) ?hd (xs := ([l1, l2] : List (List (S30)))) (inner := [.slice A1 l1.length c1, .slice A2 l2.length c2]) (ok := (fun k_ => ((P1_ k_ ∨ P2_ k_) ∨ w.heap.size ≤ k_))) (okp := (fun k_ => ((P1_ k_ ∨ P2_ k_) ∨ w.heap.size ≤ k_))) ?hr ?hp (fun _ hk => hk) ((show ∀ k_, w.heap.size ≤ k_ → (fun k_ => ((P1_ k_ ∨ P2_ k_) ∨ w.heap.size ≤ k_)) k_ from fun k_ hk => (.inr (Nat.le_trans (below_size (bl HB)) hk))) _ (Nat.le_refl _)) (Below.refl _ _) (Nat.le_refl _) (by simp) ?_; (case hd => rfl); (case hg => rfl); (case hr => first | (go_simp; done) | (go_simp; rfl)); (case hp => exact (Reps.one (show Kd.FK (Kd.slice 30 k30) _ _ l1 [.slice A1 l1.length c1] from (Kd.FK_slice_mk (Kd.V_reads' (Kd.V_mono (ok' := (fun k_ => ((P1_ k_ ∨ P2_ k_) ∨ w.heap.size ≤ k_))) (HO1.out) (fun k_ hk => hk))).2.1 (Kd.V_F (Kd.V_mono (ok' := (fun k_ => ((P1_ k_ ∨ P2_ k_) ∨ w.heap.size ≤ k_))) (HO1.out) (fun k_ hk => hk))))) (Reps.one (show Kd.FK (Kd.slice 30 k30) _ _ l2 [.slice A2 l2.length c2] from (Kd.FK_slice_mk (Kd.V_reads' (Kd.V_mono (ok' := (fun k_ => ((P1_ k_ ∨ P2_ k_) ∨ w.heap.size ≤ k_))) (HO2.out) (fun k_ hk => hk))).2.1 (Kd.V_F (Kd.V_mono (ok' := (fun k_ => ((P1_ k_ ∨ P2_ k_) ∨ w.heap.size ≤ k_))) (HO2.out) (fun k_ hk => hk))))) (Reps.none _ _)))); intro v371 w20 ho21 hb hg_ hnew_; clear hg_ hnew_; (first | rw [← Ny370.out] at ho21 | (simp only [Int.reduceToNat] at ho21; rw [← Ny370.out] at ho21)); replace HO1 := Aside0.mk (Kd.V_elder' (by (with_reducible repeat (first | apply Kd.V_alloc | apply Kd.V_drewN | apply Kd.V_drew)); exact HO1.out) (Kd.N_base ho21) hb); replace HO2 := Aside0.mk (Kd.V_elder' (by (with_reducible repeat (first | apply Kd.V_alloc | apply Kd.V_drewN | apply Kd.V_drew)); exact HO2.out) (Kd.N_base ho21) hb); have HO372 := Aside0.mk (Kd.N_lower ho21 (below_size (bl HB))); replace HB := Aside0.mk (below_step (bl HB) hb); clear hb ho21; obtain ⟨Ao22, co22, eo22⟩ := Kd.N_slice HO372.out; subst eo22) | ((with_reducible refine gate_callee (f := 52) rfl ?_); refine goesM (some 12) Tryz.func52 #[.slice A0 l0.length c0, .slice Ao22 y370.length co22] ?_; (with_reducible refine (size_CheckAll.calls k _ _ l0 _ _ y370 t373 _ ?side1 ?side2 ?side3 ?side4 ?side5 A4.out).mono ?_); (case side1 => exact Glob.below HG0.out (bl HB)); (case side2 => repeat (first | exact (Kd.C_below HR0.out HB.out) | (with_reducible refine Kd.C_alloc ?_ _) | (with_reducible refine Kd.C_drewN ?_ _) | (with_reducible refine Kd.C_drew ?_))); (case side3 => exact HC0.out); (case side4 => repeat (first | exact (Kd.N_reads' HO372.out).2.2 | (with_reducible refine Kd.C_alloc ?_ _) | (with_reducible refine Kd.C_drewN ?_ _) | (with_reducible refine Kd.C_drew ?_))); (case side5 => exact (Kd.N_reads' HO372.out).2.1); rintro e w23 ⟨rfl, hb⟩; refine ⟨_, rfl, ?_⟩; replace HO1 := Aside0.mk (Kd.V_below (by (with_reducible repeat (first | apply Kd.V_alloc | apply Kd.V_drewN | apply Kd.V_drew)); exact HO1.out) hb); replace HO2 := Aside0.mk (Kd.V_below (by (with_reducible repeat (first | apply Kd.V_alloc | apply Kd.V_drewN | apply Kd.V_drew)); exact HO2.out) hb); replace HO372 := Aside0.mk (Kd.N_below (by (with_reducible repeat (first | apply Kd.N_alloc | apply Kd.N_drewN | apply Kd.N_drew)); exact HO372.out) hb); replace HB := Aside0.mk (below_step (bl HB) hb); (try clear hb); (try clear hb2); (try clear hk); (try clear hi)))
  go_ret
  exact ⟨rl, bl HB⟩
def fraction_Sign.f (a0_0 : ByteArray) (a0_1 : ByteArray) : Option (Int) := (whole_Sign.f a0_0).bind fun t382 => (some t382)
set_option maxHeartbeats 8000000 in
set_option maxRecDepth 100000 in
theorem fraction_Sign.calls (a0_0 : ByteArray) (a0_1 : ByteArray) (r : Int) (w : World) (h : fraction_Sign.f a0_0 a0_1 = some r) :
  Calls Tryz.prog 25 #[.agg #[.string a0_0, .string a0_1]] w fun e w' => e = .returned (.int .i64 r) ∧ Below w.heap.size w w' := by
 have hu30 := Tryz.underlying30
 have HB := Aside0.mk (Below.refl w.heap.size w)
 have H : ((whole_Sign.f a0_0).bind fun t382 => (some t382)) = some r := h
 clear h
 replace H := Option.bind_eq_some_iff.mp H
 obtain ⟨t382, A20, H⟩ := H
 replace H : (some t382) = some r := H
 have A2 := Aside0.mk A20
 clear A20
 obtain rfl := Option.some.inj H
 go_enter Tryz.func25, Tryz.ntmps25
 go_wp2_with (first | ((with_reducible refine gate_dst (N := 1) rfl ?_); refine boxM (N := 1) #[.string a0_0, .string a0_1] 30 ?_; intro gb381 hg w3 hbox hb; have BK381 := Aside0.mk (hbox); have GW381 := Aside0.mk ((by rw [hg]; exact (below_size (bl HB)) : w.heap.size ≤ gb381)); have GE381 := Aside0.mk ((by rw [hg]; exact (below_size (bl HB)) : w.heap.size ≤ gb381)); replace HB := Aside0.mk (below_step (bl HB) hb); clear hb hbox hg; have hcz4_0 : w3.cell? ⟨gb381, 0, none⟩ = some (.string a0_0) := (blk_cell BK381.out 0).trans rfl; have hcz4_1 : w3.cell? ⟨gb381, 1, none⟩ = some (.string a0_1) := (blk_cell BK381.out 1).trans rfl; have hfz4_0 := blk_frozen BK381.out 0; have hfz4_1 := blk_frozen BK381.out 1) | ((with_reducible refine gate_callee (f := 54) rfl ?_); refine goesM (some 5) Tryz.func54 #[.string a0_0] ?_; (with_reducible refine (whole_Sign.calls a0_0 t382 _ A2.out).mono ?_); rintro e w' ⟨rfl, ⟨nd, rfl⟩⟩; refine ⟨_, rfl, ?_⟩))
 go_ret
 exact ⟨rl, bl HB⟩
def fraction_Div.f (k : Nat) (a0_0 : ByteArray) (a0_1 : ByteArray) (a1_0 : ByteArray) (a1_1 : ByteArray) : Option (ByteArray × ByteArray × Int) := (fraction_Sign.f a1_0 a1_1).bind fun t386 => (if t386 = 0 then (some ((⟨#[]⟩ : ByteArray), (⟨#[]⟩ : ByteArray), 17)) else ((whole_Mul.f k a0_0 a1_1).bind fun t387 => ((whole_Mul.f k a0_1 a1_0).bind fun t388 => ((fraction_lowest.f k t387 t388).bind fun bt389 => (some (bt389.1, bt389.2, 0))))))
def fraction_Div.T3 : Bool × List (List Nat × List Nat) := (true, [([], []), ([0], [0]), ([], []), ([2], [2]), ([1, 3], [1, 3]), ([], []), ([5], [5]), ([], []), ([7], [7]), ([6, 8, 4], [6, 8]), ([4, 9, 9], [4, 9]), ([10, 10, 0, 1, 2, 3, 4, 5, 6, 7, 8, 9, 10], [10]), ([11, 0, 1, 2, 3, 4, 5, 6, 7, 8, 9, 10, 11], [])])
def fraction_Div.B3 : List Nat := [0, 1, 0, 4, 15, 0, 32, 0, 128, 511, 1023, 2047, 4095]
theorem fraction_Div.tab3 : rtab .any (opsOf Tryz.f139 3) = fraction_Div.T3 := by kernel_rfl
theorem fraction_Div.bits3 : waitsOk fraction_Div.T3.2 fraction_Div.B3 = true := by kernel_rfl
set_option maxHeartbeats 8000000 in
set_option maxRecDepth 100000 in
theorem fraction_Div.calls (k : Nat) (a0_0 : ByteArray) (a0_1 : ByteArray) (a1_0 : ByteArray) (a1_1 : ByteArray) (r1 : ByteArray) (r2 : ByteArray) (r3 : Int) (w : World) (hG : Glob w) (h : fraction_Div.f k a0_0 a0_1 a1_0 a1_1 = some (r1, r2, r3)) :
  Calls Tryz.prog 139 #[.agg #[.string a0_0, .string a0_1], .agg #[.string a1_0, .string a1_1]] w fun e w' => e = .returned (.tuple #[.agg #[.string r1, .string r2], .int .i64 r3]) ∧ Below w.heap.size w w' := by
 have hu30 := Tryz.underlying30
 have HG0 := Aside0.mk hG
 clear hG
 have HB := Aside0.mk (Below.refl w.heap.size w)
 have H : ((fraction_Sign.f a1_0 a1_1).bind fun t386 => (if t386 = 0 then (some ((⟨#[]⟩ : ByteArray), (⟨#[]⟩ : ByteArray), 17)) else ((whole_Mul.f k a0_0 a1_1).bind fun t387 => ((whole_Mul.f k a0_1 a1_0).bind fun t388 => ((fraction_lowest.f k t387 t388).bind fun bt389 => (some (bt389.1, bt389.2, 0))))))) = some (r1, r2, r3) := h
 clear h
 replace H := Option.bind_eq_some_iff.mp H
 obtain ⟨t386, A30, H⟩ := H
 replace H : (if t386 = 0 then (some ((⟨#[]⟩ : ByteArray), (⟨#[]⟩ : ByteArray), 17)) else ((whole_Mul.f k a0_0 a1_1).bind fun t387 => ((whole_Mul.f k a0_1 a1_0).bind fun t388 => ((fraction_lowest.f k t387 t388).bind fun bt389 => (some (bt389.1, bt389.2, 0)))))) = some (r1, r2, r3) := H
 have A3 := Aside0.mk A30
 clear A30
 by_cases c4 : t386 = 0
 ·rw [if_pos c4] at H
  have c4b0 : (t386 == 0) = true := beq_iff_eq.mpr c4
  have c4b1 : (t386 != 0) = false := bne_eq_false_iff_eq.mpr c4
  clear c4
  simp only [Option.some.injEq, Prod.mk.injEq] at H
  obtain ⟨rfl, rfl, rfl⟩ := H
  go_enter Tryz.func139, Tryz.ntmps139
  go_wp2_with (first | ((with_reducible refine gate_dst (N := 2) rfl ?_); refine boxM (N := 2) #[.string a0_0, .string a0_1] 30 ?_; intro gb383 hg w5 hbox hb; have BK383 := Aside0.mk (hbox); have GW383 := Aside0.mk ((by rw [hg]; exact (below_size (bl HB)) : w.heap.size ≤ gb383)); have GE383 := Aside0.mk ((by rw [hg]; exact (below_size (bl HB)) : w.heap.size ≤ gb383)); replace HB := Aside0.mk (below_step (bl HB) hb); clear hb hbox hg) | ((with_reducible refine gate_dst (N := 3) rfl ?_); refine boxM (N := 3) #[.string a1_0, .string a1_1] 30 ?_; intro gb384 hg w6 hbox hb; have BK384 := Aside0.mk (hbox); have GW384 := Aside0.mk ((by rw [hg]; exact (below_size (bl HB)) : w.heap.size ≤ gb384)); have GE384 := Aside0.mk ((by rw [hg]; exact (below_size (bl HB)) : w.heap.size ≤ gb384)); replace HB := Aside0.mk (below_step (bl HB) hb); have NB383_384 := Aside0.mk ((by rw [hg]; exact Nat.ne_of_lt (blk_lt (g := gb383) (o := .cells #[.string a0_0, .string a0_1] 30 (0, 0)) (bk BK383)) : gb383 ≠ gb384)); have NB384_383 := Aside0.mk ((by rw [hg]; exact Nat.ne_of_gt (blk_lt (g := gb383) (o := .cells #[.string a0_0, .string a0_1] 30 (0, 0)) (bk BK383)) : gb384 ≠ gb383)); replace BK383 := Aside0.mk (blk_below (g := gb383) (o := .cells #[.string a0_0, .string a0_1] 30 (0, 0)) (bk BK383) hb); clear hb hbox hg) | ((with_reducible refine gate_dst (N := 4) rfl ?_); refine boxM (N := 4) #[.string (⟨#[]⟩ : ByteArray), .string (⟨#[]⟩ : ByteArray)] 30 ?_; intro gb385 hg w7 hbox hb; have BK385 := Aside0.mk (hbox); have GW385 := Aside0.mk ((by rw [hg]; exact (below_size (bl HB)) : w.heap.size ≤ gb385)); have GE385 := Aside0.mk ((by rw [hg]; exact (below_size (bl HB)) : w.heap.size ≤ gb385)); replace HB := Aside0.mk (below_step (bl HB) hb); have NB383_385 := Aside0.mk ((by rw [hg]; exact Nat.ne_of_lt (blk_lt (g := gb383) (o := .cells #[.string a0_0, .string a0_1] 30 (0, 0)) (bk BK383)) : gb383 ≠ gb385)); have NB385_383 := Aside0.mk ((by rw [hg]; exact Nat.ne_of_gt (blk_lt (g := gb383) (o := .cells #[.string a0_0, .string a0_1] 30 (0, 0)) (bk BK383)) : gb385 ≠ gb383)); replace BK383 := Aside0.mk (blk_below (g := gb383) (o := .cells #[.string a0_0, .string a0_1] 30 (0, 0)) (bk BK383) hb); have NB384_385 := Aside0.mk ((by rw [hg]; exact Nat.ne_of_lt (blk_lt (g := gb384) (o := .cells #[.string a1_0, .string a1_1] 30 (0, 0)) (bk BK384)) : gb384 ≠ gb385)); have NB385_384 := Aside0.mk ((by rw [hg]; exact Nat.ne_of_gt (blk_lt (g := gb384) (o := .cells #[.string a1_0, .string a1_1] 30 (0, 0)) (bk BK384)) : gb385 ≠ gb384)); replace BK384 := Aside0.mk (blk_below (g := gb384) (o := .cells #[.string a1_0, .string a1_1] 30 (0, 0)) (bk BK384) hb); clear hb hbox hg; have hnb8 := NB384_383.out; have hnc8 := NB383_384.out; have hnb9 := NB384_385.out; have hnc9 := NB385_384.out; have hcz10_0 : w7.cell? ⟨gb384, 0, none⟩ = some (.string a1_0) := (blk_cell BK384.out 0).trans rfl; have hcz10_1 : w7.cell? ⟨gb384, 1, none⟩ = some (.string a1_1) := (blk_cell BK384.out 1).trans rfl; have hfz10_0 := blk_frozen BK384.out 0; have hfz10_1 := blk_frozen BK384.out 1) | ((with_reducible refine gate_callee (f := 25) rfl ?_); refine goesM (some 7) Tryz.func25 #[.agg #[.string a1_0, .string a1_1]] ?_; (with_reducible refine (fraction_Sign.calls a1_0 a1_1 t386 _ A3.out).mono ?_); rintro e w11 ⟨rfl, hb⟩; refine ⟨_, rfl, ?_⟩; replace BK383 := Aside0.mk (blk_below (g := gb383) (o := .cells #[.string a0_0, .string a0_1] 30 (0, 0)) (bk BK383) hb); replace BK384 := Aside0.mk (blk_below (g := gb384) (o := .cells #[.string a1_0, .string a1_1] 30 (0, 0)) (bk BK384) hb); replace BK385 := Aside0.mk (blk_below (g := gb385) (o := .cells #[.string (⟨#[]⟩ : ByteArray), .string (⟨#[]⟩ : ByteArray)] 30 (0, 0)) (bk BK385) hb); replace HB := Aside0.mk (below_step (bl HB) hb); (try clear hb); (try clear hb2); (try clear hk); (try clear hi); have hnb12 := NB385_383.out; have hnc12 := NB383_385.out; have hcz13_0 : w11.cell? ⟨gb385, 0, none⟩ = some (.string (⟨#[]⟩ : ByteArray)) := (blk_cell BK385.out 0).trans rfl; have hcz13_1 : w11.cell? ⟨gb385, 1, none⟩ = some (.string (⟨#[]⟩ : ByteArray)) := (blk_cell BK385.out 1).trans rfl; have hfz13_0 := blk_frozen BK385.out 0; have hfz13_1 := blk_frozen BK385.out 1))
  refine bodyPost_ret (results_ct rfl _ _ gb385 30 #[.string (⟨#[]⟩ : ByteArray), .string (⟨#[]⟩ : ByteArray)] (0, 0) _ rfl (by (with_reducible repeat (first | refine blk_drewN ?_ _ | refine blk_drew ?_ | refine blk_alloc ?_ _)); refine blk_put (cs := #[.string (⟨#[]⟩ : ByteArray), .string (⟨#[]⟩ : ByteArray)]) ?_ 1 _ rfl; (with_reducible repeat (first | refine blk_drewN ?_ _ | refine blk_drew ?_ | refine blk_alloc ?_ _)); refine blk_put (cs := #[.string (⟨#[]⟩ : ByteArray), .string (⟨#[]⟩ : ByteArray)]) ?_ 0 _ rfl; (with_reducible repeat (first | refine blk_drewN ?_ _ | refine blk_drew ?_ | refine blk_alloc ?_ _)); exact BK385.out) Tryz.underlying30 rfl (by kernel_rfl)) rfl ?_
  exact ⟨rl, bl HB⟩
 ·rw [if_neg c4] at H
  have c4b0 : (t386 == 0) = false := beq_eq_false_iff_ne.mpr c4
  have c4b1 : (t386 != 0) = true := bne_iff_ne.mpr c4
  replace H := Option.bind_eq_some_iff.mp H
  obtain ⟨t387, A140, H⟩ := H
  replace H : ((whole_Mul.f k a0_1 a1_0).bind fun t388 => ((fraction_lowest.f k t387 t388).bind fun bt389 => (some (bt389.1, bt389.2, 0)))) = some (r1, r2, r3) := H
  have A14 := Aside0.mk A140
  clear A140
  replace H := Option.bind_eq_some_iff.mp H
  obtain ⟨t388, A150, H⟩ := H
  replace H : ((fraction_lowest.f k t387 t388).bind fun bt389 => (some (bt389.1, bt389.2, 0))) = some (r1, r2, r3) := H
  have A15 := Aside0.mk A150
  clear A150
  replace H := Option.bind_eq_some_iff.mp H
  obtain ⟨⟨t389, t390⟩, A160, H⟩ := H
  replace H : (some (t389, t390, 0)) = some (r1, r2, r3) := H
  have A16 := Aside0.mk A160
  clear A160
  simp only [Option.some.injEq, Prod.mk.injEq] at H
  obtain ⟨rfl, rfl, rfl⟩ := H
  go_enter Tryz.func139, Tryz.ntmps139
  try go_wp2_with (first | ((with_reducible refine gate_dst (N := 2) rfl ?_); refine boxM (N := 2) #[.string a0_0, .string a0_1] 30 ?_; intro gb383 hg w17 hbox hb; have BK383 := Aside0.mk (hbox); have GW383 := Aside0.mk ((by rw [hg]; exact (below_size (bl HB)) : w.heap.size ≤ gb383)); have GE383 := Aside0.mk ((by rw [hg]; exact (below_size (bl HB)) : w.heap.size ≤ gb383)); replace HB := Aside0.mk (below_step (bl HB) hb); clear hb hbox hg) | ((with_reducible refine gate_dst (N := 3) rfl ?_); refine boxM (N := 3) #[.string a1_0, .string a1_1] 30 ?_; intro gb384 hg w18 hbox hb; have BK384 := Aside0.mk (hbox); have GW384 := Aside0.mk ((by rw [hg]; exact (below_size (bl HB)) : w.heap.size ≤ gb384)); have GE384 := Aside0.mk ((by rw [hg]; exact (below_size (bl HB)) : w.heap.size ≤ gb384)); replace HB := Aside0.mk (below_step (bl HB) hb); have NB383_384 := Aside0.mk ((by rw [hg]; exact Nat.ne_of_lt (blk_lt (g := gb383) (o := .cells #[.string a0_0, .string a0_1] 30 (0, 0)) (bk BK383)) : gb383 ≠ gb384)); have NB384_383 := Aside0.mk ((by rw [hg]; exact Nat.ne_of_gt (blk_lt (g := gb383) (o := .cells #[.string a0_0, .string a0_1] 30 (0, 0)) (bk BK383)) : gb384 ≠ gb383)); replace BK383 := Aside0.mk (blk_below (g := gb383) (o := .cells #[.string a0_0, .string a0_1] 30 (0, 0)) (bk BK383) hb); clear hb hbox hg) | ((with_reducible refine gate_dst (N := 4) rfl ?_); refine boxM (N := 4) #[.string (⟨#[]⟩ : ByteArray), .string (⟨#[]⟩ : ByteArray)] 30 ?_; intro gb385 hg w19 hbox hb; have BK385 := Aside0.mk (hbox); have GW385 := Aside0.mk ((by rw [hg]; exact (below_size (bl HB)) : w.heap.size ≤ gb385)); have GE385 := Aside0.mk ((by rw [hg]; exact (below_size (bl HB)) : w.heap.size ≤ gb385)); replace HB := Aside0.mk (below_step (bl HB) hb); have NB383_385 := Aside0.mk ((by rw [hg]; exact Nat.ne_of_lt (blk_lt (g := gb383) (o := .cells #[.string a0_0, .string a0_1] 30 (0, 0)) (bk BK383)) : gb383 ≠ gb385)); have NB385_383 := Aside0.mk ((by rw [hg]; exact Nat.ne_of_gt (blk_lt (g := gb383) (o := .cells #[.string a0_0, .string a0_1] 30 (0, 0)) (bk BK383)) : gb385 ≠ gb383)); replace BK383 := Aside0.mk (blk_below (g := gb383) (o := .cells #[.string a0_0, .string a0_1] 30 (0, 0)) (bk BK383) hb); have NB384_385 := Aside0.mk ((by rw [hg]; exact Nat.ne_of_lt (blk_lt (g := gb384) (o := .cells #[.string a1_0, .string a1_1] 30 (0, 0)) (bk BK384)) : gb384 ≠ gb385)); have NB385_384 := Aside0.mk ((by rw [hg]; exact Nat.ne_of_gt (blk_lt (g := gb384) (o := .cells #[.string a1_0, .string a1_1] 30 (0, 0)) (bk BK384)) : gb385 ≠ gb384)); replace BK384 := Aside0.mk (blk_below (g := gb384) (o := .cells #[.string a1_0, .string a1_1] 30 (0, 0)) (bk BK384) hb); clear hb hbox hg; have hnb20 := NB384_383.out; have hnc20 := NB383_384.out; have hnb21 := NB384_385.out; have hnc21 := NB385_384.out; have hcz22_0 : w19.cell? ⟨gb384, 0, none⟩ = some (.string a1_0) := (blk_cell BK384.out 0).trans rfl; have hcz22_1 : w19.cell? ⟨gb384, 1, none⟩ = some (.string a1_1) := (blk_cell BK384.out 1).trans rfl; have hfz22_0 := blk_frozen BK384.out 0; have hfz22_1 := blk_frozen BK384.out 1) | ((with_reducible refine gate_callee (f := 25) rfl ?_); refine goesM (some 7) Tryz.func25 #[.agg #[.string a1_0, .string a1_1]] ?_; (with_reducible refine (fraction_Sign.calls a1_0 a1_1 t386 _ A3.out).mono ?_); rintro e w23 ⟨rfl, hb⟩; refine ⟨_, rfl, ?_⟩; replace BK383 := Aside0.mk (blk_below (g := gb383) (o := .cells #[.string a0_0, .string a0_1] 30 (0, 0)) (bk BK383) hb); replace BK384 := Aside0.mk (blk_below (g := gb384) (o := .cells #[.string a1_0, .string a1_1] 30 (0, 0)) (bk BK384) hb); replace BK385 := Aside0.mk (blk_below (g := gb385) (o := .cells #[.string (⟨#[]⟩ : ByteArray), .string (⟨#[]⟩ : ByteArray)] 30 (0, 0)) (bk BK385) hb); replace HB := Aside0.mk (below_step (bl HB) hb); (try clear hb); (try clear hb2); (try clear hk); (try clear hi)))
  replace BK383 := Aside0.mk (blk_drew BK383.out)
  replace BK384 := Aside0.mk (blk_drew BK384.out)
  replace BK385 := Aside0.mk (blk_drew BK385.out)
  replace HB := Aside0.mk (below_drew1 HB.out)
  refine start_ (n := 13) (S := fun w' => w'.cell? ⟨gb383, 0, none⟩ = some (.string a0_0) ∧ w'.cell? ⟨gb383, 1, none⟩ = some (.string a0_1) ∧ w'.cell? ⟨gb384, 0, none⟩ = some (.string a1_0) ∧ w'.cell? ⟨gb384, 1, none⟩ = some (.string a1_1)) (ds := []) #[false, false, false, false, false, false, false, false, false, false, false, false, false] (by kernel_rfl) rfl rfl ⟨(blk_cell BK383.out 0).trans rfl, (blk_cell BK383.out 1).trans rfl, (blk_cell BK384.out 0).trans rfl, (blk_cell BK384.out 1).trans rfl⟩ (fun hHeld => ?_); refine with_tabW fraction_Div.tab3 fraction_Div.bits3 (fun HT_ HW_ => ?_)
  generalize w23.drew = w24 at BK383 BK384 BK385 HB hHeld ⊢
  refine purM (i := 0) (N := some 10) #[true, false, false, false, false, false, false, false, false, false, false, false, false] ?_
  refine purM (i := 2) (N := some 12) #[true, false, true, false, false, false, false, false, false, false, false, false, false] ?_
  refine purM (i := 5) (N := some 15) #[true, false, true, false, false, true, false, false, false, false, false, false, false] ?_
  refine purM (i := 7) (N := some 17) #[true, false, true, false, false, true, false, true, false, false, false, false, false] ?_
  refine take_ (i := 1) (N := some 11) (v := ?_) (a' := ?_) #[true, true, true, false, false, true, false, true, false, false, false, false, false] rfl rfl (take_ofW HT_.out HW_.out (by kernel_rfl)) (fun _ _ _ h => h) (Or.inl ⟨by rfl, ?_⟩) hHeld ?_ ?_
  rotate_left
  ·rintro w' ⟨s0, s1, s2, s3⟩
   go_simp
   with_reducible rfl
  rotate_left
  ·simp only [Act.put, List.setIfInBounds_toArray, List.set_cons_zero, List.set_cons_succ, i64_w, i32_w]
   rfl
  refine take_ (i := 3) (N := some 13) (v := ?_) (a' := ?_) #[true, true, true, true, false, true, false, true, false, false, false, false, false] rfl rfl (take_ofW HT_.out HW_.out (by kernel_rfl)) (fun _ _ _ h => h) (Or.inl ⟨by rfl, ?_⟩) hHeld ?_ ?_
  rotate_left
  ·rintro w' ⟨s0, s1, s2, s3⟩
   go_simp
   with_reducible rfl
  rotate_left
  ·simp only [Act.put, List.setIfInBounds_toArray, List.set_cons_zero, List.set_cons_succ, i64_w, i32_w]
   rfl
  refine take_ (i := 6) (N := some 16) (v := ?_) (a' := ?_) #[true, true, true, true, false, true, true, true, false, false, false, false, false] rfl rfl (take_ofW HT_.out HW_.out (by kernel_rfl)) (fun _ _ _ h => h) (Or.inl ⟨by rfl, ?_⟩) hHeld ?_ ?_
  rotate_left
  ·rintro w' ⟨s0, s1, s2, s3⟩
   go_simp
   with_reducible rfl
  rotate_left
  ·simp only [Act.put, List.setIfInBounds_toArray, List.set_cons_zero, List.set_cons_succ, i64_w, i32_w]
   rfl
  refine take_ (i := 8) (N := some 18) (v := ?_) (a' := ?_) #[true, true, true, true, false, true, true, true, true, false, false, false, false] rfl rfl (take_ofW HT_.out HW_.out (by kernel_rfl)) (fun _ _ _ h => h) (Or.inl ⟨by rfl, ?_⟩) hHeld ?_ ?_
  rotate_left
  ·rintro w' ⟨s0, s1, s2, s3⟩
   go_simp
   with_reducible rfl
  rotate_left
  ·simp only [Act.put, List.setIfInBounds_toArray, List.set_cons_zero, List.set_cons_succ, i64_w, i32_w]
   rfl
  refine one_ (i := 4) (N := some 14) #[true, true, true, true, true, true, true, true, true, false, false, false, false] rfl rfl (one_of HT_.out (by kernel_rfl)) (by decide) (fun K hK => ?_)
  refine goesR Tryz.func82 #[.string a0_0, .string a1_1] ?_
  with_reducible refine (whole_Mul.calls k a0_0 a1_1 t387 _ ?side1 A14.out).mono ?_
  (case side1 => exact Glob.below HG0.out (bl HB))
  rintro e w25 ⟨rfl, hb⟩
  refine ⟨_, rfl, ?_⟩
  replace BK383 := Aside0.mk (blk_below (g := gb383) (o := .cells #[.string a0_0, .string a0_1] 30 (0, 0)) (bk BK383) hb)
  replace BK384 := Aside0.mk (blk_below (g := gb384) (o := .cells #[.string a1_0, .string a1_1] 30 (0, 0)) (bk BK384) hb)
  replace BK385 := Aside0.mk (blk_below (g := gb385) (o := .cells #[.string (⟨#[]⟩ : ByteArray), .string (⟨#[]⟩ : ByteArray)] 30 (0, 0)) (bk BK385) hb)
  replace HB := Aside0.mk (below_step (bl HB) hb)
  (try clear hb)
  (try clear hb2)
  (try clear hk)
  (try clear hi)
  refine hK.out _ _ ⟨(blk_cell BK383.out 0).trans rfl, (blk_cell BK383.out 1).trans rfl, (blk_cell BK384.out 0).trans rfl, (blk_cell BK384.out 1).trans rfl⟩ (fun hHeld => ?_)
  clear hK K
  refine norm_ (a' := ?_) ?_ ?_
  rotate_left
  ·show Act.put _ (some 14) _ = _
   simp only [Act.put, List.setIfInBounds_toArray, List.set_cons_zero, List.set_cons_succ, i64_w, i32_w]
   rfl
  refine one_ (i := 9) (N := some 19) #[true, true, true, true, true, true, true, true, true, true, false, false, false] rfl rfl (one_of HT_.out (by kernel_rfl)) (by decide) (fun K hK => ?_)
  refine goesR Tryz.func82 #[.string a0_1, .string a1_0] ?_
  with_reducible refine (whole_Mul.calls k a0_1 a1_0 t388 _ ?side1 A15.out).mono ?_
  (case side1 => exact Glob.below HG0.out (bl HB))
  rintro e w26 ⟨rfl, hb⟩
  refine ⟨_, rfl, ?_⟩
  replace BK383 := Aside0.mk (blk_below (g := gb383) (o := .cells #[.string a0_0, .string a0_1] 30 (0, 0)) (bk BK383) hb)
  replace BK384 := Aside0.mk (blk_below (g := gb384) (o := .cells #[.string a1_0, .string a1_1] 30 (0, 0)) (bk BK384) hb)
  replace BK385 := Aside0.mk (blk_below (g := gb385) (o := .cells #[.string (⟨#[]⟩ : ByteArray), .string (⟨#[]⟩ : ByteArray)] 30 (0, 0)) (bk BK385) hb)
  replace HB := Aside0.mk (below_step (bl HB) hb)
  (try clear hb)
  (try clear hb2)
  (try clear hk)
  (try clear hi)
  refine hK.out _ _ ⟨(blk_cell BK383.out 0).trans rfl, (blk_cell BK383.out 1).trans rfl, (blk_cell BK384.out 0).trans rfl, (blk_cell BK384.out 1).trans rfl⟩ (fun hHeld => ?_)
  clear hK K
  refine norm_ (a' := ?_) ?_ ?_
  rotate_left
  ·show Act.put _ (some 19) _ = _
   simp only [Act.put, List.setIfInBounds_toArray, List.set_cons_zero, List.set_cons_succ, i64_w, i32_w]
   rfl
  refine one_ (i := 10) (N := some 20) #[true, true, true, true, true, true, true, true, true, true, true, false, false] rfl rfl (one_of HT_.out (by kernel_rfl)) (by decide) (fun K hK => ?_)
  refine goesR Tryz.func81 #[.string t387, .string t388] ?_
  with_reducible refine (fraction_lowest.calls k t387 t388 t389 t390 _ ?side1 A16.out).mono ?_
  (case side1 => exact Glob.below HG0.out (bl HB))
  rintro e w27 ⟨rfl, hb⟩
  refine ⟨_, rfl, ?_⟩
  replace BK383 := Aside0.mk (blk_below (g := gb383) (o := .cells #[.string a0_0, .string a0_1] 30 (0, 0)) (bk BK383) hb)
  replace BK384 := Aside0.mk (blk_below (g := gb384) (o := .cells #[.string a1_0, .string a1_1] 30 (0, 0)) (bk BK384) hb)
  replace BK385 := Aside0.mk (blk_below (g := gb385) (o := .cells #[.string (⟨#[]⟩ : ByteArray), .string (⟨#[]⟩ : ByteArray)] 30 (0, 0)) (bk BK385) hb)
  replace HB := Aside0.mk (below_step (bl HB) hb)
  (try clear hb)
  (try clear hb2)
  (try clear hk)
  (try clear hi)
  refine hK.out _ _ ⟨(blk_cell BK383.out 0).trans rfl, (blk_cell BK383.out 1).trans rfl, (blk_cell BK384.out 0).trans rfl, (blk_cell BK384.out 1).trans rfl⟩ (fun hHeld => ?_)
  clear hK K
  refine norm_ (a' := ?_) ?_ ?_
  rotate_left
  ·show Act.put _ (some 20) _ = _
   simp only [Act.put, List.setIfInBounds_toArray, List.set_cons_zero, List.set_cons_succ, i64_w, i32_w]
   rfl
  refine one_ (i := 11) (N := none) #[true, true, true, true, true, true, true, true, true, true, true, true, false] rfl rfl (one_of HT_.out (by kernel_rfl)) (by decide) (fun K hK => ?_)
  have hs28 : w27.cell? ⟨gb385, 0, none⟩ = some (.string (⟨#[]⟩ : ByteArray)) := (blk_cell BK385.out 0).trans rfl
  have hfs28 := blk_frozen BK385.out 0
  have hns28_0 := NB383_385.out
  have hns28_1 := NB384_385.out
  have hms28_0 := NB385_383.out
  have hms28_1 := NB385_384.out
  have hs29 : w27.cell? ⟨gb385, 1, none⟩ = some (.string (⟨#[]⟩ : ByteArray)) := (blk_cell BK385.out 1).trans rfl
  have hfs29 := blk_frozen BK385.out 1
  have hns29_0 := NB383_385.out
  have hns29_1 := NB384_385.out
  have hms29_0 := NB385_383.out
  have hms29_1 := NB385_384.out
  refine skip_ (w1 := ?_) (by rfl) rfl ?_ ?_
  rotate_left
  ·go_simp
   rfl
  refine hK.out _ _ ⟨((cell_far (p := ⟨gb385, _, none⟩) NB383_385.out _).trans (((cell_far (p := ⟨gb385, _, none⟩) NB383_385.out _).trans (hHeld.1)))), ((cell_far (p := ⟨gb385, _, none⟩) NB383_385.out _).trans (((cell_far (p := ⟨gb385, _, none⟩) NB383_385.out _).trans (hHeld.2.1)))), ((cell_far (p := ⟨gb385, _, none⟩) NB384_385.out _).trans (((cell_far (p := ⟨gb385, _, none⟩) NB384_385.out _).trans (hHeld.2.2.1)))), ((cell_far (p := ⟨gb385, _, none⟩) NB384_385.out _).trans (((cell_far (p := ⟨gb385, _, none⟩) NB384_385.out _).trans (hHeld.2.2.2))))⟩ (fun hHeld => ?_)
  clear hK K
  refine purM (i := 12) (N := some 5) #[true, true, true, true, true, true, true, true, true, true, true, true, true] ?_
  refine done_ (done_of HT_.out (by kernel_rfl)) ?_
  try go_wp2
  refine bodyPost_ret (results_ct rfl _ _ gb385 30 #[.string t389, .string t390] (0, 0) _ rfl (by (with_reducible repeat (first | refine blk_drewN ?_ _ | refine blk_drew ?_ | refine blk_alloc ?_ _)); refine blk_put (cs := #[.string t389, .string (⟨#[]⟩ : ByteArray)]) ?_ 1 _ rfl; (with_reducible repeat (first | refine blk_drewN ?_ _ | refine blk_drew ?_ | refine blk_alloc ?_ _)); refine blk_put (cs := #[.string (⟨#[]⟩ : ByteArray), .string (⟨#[]⟩ : ByteArray)]) ?_ 0 _ rfl; (with_reducible repeat (first | refine blk_drewN ?_ _ | refine blk_drew ?_ | refine blk_alloc ?_ _)); exact BK385.out) Tryz.underlying30 rfl (by kernel_rfl)) rfl ?_
  exact ⟨rl, bl HB⟩
end Go.Proofs.YtailoobjgbldgaaGreatDoor.P
end
section
namespace Go.Proofs.YtailoobjgbldgaaGreatDoor.P
open Go.RowKit Go.Proofs.YtailoobjgbldgaaGreatDoorW.PrintWords Go.Proofs.YtailoobjgbldgaaGreatDoorW.PrintLast Go.Proofs.YtailoobjgbldgaaGreatDoorW.PrintMore
attribute [local go_sem] max2_int min2_int max_two min_two max_three min_three max_four min_four   
set_option linter.unusedVariables false
set_option linter.unusedSimpArgs false
attribute [local go_sem high] eqA30
mutual
def size_ratio.l0 : Nat → List (S30) → List (S30) → List (S30) → Int → Int → ByteArray → ByteArray → Option (ByteArray × ByteArray × Bool)
 | 0, _, _, _, _, _, _, _ => none
 | k + 1, x0, x1, x12, x13, x14, x395000, x395001 => if x14 < x13 then (if 0 ≤ x14 then (if x14 < (x12.length : Int) then (if ((rd_T30 x12 x14).f0).toList = ([48] : List UInt8) then (size_ratio.l0 k x0 x1 x12 x13 (wrap64 (x14 + 1)) x395000 x395001) else (if x14 < (x0.length : Int) then ((fraction_Div.f k ((rd_T30 x0 x14).f0) ((rd_T30 x0 x14).f1) ((rd_T30 x12 x14).f0) ((rd_T30 x12 x14).f1)).bind fun bt398 => (size_ratio.l0 k x0 x1 x12 x13 (wrap64 (x14 + 1)) bt398.1 bt398.2.1)) else (none))) else (none)) else (none)) else (size_ratio.l1 k x0 x1 (x1.length : Int) 0 x395000 x395001)
def size_ratio.l1 : Nat → List (S30) → List (S30) → Int → Int → ByteArray → ByteArray → Option (ByteArray × ByteArray × Bool)
 | 0, _, _, _, _, _, _ => none
 | k + 1, x0, x32, x33, x34, x395000, x395001 => if x34 < x33 then (if 0 ≤ x34 then (if x34 < (x32.length : Int) then ((fraction_Mul.f k x395000 x395001 ((rd_T30 x32 x34).f0) ((rd_T30 x32 x34).f1)).bind fun bt403 => (if x34 < (x0.length : Int) then (if (!(bt403.1.toList == (((rd_T30 x0 x34).f0).toList)) || (!(bt403.2.toList == (((rd_T30 x0 x34).f1).toList)))) = true then (some (x395000, x395001, false)) else (size_ratio.l1 k x0 x32 x33 (wrap64 (x34 + 1)) x395000 x395001)) else (none))) else (none)) else (none)) else (some (x395000, x395001, true))
end
def size_ratio.f (k : Nat) (l0 : List (S30)) (l1 : List (S30)) : Option (ByteArray × ByteArray × Bool) := (size_number.f 0).bind fun bt392 => (size_ratio.l0 k l0 l1 l1 (l1.length : Int) 0 bt392.1 bt392.2)
def size_ratio.T6 : Bool × List (List Nat × List Nat) := (true, [([], []), ([], []), ([0, 1], [0, 1]), ([2], [2]), ([], []), ([3, 4], [3, 4]), ([5], [5]), ([6], [6]), ([6], [6]), ([7, 5, 0, 1, 2, 3, 4, 5, 6, 7], [7])])
def size_ratio.B6 : List Nat := [0, 0, 3, 7, 0, 31, 63, 127, 127, 255]
theorem size_ratio.tab6 : rtab .any (opsOf Tryz.f114 6) = size_ratio.T6 := by kernel_rfl
theorem size_ratio.bits6 : waitsOk size_ratio.T6.2 size_ratio.B6 = true := by kernel_rfl
def size_ratio.T11 : Bool × List (List Nat × List Nat) := (true, [([], []), ([], []), ([0, 1], [0, 1]), ([], []), ([], []), ([3, 4], [3, 4]), ([5], [5]), ([2, 6], [2, 6])])
def size_ratio.B11 : List Nat := [0, 0, 3, 0, 0, 24, 56, 127]
theorem size_ratio.tab11 : rtab .any (opsOf Tryz.f114 11) = size_ratio.T11 := by kernel_rfl
theorem size_ratio.bits11 : waitsOk size_ratio.T11.2 size_ratio.B11 = true := by kernel_rfl
set_option maxHeartbeats 8000000 in
set_option maxRecDepth 100000 in
theorem size_ratio.calls (k : Nat) (A0 : Option Addr) (c0 : Nat) (l0 : List (S30)) (A1 : Option Addr) (c1 : Nat) (l1 : List (S30)) (r1 : ByteArray) (r2 : ByteArray) (r3 : Bool) (w : World) (hG : Glob w) (hr0 : Kd.C k30 w A0 l0.length l0) (hc0 : l0.length ≤ c0) (hr1 : Kd.C k30 w A1 l1.length l1) (hc1 : l1.length ≤ c1) (h : size_ratio.f k l0 l1 = some (r1, r2, r3)) :
  Calls Tryz.prog 114 #[.slice A0 l0.length c0, .slice A1 l1.length c1] w fun e w' => e = .returned (.tuple #[.agg #[.string r1, .string r2], .bool r3]) ∧ Below w.heap.size w w' := by
 have hu30 := Tryz.underlying30
 have HR0 := Aside0.mk hr0
 have HC0 := Aside0.mk hc0
 clear hr0 hc0
 have HR1 := Aside0.mk hr1
 have HC1 := Aside0.mk hc1
 clear hr1 hc1
 have HG0 := Aside0.mk hG
 clear hG
 have HB := Aside0.mk (Below.refl w.heap.size w)
 have H : ((size_number.f 0).bind fun bt392 => (size_ratio.l0 k l0 l1 l1 (l1.length : Int) 0 bt392.1 bt392.2)) = some (r1, r2, r3) := h
 clear h
 replace H := Option.bind_eq_some_iff.mp H
 obtain ⟨⟨t392, t393⟩, A30, H⟩ := H
 replace H : (size_ratio.l0 k l0 l1 l1 (l1.length : Int) 0 t392 t393) = some (r1, r2, r3) := H
 have A3 := Aside0.mk A30
 clear A30
 have H' := Aside0.mk H
 clear H
 go_enter Tryz.func114, Tryz.ntmps114
 go_wp2_with (first | ((with_reducible refine gate_dst (N := 4) rfl ?_); refine boxM (N := 4) #[.string (⟨#[]⟩ : ByteArray), .string (⟨#[]⟩ : ByteArray)] 30 ?_; intro gb391 hg w4 hbox hb; have BK391 := Aside0.mk (hbox); have GW391 := Aside0.mk ((by rw [hg]; exact (below_size (bl HB)) : w.heap.size ≤ gb391)); have GE391 := Aside0.mk ((by rw [hg]; exact (below_size (bl HB)) : w.heap.size ≤ gb391)); replace HB := Aside0.mk (below_step (bl HB) hb); clear hb hbox hg) | ((with_reducible refine gate_callee (f := 65) rfl ?_); refine goesM (some 11) Tryz.func65 #[.int .i64 0] ?_; (with_reducible refine (size_number.calls 0 t392 t393 _ ?side1 A3.out).mono ?_); (case side1 => exact Glob.below HG0.out (bl HB)); rintro e w5 ⟨rfl, hb⟩; refine ⟨_, rfl, ?_⟩; replace BK391 := Aside0.mk (blk_below (g := gb391) (o := .cells #[.string (⟨#[]⟩ : ByteArray), .string (⟨#[]⟩ : ByteArray)] 30 (0, 0)) (bk BK391) hb); replace HB := Aside0.mk (below_step (bl HB) hb); (try clear hb); (try clear hb2); (try clear hk); (try clear hi)) | ((with_reducible refine gate_dst (N := 6) rfl ?_); refine boxM (N := 6) #[.string (⟨#[]⟩ : ByteArray), .string (⟨#[]⟩ : ByteArray)] 30 ?_; intro gb394 hg w6 hbox hb; have BK394 := Aside0.mk (hbox); have GW394 := Aside0.mk ((by rw [hg]; exact (below_size (bl HB)) : w.heap.size ≤ gb394)); have GE394 := Aside0.mk ((by rw [hg]; exact (below_size (bl HB)) : w.heap.size ≤ gb394)); replace HB := Aside0.mk (below_step (bl HB) hb); have NB391_394 := Aside0.mk ((by rw [hg]; exact Nat.ne_of_lt (blk_lt (g := gb391) (o := .cells #[.string (⟨#[]⟩ : ByteArray), .string (⟨#[]⟩ : ByteArray)] 30 (0, 0)) (bk BK391)) : gb391 ≠ gb394)); have NB394_391 := Aside0.mk ((by rw [hg]; exact Nat.ne_of_gt (blk_lt (g := gb391) (o := .cells #[.string (⟨#[]⟩ : ByteArray), .string (⟨#[]⟩ : ByteArray)] 30 (0, 0)) (bk BK391)) : gb394 ≠ gb391)); replace BK391 := Aside0.mk (blk_below (g := gb391) (o := .cells #[.string (⟨#[]⟩ : ByteArray), .string (⟨#[]⟩ : ByteArray)] 30 (0, 0)) (bk BK391) hb); clear hb hbox hg; have hnb7 := NB394_391.out; have hnc7 := NB391_394.out; have hcz8_0 : w6.cell? ⟨gb394, 0, none⟩ = some (.string (⟨#[]⟩ : ByteArray)) := (blk_cell BK394.out 0).trans rfl; have hcz8_1 : w6.cell? ⟨gb394, 1, none⟩ = some (.string (⟨#[]⟩ : ByteArray)) := (blk_cell BK394.out 1).trans rfl; have hfz8_0 := blk_frozen BK394.out 0; have hfz8_1 := blk_frozen BK394.out 1))
 go_loopg [14] k (fun kq v14 w' => ∃ (x14_1 : Int) (x395000_1 : ByteArray) (x395001_1 : ByteArray), v14 = .int .i64 x14_1 ∧ Aside0 (size_ratio.l0 kq l0 l1 l1 (l1.length : Int) x14_1 x395000_1 x395001_1 = some (r1, r2, r3)) ∧ Aside0 (kq ≤ k) ∧ Aside0 (w'.heap[gb391]? = some (.cells #[.string (⟨#[]⟩ : ByteArray), .string (⟨#[]⟩ : ByteArray)] 30 (0, 0))) ∧ Aside0 (w'.heap[gb394]? = some (.cells #[.string x395000_1, .string x395001_1] 30 (0, 0))) ∧ Aside0 (Below w.heap.size w w'))
 case atStart => exact ⟨(0), (t392), (t393), rs, H', ⟨Nat.le_refl _⟩, ⟨by (with_reducible repeat (first | refine blk_drewN ?_ _ | refine blk_drew ?_ | refine blk_alloc ?_ _)); refine blk_far ?_ NB391_394.out _; (with_reducible repeat (first | refine blk_drewN ?_ _ | refine blk_drew ?_ | refine blk_alloc ?_ _)); refine blk_far ?_ NB391_394.out _; (with_reducible repeat (first | refine blk_drewN ?_ _ | refine blk_drew ?_ | refine blk_alloc ?_ _)); exact BK391.out⟩, ⟨by (with_reducible repeat (first | refine blk_drewN ?_ _ | refine blk_drew ?_ | refine blk_alloc ?_ _)); refine blk_put (cs := #[.string t392, .string (⟨#[]⟩ : ByteArray)]) ?_ 1 _ rfl; (with_reducible repeat (first | refine blk_drewN ?_ _ | refine blk_drew ?_ | refine blk_alloc ?_ _)); refine blk_put (cs := #[.string (⟨#[]⟩ : ByteArray), .string (⟨#[]⟩ : ByteArray)]) ?_ 0 _ rfl; (with_reducible repeat (first | refine blk_drewN ?_ _ | refine blk_drew ?_ | refine blk_alloc ?_ _)); exact BK394.out⟩, ⟨bl HB⟩⟩
 case round =>
  clear H'
  try clear c1
  try clear p2
  try clear c6
  try clear c7
  try clear hcz8_0
  try clear hcz8_1
  try clear hfz8_0
  try clear hfz8_1
  obtain ⟨x14_1, x395000_1, x395001_1, rfl, HA, HK1, BK391, BK394, HB⟩ := hrel
  cases gk with
  | zero => exact absurd HA.out (by simp [size_ratio.l0])
  | succ k1 =>
   have H := HA.out
   clear HA
   simp only [size_ratio.l0] at H
   by_cases c9 : x14_1 < (l1.length : Int)
   ·rw [if_pos c9] at H
    have c9b0 : decide (x14_1 < (l1.length : Int)) = true := decide_eq_true c9
    clear c9
    by_cases c10 : 0 ≤ x14_1
    ·rw [if_pos c10] at H
     have c10b0 : decide (0 ≤ x14_1) = true := decide_eq_true c10
     clear c10
     by_cases c11 : x14_1 < (l1.length : Int)
     ·rw [if_pos c11] at H
      have c11b0 : decide (x14_1 < (l1.length : Int)) = true := decide_eq_true c11
      clear c11
      by_cases c12 : ((rd_T30 l1 x14_1).f0).toList = ([48] : List UInt8)
      ·rw [if_pos c12] at H
       have c12b0 : (((rd_T30 l1 x14_1).f0).toList == ([48] : List UInt8)) = true := beq_iff_eq.mpr c12
       have c12b1 : (((rd_T30 l1 x14_1).f0).toList != ([48] : List UInt8)) = false := bne_eq_false_iff_eq.mpr c12
       clear c12
       have H' := Aside0.mk H
       clear H
       have p395 : 0 ≤ (x14_1 : Int) := of_decide_eq_true (by first | (with_reducible assumption) | assumption)
       have q395 : x14_1 < (l1.length : Int) := of_decide_eq_true (by first | (with_reducible assumption) | assumption)
       obtain ⟨ad395, e395, hx395_0, hx395_1⟩ := at_T30 HR1.out x14_1 p395 q395
       cases e395
       replace hx395_0 := (HB.out.cell (World.block_lt_of_cell? w _ hx395_0)).trans hx395_0
       replace hx395_1 := (HB.out.cell (World.block_lt_of_cell? w _ hx395_1)).trans hx395_1
       replace p395 := eq_true p395
       replace q395 := eq_true q395
       go_wp2_with (first | ((with_reducible refine gate_dst (N := 8) rfl ?_); refine boxM (N := 8) #[.string (⟨#[]⟩ : ByteArray), .string (⟨#[]⟩ : ByteArray)] 30 ?_; intro gb396 hg w13 hbox hb; have BK396 := Aside0.mk (hbox); have GW396 := Aside0.mk ((by rw [hg]; exact (below_size (bl HB)) : w.heap.size ≤ gb396)); have GE396 := Aside0.mk ((by rw [hg]; exact (below_size (bl HB)) : w.heap.size ≤ gb396)); replace HB := Aside0.mk (below_step (bl HB) hb); have NB391_396 := Aside0.mk ((by rw [hg]; exact Nat.ne_of_lt (blk_lt (g := gb391) (o := .cells #[.string (⟨#[]⟩ : ByteArray), .string (⟨#[]⟩ : ByteArray)] 30 (0, 0)) (bk BK391)) : gb391 ≠ gb396)); have NB396_391 := Aside0.mk ((by rw [hg]; exact Nat.ne_of_gt (blk_lt (g := gb391) (o := .cells #[.string (⟨#[]⟩ : ByteArray), .string (⟨#[]⟩ : ByteArray)] 30 (0, 0)) (bk BK391)) : gb396 ≠ gb391)); replace BK391 := Aside0.mk (blk_below (g := gb391) (o := .cells #[.string (⟨#[]⟩ : ByteArray), .string (⟨#[]⟩ : ByteArray)] 30 (0, 0)) (bk BK391) hb); have NB394_396 := Aside0.mk ((by rw [hg]; exact Nat.ne_of_lt (blk_lt (g := gb394) (o := .cells #[.string x395000_1, .string x395001_1] 30 (0, 0)) (bk BK394)) : gb394 ≠ gb396)); have NB396_394 := Aside0.mk ((by rw [hg]; exact Nat.ne_of_gt (blk_lt (g := gb394) (o := .cells #[.string x395000_1, .string x395001_1] 30 (0, 0)) (bk BK394)) : gb396 ≠ gb394)); replace BK394 := Aside0.mk (blk_below (g := gb394) (o := .cells #[.string x395000_1, .string x395001_1] 30 (0, 0)) (bk BK394) hb); clear hb hbox hg; have hnb14 := NB396_391.out; have hnc14 := NB391_396.out; have hnb15 := NB396_394.out; have hnc15 := NB394_396.out; have hcz16_0 : w13.cell? ⟨gb396, 0, none⟩ = some (.string (⟨#[]⟩ : ByteArray)) := (blk_cell BK396.out 0).trans rfl; have hcz16_1 : w13.cell? ⟨gb396, 1, none⟩ = some (.string (⟨#[]⟩ : ByteArray)) := (blk_cell BK396.out 1).trans rfl; have hfz16_0 := blk_frozen BK396.out 0; have hfz16_1 := blk_frozen BK396.out 1))
       go_roundg k1
       case measure => have := HK1.out; omega
       case rel => exact ⟨(wrap64 (x14_1 + 1)), (x395000_1), (x395001_1), rs, H', ⟨by have := HK1.out; omega⟩, ⟨by (with_reducible repeat (first | refine blk_drewN ?_ _ | refine blk_drew ?_ | refine blk_alloc ?_ _)); refine blk_far ?_ NB391_396.out _; (with_reducible repeat (first | refine blk_drewN ?_ _ | refine blk_drew ?_ | refine blk_alloc ?_ _)); refine blk_far ?_ NB391_396.out _; (with_reducible repeat (first | refine blk_drewN ?_ _ | refine blk_drew ?_ | refine blk_alloc ?_ _)); exact BK391.out⟩, ⟨by (with_reducible repeat (first | refine blk_drewN ?_ _ | refine blk_drew ?_ | refine blk_alloc ?_ _)); refine blk_far ?_ NB394_396.out _; (with_reducible repeat (first | refine blk_drewN ?_ _ | refine blk_drew ?_ | refine blk_alloc ?_ _)); refine blk_far ?_ NB394_396.out _; (with_reducible repeat (first | refine blk_drewN ?_ _ | refine blk_drew ?_ | refine blk_alloc ?_ _)); exact BK394.out⟩, ⟨bl HB⟩⟩
      ·rw [if_neg c12] at H
       have c12b0 : (((rd_T30 l1 x14_1).f0).toList == ([48] : List UInt8)) = false := beq_eq_false_iff_ne.mpr c12
       have c12b1 : (((rd_T30 l1 x14_1).f0).toList != ([48] : List UInt8)) = true := bne_iff_ne.mpr c12
       by_cases c17 : x14_1 < (l0.length : Int)
       ·rw [if_pos c17] at H
        have c17b0 : decide (x14_1 < (l0.length : Int)) = true := decide_eq_true c17
        clear c17
        replace H := Option.bind_eq_some_iff.mp H
        obtain ⟨⟨t398, t399, t400⟩, A180, H⟩ := H
        replace H : (size_ratio.l0 k1 l0 l1 l1 (l1.length : Int) (wrap64 (x14_1 + 1)) t398 t399) = some (r1, r2, r3) := H
        have A18 := Aside0.mk A180
        clear A180
        have H' := Aside0.mk H
        clear H
        have p395 : 0 ≤ (x14_1 : Int) := of_decide_eq_true (by first | (with_reducible assumption) | assumption)
        have q395 : x14_1 < (l1.length : Int) := of_decide_eq_true (by first | (with_reducible assumption) | assumption)
        obtain ⟨ad395, e395, hx395_0, hx395_1⟩ := at_T30 HR1.out x14_1 p395 q395
        cases e395
        replace hx395_0 := (HB.out.cell (World.block_lt_of_cell? w _ hx395_0)).trans hx395_0
        replace hx395_1 := (HB.out.cell (World.block_lt_of_cell? w _ hx395_1)).trans hx395_1
        replace p395 := eq_true p395
        replace q395 := eq_true q395
        try go_wp2_with (first | ((with_reducible refine gate_dst (N := 8) rfl ?_); refine boxM (N := 8) #[.string (⟨#[]⟩ : ByteArray), .string (⟨#[]⟩ : ByteArray)] 30 ?_; intro gb396 hg w19 hbox hb; have BK396 := Aside0.mk (hbox); have GW396 := Aside0.mk ((by rw [hg]; exact (below_size (bl HB)) : w.heap.size ≤ gb396)); have GE396 := Aside0.mk ((by rw [hg]; exact (below_size (bl HB)) : w.heap.size ≤ gb396)); replace HB := Aside0.mk (below_step (bl HB) hb); have NB391_396 := Aside0.mk ((by rw [hg]; exact Nat.ne_of_lt (blk_lt (g := gb391) (o := .cells #[.string (⟨#[]⟩ : ByteArray), .string (⟨#[]⟩ : ByteArray)] 30 (0, 0)) (bk BK391)) : gb391 ≠ gb396)); have NB396_391 := Aside0.mk ((by rw [hg]; exact Nat.ne_of_gt (blk_lt (g := gb391) (o := .cells #[.string (⟨#[]⟩ : ByteArray), .string (⟨#[]⟩ : ByteArray)] 30 (0, 0)) (bk BK391)) : gb396 ≠ gb391)); replace BK391 := Aside0.mk (blk_below (g := gb391) (o := .cells #[.string (⟨#[]⟩ : ByteArray), .string (⟨#[]⟩ : ByteArray)] 30 (0, 0)) (bk BK391) hb); have NB394_396 := Aside0.mk ((by rw [hg]; exact Nat.ne_of_lt (blk_lt (g := gb394) (o := .cells #[.string x395000_1, .string x395001_1] 30 (0, 0)) (bk BK394)) : gb394 ≠ gb396)); have NB396_394 := Aside0.mk ((by rw [hg]; exact Nat.ne_of_gt (blk_lt (g := gb394) (o := .cells #[.string x395000_1, .string x395001_1] 30 (0, 0)) (bk BK394)) : gb396 ≠ gb394)); replace BK394 := Aside0.mk (blk_below (g := gb394) (o := .cells #[.string x395000_1, .string x395001_1] 30 (0, 0)) (bk BK394) hb); clear hb hbox hg; have hnb20 := NB396_391.out; have hnc20 := NB391_396.out; have hnb21 := NB396_394.out; have hnc21 := NB394_396.out; have hcz22_0 : w19.cell? ⟨gb396, 0, none⟩ = some (.string (⟨#[]⟩ : ByteArray)) := (blk_cell BK396.out 0).trans rfl; have hcz22_1 : w19.cell? ⟨gb396, 1, none⟩ = some (.string (⟨#[]⟩ : ByteArray)) := (blk_cell BK396.out 1).trans rfl; have hfz22_0 := blk_frozen BK396.out 0; have hfz22_1 := blk_frozen BK396.out 1))
        have n0_ : Aside0 (((w19.setCell ⟨gb396, 0, none⟩ (.string ((rd_T30 l1 x14_1).f0))).setCell ⟨gb396, 1, none⟩ (.string ((rd_T30 l1 x14_1).f1))).heap[gb391]? = some (.cells #[.string (⟨#[]⟩ : ByteArray), .string (⟨#[]⟩ : ByteArray)] 30 (0, 0))) := ⟨by (with_reducible repeat (first | refine blk_drewN ?_ _ | refine blk_drew ?_ | refine blk_alloc ?_ _)); refine blk_far ?_ NB391_396.out _; (with_reducible repeat (first | refine blk_drewN ?_ _ | refine blk_drew ?_ | refine blk_alloc ?_ _)); refine blk_far ?_ NB391_396.out _; (with_reducible repeat (first | refine blk_drewN ?_ _ | refine blk_drew ?_ | refine blk_alloc ?_ _)); exact BK391.out⟩
        have n1_ : Aside0 (((w19.setCell ⟨gb396, 0, none⟩ (.string ((rd_T30 l1 x14_1).f0))).setCell ⟨gb396, 1, none⟩ (.string ((rd_T30 l1 x14_1).f1))).heap[gb394]? = some (.cells #[.string x395000_1, .string x395001_1] 30 (0, 0))) := ⟨by (with_reducible repeat (first | refine blk_drewN ?_ _ | refine blk_drew ?_ | refine blk_alloc ?_ _)); refine blk_far ?_ NB394_396.out _; (with_reducible repeat (first | refine blk_drewN ?_ _ | refine blk_drew ?_ | refine blk_alloc ?_ _)); refine blk_far ?_ NB394_396.out _; (with_reducible repeat (first | refine blk_drewN ?_ _ | refine blk_drew ?_ | refine blk_alloc ?_ _)); exact BK394.out⟩
        have n2_ : Aside0 (((w19.setCell ⟨gb396, 0, none⟩ (.string ((rd_T30 l1 x14_1).f0))).setCell ⟨gb396, 1, none⟩ (.string ((rd_T30 l1 x14_1).f1))).heap[gb396]? = some (.cells #[.string ((rd_T30 l1 x14_1).f0), .string ((rd_T30 l1 x14_1).f1)] 30 (0, 0))) := ⟨by (with_reducible repeat (first | refine blk_drewN ?_ _ | refine blk_drew ?_ | refine blk_alloc ?_ _)); refine blk_put (cs := #[.string ((rd_T30 l1 x14_1).f0), .string (⟨#[]⟩ : ByteArray)]) ?_ 1 _ rfl; (with_reducible repeat (first | refine blk_drewN ?_ _ | refine blk_drew ?_ | refine blk_alloc ?_ _)); refine blk_put (cs := #[.string (⟨#[]⟩ : ByteArray), .string (⟨#[]⟩ : ByteArray)]) ?_ 0 _ rfl; (with_reducible repeat (first | refine blk_drewN ?_ _ | refine blk_drew ?_ | refine blk_alloc ?_ _)); exact BK396.out⟩
        have n3_ : Aside0 (Below w.heap.size w ((w19.setCell ⟨gb396, 0, none⟩ (.string ((rd_T30 l1 x14_1).f0))).setCell ⟨gb396, 1, none⟩ (.string ((rd_T30 l1 x14_1).f1)))) := ⟨bl HB⟩
        (try clear BK391)
        (try clear BK394)
        (try clear BK396)
        (try clear HB)
        generalize ((w19.setCell ⟨gb396, 0, none⟩ (.string ((rd_T30 l1 x14_1).f0))).setCell ⟨gb396, 1, none⟩ (.string ((rd_T30 l1 x14_1).f1))) = w23 at n0_ n1_ n2_ n3_ ⊢
        have BK391 := n0_
        have BK394 := n1_
        have BK396 := n2_
        have HB := n3_
        clear n0_ n1_ n2_ n3_
        replace BK391 := Aside0.mk (blk_drew BK391.out)
        replace BK394 := Aside0.mk (blk_drew BK394.out)
        replace BK396 := Aside0.mk (blk_drew BK396.out)
        replace HB := Aside0.mk (below_drew1 HB.out)
        have p397 : 0 ≤ (x14_1 : Int) := of_decide_eq_true (by first | (with_reducible assumption) | assumption)
        have q397 : x14_1 < (l0.length : Int) := of_decide_eq_true (by first | (with_reducible assumption) | assumption)
        obtain ⟨ad397, e397, hx397_0, hx397_1⟩ := at_T30 HR0.out x14_1 p397 q397
        have hw397_1 := hx397_1
        have hw397_0 := hx397_0
        cases e397
        replace hx397_0 := (HB.out.cell (World.block_lt_of_cell? w _ hx397_0)).trans hx397_0
        replace hx397_1 := (HB.out.cell (World.block_lt_of_cell? w _ hx397_1)).trans hx397_1
        replace p397 := eq_true p397
        replace q397 := eq_true q397
        refine start_ (n := 10) (S := fun w' => w'.cell? ⟨gb396, 0, none⟩ = some (.string ((rd_T30 l1 x14_1).f0)) ∧ w'.cell? ⟨gb396, 1, none⟩ = some (.string ((rd_T30 l1 x14_1).f1)) ∧ w'.cell? (ad397.add ((x14_1).toNat * 2)) = some (.string ((rd_T30 l0 x14_1).f0)) ∧ w'.cell? ⟨(ad397.add ((x14_1).toNat * 2)).block, (ad397.add ((x14_1).toNat * 2)).off + 1, none⟩ = some (.string ((rd_T30 l0 x14_1).f1))) (ds := []) #[false, false, false, false, false, false, false, false, false, false] (by kernel_rfl) rfl rfl ⟨(blk_cell BK396.out 0).trans rfl, (blk_cell BK396.out 1).trans rfl, ((HB.out.cell (World.block_lt_of_cell? w _ hw397_0)).trans hw397_0), ((HB.out.cell (World.block_lt_of_cell? w _ hw397_1)).trans hw397_1)⟩ (fun hHeld => ?_); refine with_tabW size_ratio.tab6 size_ratio.bits6 (fun HT_ HW_ => ?_)
        generalize w23.drew = w24 at BK391 BK394 BK396 HB hx397_0 hx397_1 hHeld ⊢
        refine purM (i := 0) (N := some 23) #[true, false, false, false, false, false, false, false, false, false] ?_
        refine purM (i := 1) (N := some 24) #[true, true, false, false, false, false, false, false, false, false] ?_
        refine purM (i := 2) (N := some 25) #[true, true, true, false, false, false, false, false, false, false] ?_
        refine take_ (i := 3) (N := some 26) (v := ?_) (a' := ?_) #[true, true, true, true, false, false, false, false, false, false] rfl rfl (take_ofW HT_.out HW_.out (by kernel_rfl)) (fun _ _ _ h => h) (Or.inl ⟨by rfl, ?_⟩) hHeld ?_ ?_
        rotate_left
        ·rintro w' ⟨s0, s1, s2, s3⟩
         go_simp
         with_reducible rfl
        rotate_left
        ·simp only [Act.put, List.setIfInBounds_toArray, List.set_cons_zero, List.set_cons_succ, i64_w, i32_w]
         rfl
        refine take_ (i := 4) (N := some 27) (v := ?_) (a' := ?_) #[true, true, true, true, true, false, false, false, false, false] rfl rfl (take_ofW HT_.out HW_.out (by kernel_rfl)) (fun _ _ _ h => h) (Or.inl ⟨by rfl, ?_⟩) hHeld ?_ ?_
        rotate_left
        ·rintro w' ⟨s0, s1, s2, s3⟩
         go_simp
         with_reducible rfl
        rotate_left
        ·simp only [Act.put, List.setIfInBounds_toArray, List.set_cons_zero, List.set_cons_succ, i64_w, i32_w]
         rfl
        refine one_ (i := 5) (N := some 28) #[true, true, true, true, true, true, false, false, false, false] rfl rfl (one_of HT_.out (by kernel_rfl)) (by decide) (fun K hK => ?_)
        refine goesR Tryz.func139 #[.agg #[.string ((rd_T30 l0 x14_1).f0), .string ((rd_T30 l0 x14_1).f1)], .agg #[.string ((rd_T30 l1 x14_1).f0), .string ((rd_T30 l1 x14_1).f1)]] ?_
        with_reducible refine (fraction_Div.calls k1 ((rd_T30 l0 x14_1).f0) ((rd_T30 l0 x14_1).f1) ((rd_T30 l1 x14_1).f0) ((rd_T30 l1 x14_1).f1) t398 t399 t400 _ ?side1 A18.out).mono ?_
        (case side1 => exact Glob.below HG0.out (bl HB))
        rintro e w25 ⟨rfl, hb⟩
        refine ⟨_, rfl, ?_⟩
        replace BK391 := Aside0.mk (blk_below (g := gb391) (o := .cells #[.string (⟨#[]⟩ : ByteArray), .string (⟨#[]⟩ : ByteArray)] 30 (0, 0)) (bk BK391) hb)
        replace BK394 := Aside0.mk (blk_below (g := gb394) (o := .cells #[.string x395000_1, .string x395001_1] 30 (0, 0)) (bk BK394) hb)
        replace BK396 := Aside0.mk (blk_below (g := gb396) (o := .cells #[.string ((rd_T30 l1 x14_1).f0), .string ((rd_T30 l1 x14_1).f1)] 30 (0, 0)) (bk BK396) hb)
        replace HB := Aside0.mk (below_step (bl HB) hb)
        (try clear hb)
        (try clear hb2)
        (try clear hk)
        (try clear hi)
        refine hK.out _ _ ⟨(blk_cell BK396.out 0).trans rfl, (blk_cell BK396.out 1).trans rfl, ((HB.out.cell (World.block_lt_of_cell? w _ hw397_0)).trans hw397_0), ((HB.out.cell (World.block_lt_of_cell? w _ hw397_1)).trans hw397_1)⟩ (fun hHeld => ?_)
        clear hK K
        refine norm_ (a' := ?_) ?_ ?_
        rotate_left
        ·show Act.put _ (some 28) _ = _
         simp only [Act.put, List.setIfInBounds_toArray, List.set_cons_zero, List.set_cons_succ, i64_w, i32_w]
         rfl
        refine purM (i := 6) (N := some 22) #[true, true, true, true, true, true, true, false, false, false] ?_
        refine purM (i := 7) (N := some 29) #[true, true, true, true, true, true, true, true, false, false] ?_
        refine purM (i := 8) (N := some 30) #[true, true, true, true, true, true, true, true, true, false] ?_
        refine one_ (i := 9) (N := none) #[true, true, true, true, true, true, true, true, true, true] rfl rfl (one_of HT_.out (by kernel_rfl)) (by decide) (fun K hK => ?_)
        have hs26 : w25.cell? ⟨gb394, 0, none⟩ = some (.string x395000_1) := (blk_cell BK394.out 0).trans rfl
        have hfs26 := blk_frozen BK394.out 0
        have hns26_0 := NB391_394.out
        have hns26_2 := NB396_394.out
        have hms26_0 := NB394_391.out
        have hms26_2 := NB394_396.out
        have hs27 : w25.cell? ⟨gb394, 1, none⟩ = some (.string x395001_1) := (blk_cell BK394.out 1).trans rfl
        have hfs27 := blk_frozen BK394.out 1
        have hns27_0 := NB391_394.out
        have hns27_2 := NB396_394.out
        have hms27_0 := NB394_391.out
        have hms27_2 := NB394_396.out
        refine skip_ (w1 := ?_) (by rfl) rfl ?_ ?_
        rotate_left
        ·go_simp
         rfl
        refine hK.out _ _ ⟨((cell_far (p := ⟨gb394, _, none⟩) NB396_394.out _).trans (((cell_far (p := ⟨gb394, _, none⟩) NB396_394.out _).trans (hHeld.1)))), ((cell_far (p := ⟨gb394, _, none⟩) NB396_394.out _).trans (((cell_far (p := ⟨gb394, _, none⟩) NB396_394.out _).trans (hHeld.2.1)))), ((cell_far (p := ⟨gb394, _, none⟩) (by first | exact Nat.ne_of_lt (Nat.lt_of_lt_of_le (by have := World.block_lt_of_cell? _ _ hw397_0; first | rwa [add_block] at this | exact this) GW394.out) | (rw [add_block]; exact Nat.ne_of_lt (Nat.lt_of_lt_of_le (by have := World.block_lt_of_cell? _ _ hw397_0; first | rwa [add_block] at this | exact this) GW394.out)) | (show (Addr.add _ _).block ≠ _; rw [add_block]; exact Nat.ne_of_lt (Nat.lt_of_lt_of_le (by have := World.block_lt_of_cell? _ _ hw397_0; first | rwa [add_block] at this | exact this) GW394.out)) | (dsimp only; exact Nat.ne_of_lt (Nat.lt_of_lt_of_le (by have := World.block_lt_of_cell? _ _ hw397_0; first | rwa [add_block] at this | exact this) GW394.out))) _).trans (((cell_far (p := ⟨gb394, _, none⟩) (by first | exact Nat.ne_of_lt (Nat.lt_of_lt_of_le (by have := World.block_lt_of_cell? _ _ hw397_0; first | rwa [add_block] at this | exact this) GW394.out) | (rw [add_block]; exact Nat.ne_of_lt (Nat.lt_of_lt_of_le (by have := World.block_lt_of_cell? _ _ hw397_0; first | rwa [add_block] at this | exact this) GW394.out)) | (show (Addr.add _ _).block ≠ _; rw [add_block]; exact Nat.ne_of_lt (Nat.lt_of_lt_of_le (by have := World.block_lt_of_cell? _ _ hw397_0; first | rwa [add_block] at this | exact this) GW394.out)) | (dsimp only; exact Nat.ne_of_lt (Nat.lt_of_lt_of_le (by have := World.block_lt_of_cell? _ _ hw397_0; first | rwa [add_block] at this | exact this) GW394.out))) _).trans (hHeld.2.2.1)))), ((cell_far (p := ⟨gb394, _, none⟩) (by first | exact Nat.ne_of_lt (Nat.lt_of_lt_of_le (by have := World.block_lt_of_cell? _ _ hw397_1; first | rwa [add_block] at this | exact this) GW394.out) | (rw [add_block]; exact Nat.ne_of_lt (Nat.lt_of_lt_of_le (by have := World.block_lt_of_cell? _ _ hw397_1; first | rwa [add_block] at this | exact this) GW394.out)) | (show (Addr.add _ _).block ≠ _; rw [add_block]; exact Nat.ne_of_lt (Nat.lt_of_lt_of_le (by have := World.block_lt_of_cell? _ _ hw397_1; first | rwa [add_block] at this | exact this) GW394.out)) | (dsimp only; exact Nat.ne_of_lt (Nat.lt_of_lt_of_le (by have := World.block_lt_of_cell? _ _ hw397_1; first | rwa [add_block] at this | exact this) GW394.out))) _).trans (((cell_far (p := ⟨gb394, _, none⟩) (by first | exact Nat.ne_of_lt (Nat.lt_of_lt_of_le (by have := World.block_lt_of_cell? _ _ hw397_1; first | rwa [add_block] at this | exact this) GW394.out) | (rw [add_block]; exact Nat.ne_of_lt (Nat.lt_of_lt_of_le (by have := World.block_lt_of_cell? _ _ hw397_1; first | rwa [add_block] at this | exact this) GW394.out)) | (show (Addr.add _ _).block ≠ _; rw [add_block]; exact Nat.ne_of_lt (Nat.lt_of_lt_of_le (by have := World.block_lt_of_cell? _ _ hw397_1; first | rwa [add_block] at this | exact this) GW394.out)) | (dsimp only; exact Nat.ne_of_lt (Nat.lt_of_lt_of_le (by have := World.block_lt_of_cell? _ _ hw397_1; first | rwa [add_block] at this | exact this) GW394.out))) _).trans (hHeld.2.2.2))))⟩ (fun hHeld => ?_)
        clear hK K
        refine done_ (done_of HT_.out (by kernel_rfl)) ?_
        try go_wp2
        go_roundg k1
        case measure => have := HK1.out; omega
        case rel => exact ⟨(wrap64 (x14_1 + 1)), (t398), (t399), rs, H', ⟨by have := HK1.out; omega⟩, ⟨by (with_reducible repeat (first | refine blk_drewN ?_ _ | refine blk_drew ?_ | refine blk_alloc ?_ _)); refine blk_far ?_ NB391_394.out _; (with_reducible repeat (first | refine blk_drewN ?_ _ | refine blk_drew ?_ | refine blk_alloc ?_ _)); refine blk_far ?_ NB391_394.out _; (with_reducible repeat (first | refine blk_drewN ?_ _ | refine blk_drew ?_ | refine blk_alloc ?_ _)); exact BK391.out⟩, ⟨by (with_reducible repeat (first | refine blk_drewN ?_ _ | refine blk_drew ?_ | refine blk_alloc ?_ _)); refine blk_put (cs := #[.string t398, .string x395001_1]) ?_ 1 _ rfl; (with_reducible repeat (first | refine blk_drewN ?_ _ | refine blk_drew ?_ | refine blk_alloc ?_ _)); refine blk_put (cs := #[.string x395000_1, .string x395001_1]) ?_ 0 _ rfl; (with_reducible repeat (first | refine blk_drewN ?_ _ | refine blk_drew ?_ | refine blk_alloc ?_ _)); exact BK394.out⟩, ⟨bl HB⟩⟩
       ·rw [if_neg c17] at H
        exact absurd H (by simp)
     ·rw [if_neg c11] at H
      exact absurd H (by simp)
    ·rw [if_neg c10] at H
     exact absurd H (by simp)
   ·rw [if_neg c9] at H
    have c9b0 : decide (x14_1 < (l1.length : Int)) = false := decide_eq_false c9
    clear c9
    have H' := Aside0.mk H
    clear H
    go_wp2
    go_loopg [34] k1 (fun kq v34 w' => ∃ (x34_2 : Int) (x392000_2 : ByteArray) (x392001_2 : ByteArray), v34 = .int .i64 x34_2 ∧ Aside0 (size_ratio.l1 kq l0 l1 (l1.length : Int) x34_2 x395000_1 x395001_1 = some (r1, r2, r3)) ∧ Aside0 (kq ≤ k1) ∧ Aside0 (w'.heap[gb391]? = some (.cells #[.string x392000_2, .string x392001_2] 30 (0, 0))) ∧ Aside0 (w'.heap[gb394]? = some (.cells #[.string x395000_1, .string x395001_1] 30 (0, 0))) ∧ Aside0 (Below w.heap.size w w'))
    case atStart => exact ⟨(0), ((⟨#[]⟩ : ByteArray)), ((⟨#[]⟩ : ByteArray)), rs, H', ⟨Nat.le_refl _⟩, ⟨bk BK391⟩, ⟨bk BK394⟩, ⟨bl HB⟩⟩
    case round =>
     clear H'
     try clear c1
     try clear c2
     try clear p2
     try clear p3
     try clear q3
     try clear hx3
     try clear c6
     try clear p6
     try clear c7
     try clear c9
     try clear c9b0
     try clear c10
     try clear c10b0
     try clear c11
     try clear c11b0
     try clear c12
     try clear c12b0
     try clear c12b1
     try clear c13
     try clear c14
     try clear c15
     try clear c17
     try clear c17b0
     try clear c20
     try clear c21
     try clear hcz16_0
     try clear hcz16_1
     try clear hcz22_0
     try clear hcz22_1
     try clear hcz8_0
     try clear hcz8_1
     try clear hfz16_0
     try clear hfz16_1
     try clear hfz22_0
     try clear hfz22_1
     try clear hfz8_0
     try clear hfz8_1
     try clear hx395_0
     try clear hx395_1
     try clear hx397_0
     try clear hx397_1
     try clear p2
     try clear p395
     try clear p397
     try clear q395
     try clear q397
     obtain ⟨x34_2, x392000_2, x392001_2, rfl, HA, HK2, BK391, BK394, HB⟩ := hrel
     cases gk with
     | zero => exact absurd HA.out (by simp [size_ratio.l1])
     | succ k2 =>
      have H := HA.out
      clear HA
      simp only [size_ratio.l1] at H
      by_cases c28 : x34_2 < (l1.length : Int)
      ·rw [if_pos c28] at H
       have c28b0 : decide (x34_2 < (l1.length : Int)) = true := decide_eq_true c28
       clear c28
       by_cases c29 : 0 ≤ x34_2
       ·rw [if_pos c29] at H
        have c29b0 : decide (0 ≤ x34_2) = true := decide_eq_true c29
        clear c29
        by_cases c30 : x34_2 < (l1.length : Int)
        ·rw [if_pos c30] at H
         have c30b0 : decide (x34_2 < (l1.length : Int)) = true := decide_eq_true c30
         clear c30
         replace H := Option.bind_eq_some_iff.mp H
         obtain ⟨⟨t403, t404⟩, A310, H⟩ := H
         replace H : (if x34_2 < (l0.length : Int) then (if (!(t403.toList == (((rd_T30 l0 x34_2).f0).toList)) || (!(t404.toList == (((rd_T30 l0 x34_2).f1).toList)))) = true then (some (x395000_1, x395001_1, false)) else (size_ratio.l1 k2 l0 l1 (l1.length : Int) (wrap64 (x34_2 + 1)) x395000_1 x395001_1)) else (none)) = some (r1, r2, r3) := H
         have A31 := Aside0.mk A310
         clear A310
         by_cases c32 : x34_2 < (l0.length : Int)
         ·rw [if_pos c32] at H
          have c32b0 : decide (x34_2 < (l0.length : Int)) = true := decide_eq_true c32
          clear c32
          by_cases c33 : (!(t403.toList == (((rd_T30 l0 x34_2).f0).toList)) || (!(t404.toList == (((rd_T30 l0 x34_2).f1).toList)))) = true
          ·rw [if_pos c33] at H
           have c33b0 : (!(t403.toList == (((rd_T30 l0 x34_2).f0).toList)) || (!(t404.toList == (((rd_T30 l0 x34_2).f1).toList)))) = true := c33
           clear c33
           simp only [Option.some.injEq, Prod.mk.injEq] at H
           obtain ⟨rfl, rfl, rfl⟩ := H
           have p401 : 0 ≤ (x34_2 : Int) := of_decide_eq_true (by first | (with_reducible assumption) | assumption)
           have q401 : x34_2 < (l1.length : Int) := of_decide_eq_true (by first | (with_reducible assumption) | assumption)
           obtain ⟨ad401, e401, hx401_0, hx401_1⟩ := at_T30 HR1.out x34_2 p401 q401
           cases e401
           replace hx401_0 := (HB.out.cell (World.block_lt_of_cell? w _ hx401_0)).trans hx401_0
           replace hx401_1 := (HB.out.cell (World.block_lt_of_cell? w _ hx401_1)).trans hx401_1
           replace p401 := eq_true p401
           replace q401 := eq_true q401
           try go_wp2_with (first | ((with_reducible refine gate_dst (N := 10) rfl ?_); refine boxM (N := 10) #[.string (⟨#[]⟩ : ByteArray), .string (⟨#[]⟩ : ByteArray)] 30 ?_; intro gb402 hg w34 hbox hb; have BK402 := Aside0.mk (hbox); have GW402 := Aside0.mk ((by rw [hg]; exact (below_size (bl HB)) : w.heap.size ≤ gb402)); have GE402 := Aside0.mk ((by rw [hg]; exact (below_size (bl HB)) : w.heap.size ≤ gb402)); replace HB := Aside0.mk (below_step (bl HB) hb); have NB391_402 := Aside0.mk ((by rw [hg]; exact Nat.ne_of_lt (blk_lt (g := gb391) (o := .cells #[.string x392000_2, .string x392001_2] 30 (0, 0)) (bk BK391)) : gb391 ≠ gb402)); have NB402_391 := Aside0.mk ((by rw [hg]; exact Nat.ne_of_gt (blk_lt (g := gb391) (o := .cells #[.string x392000_2, .string x392001_2] 30 (0, 0)) (bk BK391)) : gb402 ≠ gb391)); replace BK391 := Aside0.mk (blk_below (g := gb391) (o := .cells #[.string x392000_2, .string x392001_2] 30 (0, 0)) (bk BK391) hb); have NB394_402 := Aside0.mk ((by rw [hg]; exact Nat.ne_of_lt (blk_lt (g := gb394) (o := .cells #[.string x395000_1, .string x395001_1] 30 (0, 0)) (bk BK394)) : gb394 ≠ gb402)); have NB402_394 := Aside0.mk ((by rw [hg]; exact Nat.ne_of_gt (blk_lt (g := gb394) (o := .cells #[.string x395000_1, .string x395001_1] 30 (0, 0)) (bk BK394)) : gb402 ≠ gb394)); replace BK394 := Aside0.mk (blk_below (g := gb394) (o := .cells #[.string x395000_1, .string x395001_1] 30 (0, 0)) (bk BK394) hb); clear hb hbox hg; have hnb35 := NB402_391.out; have hnc35 := NB391_402.out; have hnb36 := NB402_394.out; have hnc36 := NB394_402.out; have hcz37_0 : w34.cell? ⟨gb402, 0, none⟩ = some (.string (⟨#[]⟩ : ByteArray)) := (blk_cell BK402.out 0).trans rfl; have hcz37_1 : w34.cell? ⟨gb402, 1, none⟩ = some (.string (⟨#[]⟩ : ByteArray)) := (blk_cell BK402.out 1).trans rfl; have hfz37_0 := blk_frozen BK402.out 0; have hfz37_1 := blk_frozen BK402.out 1))
           have n0_ : Aside0 (((w34.setCell ⟨gb402, 0, none⟩ (.string ((rd_T30 l1 x34_2).f0))).setCell ⟨gb402, 1, none⟩ (.string ((rd_T30 l1 x34_2).f1))).heap[gb391]? = some (.cells #[.string x392000_2, .string x392001_2] 30 (0, 0))) := ⟨by (with_reducible repeat (first | refine blk_drewN ?_ _ | refine blk_drew ?_ | refine blk_alloc ?_ _)); refine blk_far ?_ NB391_402.out _; (with_reducible repeat (first | refine blk_drewN ?_ _ | refine blk_drew ?_ | refine blk_alloc ?_ _)); refine blk_far ?_ NB391_402.out _; (with_reducible repeat (first | refine blk_drewN ?_ _ | refine blk_drew ?_ | refine blk_alloc ?_ _)); exact BK391.out⟩
           have n1_ : Aside0 (((w34.setCell ⟨gb402, 0, none⟩ (.string ((rd_T30 l1 x34_2).f0))).setCell ⟨gb402, 1, none⟩ (.string ((rd_T30 l1 x34_2).f1))).heap[gb394]? = some (.cells #[.string x395000_1, .string x395001_1] 30 (0, 0))) := ⟨by (with_reducible repeat (first | refine blk_drewN ?_ _ | refine blk_drew ?_ | refine blk_alloc ?_ _)); refine blk_far ?_ NB394_402.out _; (with_reducible repeat (first | refine blk_drewN ?_ _ | refine blk_drew ?_ | refine blk_alloc ?_ _)); refine blk_far ?_ NB394_402.out _; (with_reducible repeat (first | refine blk_drewN ?_ _ | refine blk_drew ?_ | refine blk_alloc ?_ _)); exact BK394.out⟩
           have n2_ : Aside0 (((w34.setCell ⟨gb402, 0, none⟩ (.string ((rd_T30 l1 x34_2).f0))).setCell ⟨gb402, 1, none⟩ (.string ((rd_T30 l1 x34_2).f1))).heap[gb402]? = some (.cells #[.string ((rd_T30 l1 x34_2).f0), .string ((rd_T30 l1 x34_2).f1)] 30 (0, 0))) := ⟨by (with_reducible repeat (first | refine blk_drewN ?_ _ | refine blk_drew ?_ | refine blk_alloc ?_ _)); refine blk_put (cs := #[.string ((rd_T30 l1 x34_2).f0), .string (⟨#[]⟩ : ByteArray)]) ?_ 1 _ rfl; (with_reducible repeat (first | refine blk_drewN ?_ _ | refine blk_drew ?_ | refine blk_alloc ?_ _)); refine blk_put (cs := #[.string (⟨#[]⟩ : ByteArray), .string (⟨#[]⟩ : ByteArray)]) ?_ 0 _ rfl; (with_reducible repeat (first | refine blk_drewN ?_ _ | refine blk_drew ?_ | refine blk_alloc ?_ _)); exact BK402.out⟩
           have n3_ : Aside0 (Below w.heap.size w ((w34.setCell ⟨gb402, 0, none⟩ (.string ((rd_T30 l1 x34_2).f0))).setCell ⟨gb402, 1, none⟩ (.string ((rd_T30 l1 x34_2).f1)))) := ⟨bl HB⟩
           (try clear BK391)
           (try clear BK394)
           (try clear BK402)
           (try clear HB)
           generalize ((w34.setCell ⟨gb402, 0, none⟩ (.string ((rd_T30 l1 x34_2).f0))).setCell ⟨gb402, 1, none⟩ (.string ((rd_T30 l1 x34_2).f1))) = w38 at n0_ n1_ n2_ n3_ ⊢
           have BK391 := n0_
           have BK394 := n1_
           have BK402 := n2_
           have HB := n3_
           clear n0_ n1_ n2_ n3_
           replace BK391 := Aside0.mk (blk_drew BK391.out)
           replace BK394 := Aside0.mk (blk_drew BK394.out)
           replace BK402 := Aside0.mk (blk_drew BK402.out)
           replace HB := Aside0.mk (below_drew1 HB.out)
           have p405 : 0 ≤ (x34_2 : Int) := of_decide_eq_true (by first | (with_reducible assumption) | assumption)
           have q405 : x34_2 < (l0.length : Int) := of_decide_eq_true (by first | (with_reducible assumption) | assumption)
           obtain ⟨ad405, e405, hx405_0, hx405_1⟩ := at_T30 HR0.out x34_2 p405 q405
           have hw405_1 := hx405_1
           have hw405_0 := hx405_0
           cases e405
           replace hx405_0 := (HB.out.cell (World.block_lt_of_cell? w _ hx405_0)).trans hx405_0
           replace hx405_1 := (HB.out.cell (World.block_lt_of_cell? w _ hx405_1)).trans hx405_1
           replace p405 := eq_true p405
           replace q405 := eq_true q405
           refine start_ (n := 8) (S := fun w' => w'.cell? ⟨gb394, 0, none⟩ = some (.string x395000_1) ∧ w'.cell? ⟨gb394, 1, none⟩ = some (.string x395001_1) ∧ w'.cell? ⟨gb402, 0, none⟩ = some (.string ((rd_T30 l1 x34_2).f0)) ∧ w'.cell? ⟨gb402, 1, none⟩ = some (.string ((rd_T30 l1 x34_2).f1)) ∧ w'.cell? (ad405.add ((x34_2).toNat * 2)) = some (.string ((rd_T30 l0 x34_2).f0)) ∧ w'.cell? ⟨(ad405.add ((x34_2).toNat * 2)).block, (ad405.add ((x34_2).toNat * 2)).off + 1, none⟩ = some (.string ((rd_T30 l0 x34_2).f1))) (ds := []) #[false, false, false, false, false, false, false, false] (by kernel_rfl) rfl rfl ⟨(blk_cell BK394.out 0).trans rfl, (blk_cell BK394.out 1).trans rfl, (blk_cell BK402.out 0).trans rfl, (blk_cell BK402.out 1).trans rfl, ((HB.out.cell (World.block_lt_of_cell? w _ hw405_0)).trans hw405_0), ((HB.out.cell (World.block_lt_of_cell? w _ hw405_1)).trans hw405_1)⟩ (fun hHeld => ?_); refine with_tabW size_ratio.tab11 size_ratio.bits11 (fun HT_ HW_ => ?_)
           generalize w38.drew = w39 at BK391 BK394 BK402 HB hx405_0 hx405_1 hHeld ⊢
           refine purM (i := 3) (N := some 42) #[false, false, false, true, false, false, false, false] ?_
           refine purM (i := 4) (N := some 43) #[false, false, false, true, true, false, false, false] ?_
           refine purM (i := 5) (N := some 44) #[false, false, false, true, true, true, false, false] ?_
           refine take_ (i := 0) (N := some 39) (v := ?_) (a' := ?_) #[true, false, false, true, true, true, false, false] rfl rfl (take_ofW HT_.out HW_.out (by kernel_rfl)) (fun _ _ _ h => h) (Or.inl ⟨by rfl, ?_⟩) hHeld ?_ ?_
           rotate_left
           ·rintro w' ⟨s0, s1, s2, s3, s4, s5⟩
            go_simp
            with_reducible rfl
           rotate_left
           ·simp only [Act.put, List.setIfInBounds_toArray, List.set_cons_zero, List.set_cons_succ, i64_w, i32_w]
            rfl
           refine take_ (i := 1) (N := some 40) (v := ?_) (a' := ?_) #[true, true, false, true, true, true, false, false] rfl rfl (take_ofW HT_.out HW_.out (by kernel_rfl)) (fun _ _ _ h => h) (Or.inl ⟨by rfl, ?_⟩) hHeld ?_ ?_
           rotate_left
           ·rintro w' ⟨s0, s1, s2, s3, s4, s5⟩
            go_simp
            with_reducible rfl
           rotate_left
           ·simp only [Act.put, List.setIfInBounds_toArray, List.set_cons_zero, List.set_cons_succ, i64_w, i32_w]
            rfl
           refine take_ (i := 6) (N := some 45) (v := ?_) (a' := ?_) #[true, true, false, true, true, true, true, false] rfl rfl (take_ofW HT_.out HW_.out (by kernel_rfl)) (fun _ _ _ h => h) (Or.inl ⟨by rfl, ?_⟩) hHeld ?_ ?_
           rotate_left
           ·rintro w' ⟨s0, s1, s2, s3, s4, s5⟩
            go_simp
            with_reducible rfl
           rotate_left
           ·simp only [Act.put, List.setIfInBounds_toArray, List.set_cons_zero, List.set_cons_succ, i64_w, i32_w]
            rfl
           refine one_ (i := 2) (N := some 41) #[true, true, true, true, true, true, true, false] rfl rfl (one_of HT_.out (by kernel_rfl)) (by decide) (fun K hK => ?_)
           refine goesR Tryz.func35 #[.agg #[.string x395000_1, .string x395001_1], .agg #[.string ((rd_T30 l1 x34_2).f0), .string ((rd_T30 l1 x34_2).f1)]] ?_
           with_reducible refine (fraction_Mul.calls k2 x395000_1 x395001_1 ((rd_T30 l1 x34_2).f0) ((rd_T30 l1 x34_2).f1) t403 t404 _ ?side1 A31.out).mono ?_
           (case side1 => exact Glob.below HG0.out (bl HB))
           rintro e w40 ⟨rfl, hb⟩
           refine ⟨_, rfl, ?_⟩
           replace BK391 := Aside0.mk (blk_below (g := gb391) (o := .cells #[.string x392000_2, .string x392001_2] 30 (0, 0)) (bk BK391) hb)
           replace BK394 := Aside0.mk (blk_below (g := gb394) (o := .cells #[.string x395000_1, .string x395001_1] 30 (0, 0)) (bk BK394) hb)
           replace BK402 := Aside0.mk (blk_below (g := gb402) (o := .cells #[.string ((rd_T30 l1 x34_2).f0), .string ((rd_T30 l1 x34_2).f1)] 30 (0, 0)) (bk BK402) hb)
           replace HB := Aside0.mk (below_step (bl HB) hb)
           (try clear hb)
           (try clear hb2)
           (try clear hk)
           (try clear hi)
           refine hK.out _ _ ⟨(blk_cell BK394.out 0).trans rfl, (blk_cell BK394.out 1).trans rfl, (blk_cell BK402.out 0).trans rfl, (blk_cell BK402.out 1).trans rfl, ((HB.out.cell (World.block_lt_of_cell? w _ hw405_0)).trans hw405_0), ((HB.out.cell (World.block_lt_of_cell? w _ hw405_1)).trans hw405_1)⟩ (fun hHeld => ?_)
           clear hK K
           refine norm_ (a' := ?_) ?_ ?_
           rotate_left
           ·show Act.put _ (some 41) _ = _
            simp only [Act.put, List.setIfInBounds_toArray, List.set_cons_zero, List.set_cons_succ, i64_w, i32_w]
            rfl
           refine purM (i := 7) (N := some 46) #[true, true, true, true, true, true, true, true] ?_
           refine done_ (done_of HT_.out (by kernel_rfl)) ?_
           have hnb41 := NB394_391.out
           have hnc41 := NB391_394.out
           have hcz42_0 : w40.cell? ⟨gb394, 0, none⟩ = some (.string x395000_1) := (blk_cell BK394.out 0).trans rfl
           have hcz42_1 : w40.cell? ⟨gb394, 1, none⟩ = some (.string x395001_1) := (blk_cell BK394.out 1).trans rfl
           have hfz42_0 := blk_frozen BK394.out 0
           have hfz42_1 := blk_frozen BK394.out 1
           have hcz43_0 : w40.cell? ⟨gb391, 0, none⟩ = some (.string x392000_2) := (blk_cell BK391.out 0).trans rfl
           have hcz43_1 : w40.cell? ⟨gb391, 1, none⟩ = some (.string x392001_2) := (blk_cell BK391.out 1).trans rfl
           have hfz43_0 := blk_frozen BK391.out 0
           have hfz43_1 := blk_frozen BK391.out 1
           try go_wp2
           refine bodyPost_ret (results_ct rfl _ _ gb391 30 #[.string x395000_1, .string x395001_1] (0, 0) _ rfl (by (with_reducible repeat (first | refine blk_drewN ?_ _ | refine blk_drew ?_ | refine blk_alloc ?_ _)); refine blk_put (cs := #[.string x395000_1, .string x392001_2]) ?_ 1 _ rfl; (with_reducible repeat (first | refine blk_drewN ?_ _ | refine blk_drew ?_ | refine blk_alloc ?_ _)); refine blk_put (cs := #[.string x392000_2, .string x392001_2]) ?_ 0 _ rfl; (with_reducible repeat (first | refine blk_drewN ?_ _ | refine blk_drew ?_ | refine blk_alloc ?_ _)); exact BK391.out) Tryz.underlying30 rfl (by kernel_rfl)) rfl ?_
           exact ⟨rl, bl HB⟩
          ·rw [if_neg c33] at H
           have c33b0 : (!(t403.toList == (((rd_T30 l0 x34_2).f0).toList)) || (!(t404.toList == (((rd_T30 l0 x34_2).f1).toList)))) = false := by simpa using c33
           clear c33
           have H' := Aside0.mk H
           clear H
           have p401 : 0 ≤ (x34_2 : Int) := of_decide_eq_true (by first | (with_reducible assumption) | assumption)
           have q401 : x34_2 < (l1.length : Int) := of_decide_eq_true (by first | (with_reducible assumption) | assumption)
           obtain ⟨ad401, e401, hx401_0, hx401_1⟩ := at_T30 HR1.out x34_2 p401 q401
           cases e401
           replace hx401_0 := (HB.out.cell (World.block_lt_of_cell? w _ hx401_0)).trans hx401_0
           replace hx401_1 := (HB.out.cell (World.block_lt_of_cell? w _ hx401_1)).trans hx401_1
           replace p401 := eq_true p401
           replace q401 := eq_true q401
           try go_wp2_with (first | ((with_reducible refine gate_dst (N := 10) rfl ?_); refine boxM (N := 10) #[.string (⟨#[]⟩ : ByteArray), .string (⟨#[]⟩ : ByteArray)] 30 ?_; intro gb402 hg w44 hbox hb; have BK402 := Aside0.mk (hbox); have GW402 := Aside0.mk ((by rw [hg]; exact (below_size (bl HB)) : w.heap.size ≤ gb402)); have GE402 := Aside0.mk ((by rw [hg]; exact (below_size (bl HB)) : w.heap.size ≤ gb402)); replace HB := Aside0.mk (below_step (bl HB) hb); have NB391_402 := Aside0.mk ((by rw [hg]; exact Nat.ne_of_lt (blk_lt (g := gb391) (o := .cells #[.string x392000_2, .string x392001_2] 30 (0, 0)) (bk BK391)) : gb391 ≠ gb402)); have NB402_391 := Aside0.mk ((by rw [hg]; exact Nat.ne_of_gt (blk_lt (g := gb391) (o := .cells #[.string x392000_2, .string x392001_2] 30 (0, 0)) (bk BK391)) : gb402 ≠ gb391)); replace BK391 := Aside0.mk (blk_below (g := gb391) (o := .cells #[.string x392000_2, .string x392001_2] 30 (0, 0)) (bk BK391) hb); have NB394_402 := Aside0.mk ((by rw [hg]; exact Nat.ne_of_lt (blk_lt (g := gb394) (o := .cells #[.string x395000_1, .string x395001_1] 30 (0, 0)) (bk BK394)) : gb394 ≠ gb402)); have NB402_394 := Aside0.mk ((by rw [hg]; exact Nat.ne_of_gt (blk_lt (g := gb394) (o := .cells #[.string x395000_1, .string x395001_1] 30 (0, 0)) (bk BK394)) : gb402 ≠ gb394)); replace BK394 := Aside0.mk (blk_below (g := gb394) (o := .cells #[.string x395000_1, .string x395001_1] 30 (0, 0)) (bk BK394) hb); clear hb hbox hg; have hnb45 := NB402_391.out; have hnc45 := NB391_402.out; have hnb46 := NB402_394.out; have hnc46 := NB394_402.out; have hcz47_0 : w44.cell? ⟨gb402, 0, none⟩ = some (.string (⟨#[]⟩ : ByteArray)) := (blk_cell BK402.out 0).trans rfl; have hcz47_1 : w44.cell? ⟨gb402, 1, none⟩ = some (.string (⟨#[]⟩ : ByteArray)) := (blk_cell BK402.out 1).trans rfl; have hfz47_0 := blk_frozen BK402.out 0; have hfz47_1 := blk_frozen BK402.out 1))
           have n0_ : Aside0 (((w44.setCell ⟨gb402, 0, none⟩ (.string ((rd_T30 l1 x34_2).f0))).setCell ⟨gb402, 1, none⟩ (.string ((rd_T30 l1 x34_2).f1))).heap[gb391]? = some (.cells #[.string x392000_2, .string x392001_2] 30 (0, 0))) := ⟨by (with_reducible repeat (first | refine blk_drewN ?_ _ | refine blk_drew ?_ | refine blk_alloc ?_ _)); refine blk_far ?_ NB391_402.out _; (with_reducible repeat (first | refine blk_drewN ?_ _ | refine blk_drew ?_ | refine blk_alloc ?_ _)); refine blk_far ?_ NB391_402.out _; (with_reducible repeat (first | refine blk_drewN ?_ _ | refine blk_drew ?_ | refine blk_alloc ?_ _)); exact BK391.out⟩
           have n1_ : Aside0 (((w44.setCell ⟨gb402, 0, none⟩ (.string ((rd_T30 l1 x34_2).f0))).setCell ⟨gb402, 1, none⟩ (.string ((rd_T30 l1 x34_2).f1))).heap[gb394]? = some (.cells #[.string x395000_1, .string x395001_1] 30 (0, 0))) := ⟨by (with_reducible repeat (first | refine blk_drewN ?_ _ | refine blk_drew ?_ | refine blk_alloc ?_ _)); refine blk_far ?_ NB394_402.out _; (with_reducible repeat (first | refine blk_drewN ?_ _ | refine blk_drew ?_ | refine blk_alloc ?_ _)); refine blk_far ?_ NB394_402.out _; (with_reducible repeat (first | refine blk_drewN ?_ _ | refine blk_drew ?_ | refine blk_alloc ?_ _)); exact BK394.out⟩
           have n2_ : Aside0 (((w44.setCell ⟨gb402, 0, none⟩ (.string ((rd_T30 l1 x34_2).f0))).setCell ⟨gb402, 1, none⟩ (.string ((rd_T30 l1 x34_2).f1))).heap[gb402]? = some (.cells #[.string ((rd_T30 l1 x34_2).f0), .string ((rd_T30 l1 x34_2).f1)] 30 (0, 0))) := ⟨by (with_reducible repeat (first | refine blk_drewN ?_ _ | refine blk_drew ?_ | refine blk_alloc ?_ _)); refine blk_put (cs := #[.string ((rd_T30 l1 x34_2).f0), .string (⟨#[]⟩ : ByteArray)]) ?_ 1 _ rfl; (with_reducible repeat (first | refine blk_drewN ?_ _ | refine blk_drew ?_ | refine blk_alloc ?_ _)); refine blk_put (cs := #[.string (⟨#[]⟩ : ByteArray), .string (⟨#[]⟩ : ByteArray)]) ?_ 0 _ rfl; (with_reducible repeat (first | refine blk_drewN ?_ _ | refine blk_drew ?_ | refine blk_alloc ?_ _)); exact BK402.out⟩
           have n3_ : Aside0 (Below w.heap.size w ((w44.setCell ⟨gb402, 0, none⟩ (.string ((rd_T30 l1 x34_2).f0))).setCell ⟨gb402, 1, none⟩ (.string ((rd_T30 l1 x34_2).f1)))) := ⟨bl HB⟩
           (try clear BK391)
           (try clear BK394)
           (try clear BK402)
           (try clear HB)
           generalize ((w44.setCell ⟨gb402, 0, none⟩ (.string ((rd_T30 l1 x34_2).f0))).setCell ⟨gb402, 1, none⟩ (.string ((rd_T30 l1 x34_2).f1))) = w48 at n0_ n1_ n2_ n3_ ⊢
           have BK391 := n0_
           have BK394 := n1_
           have BK402 := n2_
           have HB := n3_
           clear n0_ n1_ n2_ n3_
           replace BK391 := Aside0.mk (blk_drew BK391.out)
           replace BK394 := Aside0.mk (blk_drew BK394.out)
           replace BK402 := Aside0.mk (blk_drew BK402.out)
           replace HB := Aside0.mk (below_drew1 HB.out)
           have p405 : 0 ≤ (x34_2 : Int) := of_decide_eq_true (by first | (with_reducible assumption) | assumption)
           have q405 : x34_2 < (l0.length : Int) := of_decide_eq_true (by first | (with_reducible assumption) | assumption)
           obtain ⟨ad405, e405, hx405_0, hx405_1⟩ := at_T30 HR0.out x34_2 p405 q405
           have hw405_1 := hx405_1
           have hw405_0 := hx405_0
           cases e405
           replace hx405_0 := (HB.out.cell (World.block_lt_of_cell? w _ hx405_0)).trans hx405_0
           replace hx405_1 := (HB.out.cell (World.block_lt_of_cell? w _ hx405_1)).trans hx405_1
           replace p405 := eq_true p405
           replace q405 := eq_true q405
           refine start_ (n := 8) (S := fun w' => w'.cell? ⟨gb394, 0, none⟩ = some (.string x395000_1) ∧ w'.cell? ⟨gb394, 1, none⟩ = some (.string x395001_1) ∧ w'.cell? ⟨gb402, 0, none⟩ = some (.string ((rd_T30 l1 x34_2).f0)) ∧ w'.cell? ⟨gb402, 1, none⟩ = some (.string ((rd_T30 l1 x34_2).f1)) ∧ w'.cell? (ad405.add ((x34_2).toNat * 2)) = some (.string ((rd_T30 l0 x34_2).f0)) ∧ w'.cell? ⟨(ad405.add ((x34_2).toNat * 2)).block, (ad405.add ((x34_2).toNat * 2)).off + 1, none⟩ = some (.string ((rd_T30 l0 x34_2).f1))) (ds := []) #[false, false, false, false, false, false, false, false] (by kernel_rfl) rfl rfl ⟨(blk_cell BK394.out 0).trans rfl, (blk_cell BK394.out 1).trans rfl, (blk_cell BK402.out 0).trans rfl, (blk_cell BK402.out 1).trans rfl, ((HB.out.cell (World.block_lt_of_cell? w _ hw405_0)).trans hw405_0), ((HB.out.cell (World.block_lt_of_cell? w _ hw405_1)).trans hw405_1)⟩ (fun hHeld => ?_); refine with_tabW size_ratio.tab11 size_ratio.bits11 (fun HT_ HW_ => ?_)
           generalize w48.drew = w49 at BK391 BK394 BK402 HB hx405_0 hx405_1 hHeld ⊢
           refine purM (i := 3) (N := some 42) #[false, false, false, true, false, false, false, false] ?_
           refine purM (i := 4) (N := some 43) #[false, false, false, true, true, false, false, false] ?_
           refine purM (i := 5) (N := some 44) #[false, false, false, true, true, true, false, false] ?_
           refine take_ (i := 0) (N := some 39) (v := ?_) (a' := ?_) #[true, false, false, true, true, true, false, false] rfl rfl (take_ofW HT_.out HW_.out (by kernel_rfl)) (fun _ _ _ h => h) (Or.inl ⟨by rfl, ?_⟩) hHeld ?_ ?_
           rotate_left
           ·rintro w' ⟨s0, s1, s2, s3, s4, s5⟩
            go_simp
            with_reducible rfl
           rotate_left
           ·simp only [Act.put, List.setIfInBounds_toArray, List.set_cons_zero, List.set_cons_succ, i64_w, i32_w]
            rfl
           refine take_ (i := 1) (N := some 40) (v := ?_) (a' := ?_) #[true, true, false, true, true, true, false, false] rfl rfl (take_ofW HT_.out HW_.out (by kernel_rfl)) (fun _ _ _ h => h) (Or.inl ⟨by rfl, ?_⟩) hHeld ?_ ?_
           rotate_left
           ·rintro w' ⟨s0, s1, s2, s3, s4, s5⟩
            go_simp
            with_reducible rfl
           rotate_left
           ·simp only [Act.put, List.setIfInBounds_toArray, List.set_cons_zero, List.set_cons_succ, i64_w, i32_w]
            rfl
           refine take_ (i := 6) (N := some 45) (v := ?_) (a' := ?_) #[true, true, false, true, true, true, true, false] rfl rfl (take_ofW HT_.out HW_.out (by kernel_rfl)) (fun _ _ _ h => h) (Or.inl ⟨by rfl, ?_⟩) hHeld ?_ ?_
           rotate_left
           ·rintro w' ⟨s0, s1, s2, s3, s4, s5⟩
            go_simp
            with_reducible rfl
           rotate_left
           ·simp only [Act.put, List.setIfInBounds_toArray, List.set_cons_zero, List.set_cons_succ, i64_w, i32_w]
            rfl
           refine one_ (i := 2) (N := some 41) #[true, true, true, true, true, true, true, false] rfl rfl (one_of HT_.out (by kernel_rfl)) (by decide) (fun K hK => ?_)
           refine goesR Tryz.func35 #[.agg #[.string x395000_1, .string x395001_1], .agg #[.string ((rd_T30 l1 x34_2).f0), .string ((rd_T30 l1 x34_2).f1)]] ?_
           with_reducible refine (fraction_Mul.calls k2 x395000_1 x395001_1 ((rd_T30 l1 x34_2).f0) ((rd_T30 l1 x34_2).f1) t403 t404 _ ?side1 A31.out).mono ?_
           (case side1 => exact Glob.below HG0.out (bl HB))
           rintro e w50 ⟨rfl, hb⟩
           refine ⟨_, rfl, ?_⟩
           replace BK391 := Aside0.mk (blk_below (g := gb391) (o := .cells #[.string x392000_2, .string x392001_2] 30 (0, 0)) (bk BK391) hb)
           replace BK394 := Aside0.mk (blk_below (g := gb394) (o := .cells #[.string x395000_1, .string x395001_1] 30 (0, 0)) (bk BK394) hb)
           replace BK402 := Aside0.mk (blk_below (g := gb402) (o := .cells #[.string ((rd_T30 l1 x34_2).f0), .string ((rd_T30 l1 x34_2).f1)] 30 (0, 0)) (bk BK402) hb)
           replace HB := Aside0.mk (below_step (bl HB) hb)
           (try clear hb)
           (try clear hb2)
           (try clear hk)
           (try clear hi)
           refine hK.out _ _ ⟨(blk_cell BK394.out 0).trans rfl, (blk_cell BK394.out 1).trans rfl, (blk_cell BK402.out 0).trans rfl, (blk_cell BK402.out 1).trans rfl, ((HB.out.cell (World.block_lt_of_cell? w _ hw405_0)).trans hw405_0), ((HB.out.cell (World.block_lt_of_cell? w _ hw405_1)).trans hw405_1)⟩ (fun hHeld => ?_)
           clear hK K
           refine norm_ (a' := ?_) ?_ ?_
           rotate_left
           ·show Act.put _ (some 41) _ = _
            simp only [Act.put, List.setIfInBounds_toArray, List.set_cons_zero, List.set_cons_succ, i64_w, i32_w]
            rfl
           refine purM (i := 7) (N := some 46) #[true, true, true, true, true, true, true, true] ?_
           refine done_ (done_of HT_.out (by kernel_rfl)) ?_
           try go_wp2
           go_roundg k2
           case measure => have := HK1.out; have := HK2.out; omega
           case rel => exact ⟨(wrap64 (x34_2 + 1)), (x392000_2), (x392001_2), rs, H', ⟨by have := HK1.out; have := HK2.out; omega⟩, ⟨bk BK391⟩, ⟨bk BK394⟩, ⟨bl HB⟩⟩
         ·rw [if_neg c32] at H
          exact absurd H (by simp)
        ·rw [if_neg c30] at H
         exact absurd H (by simp)
       ·rw [if_neg c29] at H
        exact absurd H (by simp)
      ·rw [if_neg c28] at H
       have c28b0 : decide (x34_2 < (l1.length : Int)) = false := decide_eq_false c28
       clear c28
       simp only [Option.some.injEq, Prod.mk.injEq] at H
       obtain ⟨rfl, rfl, rfl⟩ := H
       have hnb51 := NB394_391.out
       have hnc51 := NB391_394.out
       have hcz52_0 : wr.cell? ⟨gb394, 0, none⟩ = some (.string x395000_1) := (blk_cell BK394.out 0).trans rfl
       have hcz52_1 : wr.cell? ⟨gb394, 1, none⟩ = some (.string x395001_1) := (blk_cell BK394.out 1).trans rfl
       have hfz52_0 := blk_frozen BK394.out 0
       have hfz52_1 := blk_frozen BK394.out 1
       have hcz53_0 : wr.cell? ⟨gb391, 0, none⟩ = some (.string x392000_2) := (blk_cell BK391.out 0).trans rfl
       have hcz53_1 : wr.cell? ⟨gb391, 1, none⟩ = some (.string x392001_2) := (blk_cell BK391.out 1).trans rfl
       have hfz53_0 := blk_frozen BK391.out 0
       have hfz53_1 := blk_frozen BK391.out 1
       go_wp2
       refine bodyPost_ret (results_ct rfl _ _ gb391 30 #[.string x395000_1, .string x395001_1] (0, 0) _ rfl (by (with_reducible repeat (first | refine blk_drewN ?_ _ | refine blk_drew ?_ | refine blk_alloc ?_ _)); refine blk_put (cs := #[.string x395000_1, .string x392001_2]) ?_ 1 _ rfl; (with_reducible repeat (first | refine blk_drewN ?_ _ | refine blk_drew ?_ | refine blk_alloc ?_ _)); refine blk_put (cs := #[.string x392000_2, .string x392001_2]) ?_ 0 _ rfl; (with_reducible repeat (first | refine blk_drewN ?_ _ | refine blk_drew ?_ | refine blk_alloc ?_ _)); exact BK391.out) Tryz.underlying30 rfl (by kernel_rfl)) rfl ?_
       exact ⟨rl, bl HB⟩
def fraction_Floor.f (k : Nat) (a0_0 : ByteArray) (a0_1 : ByteArray) : Option (ByteArray) := (whole_DivMod.f k a0_0 a0_1).bind fun bt407 => (some bt407.1)
set_option maxHeartbeats 8000000 in
set_option maxRecDepth 100000 in
theorem fraction_Floor.calls (k : Nat) (a0_0 : ByteArray) (a0_1 : ByteArray) (r : ByteArray) (w : World) (hG : Glob w) (h : fraction_Floor.f k a0_0 a0_1 = some r) :
  Calls Tryz.prog 115 #[.agg #[.string a0_0, .string a0_1]] w fun e w' => e = .returned (.string r) ∧ Below w.heap.size w w' := by
 have hu30 := Tryz.underlying30
 have HG0 := Aside0.mk hG
 clear hG
 have HB := Aside0.mk (Below.refl w.heap.size w)
 have H : ((whole_DivMod.f k a0_0 a0_1).bind fun bt407 => (some bt407.1)) = some r := h
 clear h
 replace H := Option.bind_eq_some_iff.mp H
 obtain ⟨⟨t407, t408, t409⟩, A20, H⟩ := H
 replace H : (some t407) = some r := H
 have A2 := Aside0.mk A20
 clear A20
 obtain rfl := Option.some.inj H
 go_enter Tryz.func115, Tryz.ntmps115
 go_wp2_with (first | ((with_reducible refine gate_dst (N := 1) rfl ?_); refine boxM (N := 1) #[.string a0_0, .string a0_1] 30 ?_; intro gb406 hg w3 hbox hb; have BK406 := Aside0.mk (hbox); have GW406 := Aside0.mk ((by rw [hg]; exact (below_size (bl HB)) : w.heap.size ≤ gb406)); have GE406 := Aside0.mk ((by rw [hg]; exact (below_size (bl HB)) : w.heap.size ≤ gb406)); replace HB := Aside0.mk (below_step (bl HB) hb); clear hb hbox hg; have hcz4_0 : w3.cell? ⟨gb406, 0, none⟩ = some (.string a0_0) := (blk_cell BK406.out 0).trans rfl; have hcz4_1 : w3.cell? ⟨gb406, 1, none⟩ = some (.string a0_1) := (blk_cell BK406.out 1).trans rfl; have hfz4_0 := blk_frozen BK406.out 0; have hfz4_1 := blk_frozen BK406.out 1) | ((with_reducible refine gate_callee (f := 107) rfl ?_); refine goesM (some 11) Tryz.func107 #[.string a0_0, .string a0_1] ?_; (with_reducible refine (whole_DivMod.calls k a0_0 a0_1 t407 t408 t409 _ ?side1 A2.out).mono ?_); (case side1 => exact Glob.below HG0.out (bl HB)); rintro e w5 ⟨rfl, hb⟩; refine ⟨_, rfl, ?_⟩; replace BK406 := Aside0.mk (blk_below (g := gb406) (o := .cells #[.string a0_0, .string a0_1] 30 (0, 0)) (bk BK406) hb); replace HB := Aside0.mk (below_step (bl HB) hb); (try clear hb); (try clear hb2); (try clear hk); (try clear hi)))
 go_ret
 exact ⟨rl, bl HB⟩
end Go.Proofs.YtailoobjgbldgaaGreatDoor.P
end
