/- Part 2 of the proof: functions' contracts and what they lean on. -/
import Derived.Test.YtailoobjgbldgaaGreatDoorC1
import Derived.Lib.Itoa
import Derived.Lib.LaidTab
import Derived.Test.YtailoobjgbldgaaGreatDoorProg
section
namespace Go.Proofs.YtailoobjgbldgaaGreatDoor.P
open Go Go.RowKit
structure Glob (w : World) : Prop where
  tab : Lib.TabIs Tryz.prog w "internal/strconv.uint64pow10" .u64 Lib.pow10Tab
  rng : ∃ (tp : TypeId) (p : Value), w.var? Tryz.prog "strconv.ErrRange" = some #[.iface tp p]
theorem var_below {n : String} {g : Nat} {cs : Array Value} {w w' : World} (hg : Tryz.prog.globalNamed n = some g) (h : w.var? Tryz.prog n = some cs) (hb : Below w.heap.size w w') : w'.var? Tryz.prog n = some cs := by
  unfold World.var? at h ⊢
  rw [hg] at h ⊢
  simp only [Option.bind_some] at h ⊢
  have hlt : g < w.heap.size := by
    rcases Nat.lt_or_ge g w.heap.size with h' | h'
    · exact h'
    · rw [Array.getElem?_eq_none h'] at h; cases h
  rw [hb.block g hlt]
  exact h
theorem named_pow10 : (Tryz.prog.globalNamed "internal/strconv.uint64pow10").isSome = true := by kernel_rfl
theorem named_range : (Tryz.prog.globalNamed "strconv.ErrRange").isSome = true := by kernel_rfl
theorem Glob.below {w w' : World} (h : Glob w) (hb : Below w.heap.size w w') : Glob w' := by
  obtain ⟨g, hg⟩ := Option.isSome_iff_exists.1 named_pow10
  obtain ⟨g', hg'⟩ := Option.isSome_iff_exists.1 named_range
  obtain ⟨tp, p, hr⟩ := h.rng
  exact ⟨var_below hg h.tab hb, tp, p, var_below hg' hr hb⟩
theorem cell_move_ {w w' : World} {n : Nat} (hq : w.drewN n = w') {a : Addr} {v : Value} (h : w.cell? a = some v) : w'.cell? a = some v := by subst hq; rw [World.cell?_drewN]; exact h
theorem froz_move_ {w w' : World} {n : Nat} (hq : w.drewN n = w') {a : Addr} {b : Bool} (h : w.frozen? a = b) : w'.frozen? a = b := by subst hq; rw [World.frozen?_drewN]; exact h
end Go.Proofs.YtailoobjgbldgaaGreatDoor.P
end
section
namespace Go.Proofs.YtailoobjgbldgaaGreatDoor.P
open Go Go.RowKit Go.Proofs.YtailoobjgbldgaaGreatDoorW.PrintWords Go.Proofs.YtailoobjgbldgaaGreatDoorW.PrintLast Go.Proofs.YtailoobjgbldgaaGreatDoorW.PrintMore
theorem bl {p q : Prop} (h : Aside0 p) (g : p → q := by intro h_; repeat (first | (with_reducible first | exact h_ | apply below_alloc | apply pw_below_drewN | apply below_drew1 | refine below_set ?_ (Aside0.out (by assumption))) | exact h_)) : q := g h.out
theorem bk {p q : Prop} (h : Aside0 p) (g : p → q := by intro h_; (with_reducible repeat (first | refine blk_drewN ?_ _ | refine blk_drew ?_ | refine blk_alloc ?_ _)); exact h_) : q := g h.out
theorem kr {p q : Prop} (h : Aside0 p) (g : p → q := by intro h_; (with_reducible repeat (first | apply Kd.R_alloc | apply Kd.R_drewN | apply Kd.R_drew)); exact h_) : q := g h.out
theorem bo {α β : Type} {o : Option α} {f : α → Option β} {r : β} (h : o.bind f = some r) : ∃ a, Aside0 (o = some a) ∧ f a = some r := by
  obtain ⟨a, h1, h2⟩ := Option.bind_eq_some_iff.mp h
  exact ⟨a, ⟨h1⟩, h2⟩
theorem am {p : Prop} (h : p) : Aside0 p := ⟨h⟩
theorem gb {N : Nat} {w w' W v : World} (hG : Aside0 (Glob v)) (h : Aside0 (Below N w w')) (g : Below N w w' → Below v.heap.size v W := by intro h_; repeat (first | (with_reducible first | exact h_ | apply below_alloc | apply pw_below_drewN | apply below_drew1 | refine below_set ?_ (Aside0.out (by assumption))) | exact h_)) : Glob W := Glob.below hG.out (g h.out)
theorem bs {v w' W W1 : World} (h : Aside0 (Below v.heap.size v w')) (k : Below W.heap.size W W1) (g : Below v.heap.size v w' → Below v.heap.size v W := by intro h_; repeat (first | (with_reducible first | exact h_ | apply below_alloc | apply pw_below_drewN | apply below_drew1 | refine below_set ?_ (Aside0.out (by assumption))) | exact h_)) : Aside0 (Below v.heap.size v W1) := ⟨below_step (g h.out) k⟩
theorem gw {n : Nat} {v w' W : World} (hg : n = W.heap.size) (h : Aside0 (Below v.heap.size v w')) (g : Below v.heap.size v w' → Below v.heap.size v W := by intro h_; repeat (first | (with_reducible first | exact h_ | apply below_alloc | apply pw_below_drewN | apply below_drew1 | refine below_set ?_ (Aside0.out (by assumption))) | exact h_)) : Aside0 (v.heap.size ≤ n) := ⟨by rw [hg]; exact below_size (g h.out)⟩
theorem kb {n : Nat} {o : Obj} {w' W W1 : World} (h : Aside0 (w'.heap[n]? = some o)) (k : Below W.heap.size W W1) (g : w'.heap[n]? = some o → W.heap[n]? = some o := by intro h_; (with_reducible repeat (first | refine blk_drewN ?_ _ | refine blk_drew ?_ | refine blk_alloc ?_ _)); exact h_) : Aside0 (W1.heap[n]? = some o) := ⟨blk_below (g h.out) k⟩
theorem nl {n m : Nat} {o : Obj} {w' W : World} (hg : m = W.heap.size) (h : Aside0 (w'.heap[n]? = some o)) (g : w'.heap[n]? = some o → W.heap[n]? = some o := by intro h_; (with_reducible repeat (first | refine blk_drewN ?_ _ | refine blk_drew ?_ | refine blk_alloc ?_ _)); exact h_) : Aside0 (n ≠ m) := ⟨by rw [hg]; exact Nat.ne_of_lt (blk_lt (g h.out))⟩
theorem ng {n m : Nat} {o : Obj} {w' W : World} (hg : m = W.heap.size) (h : Aside0 (w'.heap[n]? = some o)) (g : w'.heap[n]? = some o → W.heap[n]? = some o := by intro h_; (with_reducible repeat (first | refine blk_drewN ?_ _ | refine blk_drew ?_ | refine blk_alloc ?_ _)); exact h_) : Aside0 (m ≠ n) := ⟨by rw [hg]; exact Nat.ne_of_gt (blk_lt (g h.out))⟩
theorem bc {W : World} {n : Nat} {t : TypeId} {cs : Array Value} (h : Aside0 (W.heap[n]? = some (.cells cs t (0, 0)))) (i : Nat) (v : Value) (e : cs[i]? = some v := by rfl) : W.cell? ⟨n, i, none⟩ = some v := (blk_cell h.out i).trans e
theorem rb {α : Type} {d : Kd α} {e base : Nat} {ok : Nat → Prop} {v : Value} {xs : List α} {w' W W1 : World} (h : Aside0 (d.R e w' base ok v xs)) (k : Below W.heap.size W W1) (g : d.R e w' base ok v xs → d.R e W base ok v xs := by intro h_; (with_reducible repeat (first | apply Kd.R_alloc | apply Kd.R_drewN | apply Kd.R_drew)); exact h_) : Aside0 (d.R e W1 base ok v xs) := ⟨Kd.R_below (g h.out) k⟩
theorem kv {p q : Prop} (h : Aside0 p) (g : p → q := by intro h_; (with_reducible repeat (first | apply Kd.V_alloc | apply Kd.V_drewN | apply Kd.V_drew)); exact h_) : q := g h.out
theorem cr {p q : Prop} (h : Aside0 p) (g : p → q := by intro h_; repeat (first | exact h_ | (with_reducible refine Kd.C_alloc ?_ _) | (with_reducible refine Kd.C_drewN ?_ _) | (with_reducible refine Kd.C_drew ?_))) : q := g h.out
theorem cb {p b q : Prop} (h : Aside0 p) (k : Aside0 b) (g : p → b → q := by intro h_ b_; repeat (first | exact Kd.C_below h_ b_ | (with_reducible refine Kd.C_alloc ?_ _) | (with_reducible refine Kd.C_drewN ?_ _) | (with_reducible refine Kd.C_drew ?_))) : q := g h.out k.out
theorem cv {p q : Prop} (h : Aside0 p) (g : p → q := by intro h_; repeat (first | exact (Kd.V_reads' h_).2.2 | (with_reducible refine Kd.C_alloc ?_ _) | (with_reducible refine Kd.C_drewN ?_ _) | (with_reducible refine Kd.C_drew ?_))) : q := g h.out
theorem cR {p q : Prop} (h : Aside0 p) (g : p → q := by intro h_; repeat (first | exact (Kd.R_reads' h_).2.2 | (with_reducible refine Kd.C_alloc ?_ _) | (with_reducible refine Kd.C_drewN ?_ _) | (with_reducible refine Kd.C_drew ?_))) : q := g h.out
theorem rl {q : Prop} (g : q := by first | rfl | (simp [errW_none, errW_some] <;> rfl) | (simp [*, errW_none, errW_some] <;> rfl)) : q := g
theorem rs {q : Prop} (g : q := by first | rfl | (simp; done) | (simp [*]; done)) : q := g
section
variable {P : Program} {ops : Array Oper} {Q : Exit → Act → World → Prop}
theorem goesM {rest : List Oper} {oi : Oper} {a : Act} {w : World} (N : Option Tmp) {f : FuncId} {fn : Func} {xs : Array Operand} {ts : Array TypeId} (hf : P.funcs[f]? = some fn) (args : Array Value)
    (h : Calls P f args w fun e w' => ∃ v, e = .returned v ∧ wpList P ops Q rest (a.put N v) w') (hd : oi.dst = N := by rfl) (hg : oi.guard = none := by rfl)
    (hop : oi.op = .call { callee := .value (.func f), args := xs, argTypes := ts } := by rfl) (hname : (fn.name == "runtime.NumGoroutine") = false := by kernel_rfl) (hb : fn.body.isSome = true := by rfl)
    (hargs : xs.map a.eval = args := by (try simp only [List.map_toArray, List.map_cons, List.map_nil]); first | done | rfl | (simp only [List.length_drop, List.length_take]; rfl)) : wpList P ops Q (oi :: rest) a w :=
  goesL_ N hd hg hf hname hb args hop hargs h
theorem boxM {rest : List Oper} {o : Oper} {a : Act} {W : World} {N : Tmp} (cs : Array Value) (t : TypeId)
    (h : ∀ g, g = W.heap.size → ∀ w1, w1.heap[g]? = some (.cells cs t (0, 0)) → Below W.heap.size W w1 → wpList P ops Q rest (a.put o.dst (.pointer (some ⟨g, 0, none⟩))) w1)
    (hgd : o.guard = none := by rfl) (hd : o.dst = some N := by rfl)
    (hrun : (execOp a.eval o).run P W = .ok (.value (.pointer (some ⟨W.heap.size, 0, none⟩))) (W.alloc (.cells cs t (0, 0))) := by first | (go_simp; done) | (go_simp; rfl)) : wpList P ops Q (o :: rest) a W :=
  box_event hgd hd hrun h
theorem goesR {oi : Oper} {N : Option Tmp} {a : Act} {w : World} {K : Act → World → Prop} {f : FuncId} {fn : Func} {xs : Array Operand} {ts : Array TypeId} (hf : P.funcs[f]? = some fn) (args : Array Value)
    (h : Calls P f args w fun e w' => ∃ v, e = .returned v ∧ K (a.put N v) w') (hw : Region.wanted oi (yielded ops a.tmps) = true := by rfl) (hN : oi.dst = N := by rfl)
    (hop : oi.op = .call { callee := .value (.func f), args := xs, argTypes := ts } := by rfl) (hname : (fn.name == "runtime.NumGoroutine") = false := by kernel_rfl) (hb : fn.body.isSome = true := by rfl)
    (hargs : xs.map a.eval = args := by (try simp only [List.map_toArray, List.map_cons, List.map_nil]); first | done | rfl | (simp only [List.length_drop, List.length_take]; rfl)) : if Region.wanted oi (yielded ops a.tmps) = true then Oper.wp P oi a w K Q else K (a.put N undef) w :=
  goes_ hf hname hb args hw hN hop hargs h
theorem gc {rest : List Oper} {o : Oper} {a : Act} {W : World} {f : FuncId} {xs : Array Operand} {ts : Array TypeId} (_ho : o.op = .call { callee := .value (.func f), args := xs, argTypes := ts }) (h : wpList P ops Q (o :: rest) a W) : wpList P ops Q (o :: rest) a W := h
theorem gd {rest : List Oper} {o : Oper} {a : Act} {W : World} {N : Tmp} (_hN : o.dst = some N) (h : wpList P ops Q (o :: rest) a W) : wpList P ops Q (o :: rest) a W := h
variable {md : Region.Mode} {S : World → Prop} {ds : List Nat}
theorem purM {i : Nat} {N : Option Tmp} {oi : Oper} {v : Value} {fuel : Nat} {l : Array Bool} {a a' : Act} {w : World} (l' : Array Bool) (h : wpAnyLast P md ops Q S ds fuel l' a' w)
    (hi : ops[i]? = some oi := by rfl) (hN : oi.dst = N := by rfl) (hc : anyB md ops l l' i = true := by exact any_of (Aside0.out (by assumption)) (by kernel_rfl))
    (hQ : ∀ c a w, Q (.panic c) (a.put oi.dst v) w → Q (.panic c) a w := by exact fun _ _ _ h => h) (hy : Yields P ops oi v a := by exact Or.inl ⟨by rfl, by intro w'; go_simp; try with_reducible rfl⟩)
    (ha : a.put N v = a' := by simp only [Act.put, List.setIfInBounds_toArray, List.set_cons_zero, List.set_cons_succ, i64_w, i32_w]; rfl) : wpAnyLast P md ops Q S ds (fuel + 1) l a w :=
  pure_ l' hi hN hc hQ hy ha h
end
theorem Kd.R_makecap {P : Program} {ops : Array Oper} {rest : List Oper} {o : Oper} {a : Act} {Q : Exit → Act → World → Prop} {α : Type} (d : Kd α) {w0 W : World} (base e : Nat) (hgd : o.guard = none) {N : Tmp} (_hd : o.dst = some N) (t : TypeId) (x y : Operand) (ho : o.op = .makeSlice t x y) (n : Int) (hx : a.eval x = .int .i64 0) (hy : a.eval y = .int .i64 n)
    (ht : P.underlying t = some (.slice e)) (z : Value) (bytes : Nat) (hinfo : (P.info? e).map (fun i => (i.zero, i.size, i.bytes)) = some (some z, d.sz, bytes)) (_hz : z.cells.size = d.sz) (_hs0 : 0 < d.sz) (hb0 : 0 < bytes)
    (_z0 : α) {ok okp : Nat → Prop} (_hzero : d.M W base okp _z0 z.cells.toList) (_hok : ∀ k, okp k → ok k) (hfresh : ok W.heap.size) (h0 : 0 ≤ n) (hl : n.toNat * bytes ≤ 281474976710656) (HB : Below base w0 W) (hbase : base ≤ W.heap.size)
    (h : ∀ v1 w1, d.R e w1 base ok v1 ([] : List α) → Below base w0 w1 → W.grownBy w1 none → (∃ b, v1.ownBlock = some b ∧ W.heap.size ≤ b) → wpList P ops Q rest (a.put o.dst v1) w1) : wpList P ops Q (o :: rest) a W := by
  obtain ⟨m, rfl⟩ := Int.eq_ofNat_of_zero_le h0
  simp only [Int.toNat_natCast] at hl
  obtain ⟨i0, hi, hzz⟩ := Option.map_eq_some_iff.1 hinfo
  simp only [Prod.mk.injEq] at hzz
  obtain ⟨hz0, hz1, hz2⟩ := hzz
  have hm : m ≤ 281474976710656 := Nat.le_trans (Nat.le_mul_of_pos_right _ hb0) hl
  have hr := run_make (P := P) W t e i0 z ht hi hz0 .i64 .i64 0 (m : Int) (by omega) (by omega)
    (by
      have h3 : ((i0.bytes * m : Nat) : Int) ≤ 281474976710656 := by rw [hz2, Nat.mul_comm]; omega
      rwa [Int.natCast_mul] at h3) (by omega)
  simp only [Int.toNat_natCast, Int.toNat_zero] at hr
  rw [hz1] at hr
  have hrun : (execOp a.eval o).run P W = .ok (.value (.slice (some ⟨W.heap.size, 0, none⟩) 0 m)) (W.alloc (.cells (madeCells z.cells (m * d.sz)) e)) := by
    simp [execOp, ho, hx, hy, hr]
  refine Kd.event_run hgd hrun (h _ _ ⟨fun k hk => ?_, [], ?_, Reps.none _ _⟩ (HB.alloc hbase _) (World.grownBy_alloc W _ none) ⟨W.heap.size, by simp [Value.ownBlock], Nat.le_refl _⟩)
  · have : W.heap.size = k := by simpa [Value.ownBlock] using hk
    subst this
    exact hfresh
  · have h2 := World.ownsRow_lit (base := base) (e := e) (size := d.sz) W (madeCells z.cells (m * d.sz)) m hbase (by simp [maxLen]; omega) (by simp [size_madeCells])
    have h3 := own_take h2 (Nat.zero_le m)
    simpa using h3
end Go.Proofs.YtailoobjgbldgaaGreatDoor.P
end
