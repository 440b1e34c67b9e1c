/- Part 10 of the proof: functions' contracts and what they lean on. -/
import Derived.Test.YtailoobjgbldgaaGreatDoorC9
import Derived.ChangeArms
import Derived.ChangeSame
import Derived.DataElems
import Derived.OpenShut
import Derived.ProofKit
import Derived.ShutString
section
namespace Go.Proofs.YtailoobjgbldgaaGreatDoor.P
open Go Go.ChangeShapes Go.WideShapes Go.RowKit Go.Proofs.YtailoobjgbldgaaGreatDoorW.PrintWords Go.Proofs.YtailoobjgbldgaaGreatDoorW.PrintLast Go.Proofs.YtailoobjgbldgaaGreatDoorW.PrintMore
set_option linter.unusedVariables false
set_option linter.unusedSimpArgs false
theorem two_of {α : Type} {l : List α} (h : l.length = 2) : ∃ a b, l = [a, b] := by
  match l, h with
  | [a, b], _ => exact ⟨a, b, rfl⟩
theorem cell_same {W W' : World} {a : Addr} {u : Value} (h : ∀ k, k < W.heap.size → W'.heap[k]? = W.heap[k]?) (hc : W.cell? a = some u) : W'.cell? a = some u := by
  have hb : a.block < W.heap.size := World.block_lt_of_cell? W _ hc
  unfold World.cell? at hc ⊢
  rw [h _ hb]
  exact hc
theorem V_of_C {W : World} {A : Option Addr} {xs : List S30} {c : Nat} (hc : xs.length ≤ c) (h : Kd.C k30 W A xs.length xs) : Kd.V k30 30 W W.heap.size (fun _ => True) (.slice A xs.length c) xs := by
  refine ⟨A, c, rfl, hc, fun W' hW => ⟨h.1, h.2.1, fun hn => ?_⟩⟩
  obtain ⟨ad, e, hr⟩ := h.2.2 hn
  refine ⟨ad, e, fun j p hj => ?_⟩
  obtain ⟨cs, h1, h2, h3⟩ := hr j p hj
  obtain rfl := k30_open h2
  exact ⟨_, h1, k30_mk W' p, fun i u hu => cell_same (fun k hk => hW k trivial hk) (h3 i u hu)⟩
section
variable {H : Type} {enc : TypeId × Value → H} {w : World} {spare : Nat → Bool} {held : Bool}
theorem struct_of_trod {fuel : Nat} {cs : List Value} {x : DataW H × List MemPlace} (h : DataW.trod enc Tryz.prog w 0 spare held fuel 30 cs = some x) : ∃ p : S30, cs = [.string p.f0, .string p.f1] := by
  obtain ⟨y0, y1, n, rfl, hl, h0, h1⟩ := trod_struct2 (enc := enc) Tryz.underlying30 h
  obtain ⟨s0, e0, _⟩ := DataW.trod_string Tryz.underlying28 h0
  obtain ⟨s1, e1, _⟩ := DataW.trod_string Tryz.underlying28 h1
  have c1 : Tryz.prog.cellsOf 28 = 1 := by kernel_rfl
  have c2 : Tryz.prog.cellsOf 30 = 2 := by kernel_rfl
  rw [c2] at hl
  obtain ⟨a, b, rfl⟩ := two_of hl
  · have e0' : ([a, b].drop 0).take (Tryz.prog.cellsOf 28) = [.string s0] := e0
    have e1' : ([a, b].drop 1).take (Tryz.prog.cellsOf 28) = [.string s1] := e1
    rw [c1] at e0' e1'
    simp at e0' e1'
    obtain rfl := e0'
    obtain rfl := e1'
    exact ⟨⟨s0, s1⟩, rfl⟩
theorem open_pairs {t : TypeId} {fuel : Nat} {a : Option Addr} {len cap : Nat} {x : DataW H × List MemPlace} (ht : Tryz.prog.underlying t = some (.slice 30)) (h : DataW.trod enc Tryz.prog w 0 spare held fuel t [.slice a len cap] = some x) :
    ∃ xs : List S30, xs.length = len ∧ len ≤ cap ∧ Kd.C k30 w a len xs := by
  have c2 : Tryz.prog.cellsOf 30 = 2 := by kernel_rfl
  rcases DataW.trod_slice ht h with ⟨h0, _⟩ | ⟨ad, l, c, elems, rest, n, _, hv, _, _, hl, hm, hlen, hel, _, _⟩
  · simp at h0
    obtain ⟨rfl, rfl, rfl⟩ := h0
    exact ⟨[], rfl, Nat.le_refl _, rfl, by decide, fun h => by omega⟩
  · simp at hv
    obtain ⟨rfl, rfl, rfl⟩ := hv
    have each : ∀ i, i < len → ∃ p : S30, w.cells? 0 (ad.add (i * 2)) 2 = some [.string p.f0, .string p.f1] := fun i hi => by
      have := hel i hi
      rw [List.getElem?_eq_getElem (by omega), Option.bind_eq_some_iff, c2] at this
      obtain ⟨cs, h1, h2⟩ := this
      obtain ⟨p, rfl⟩ := struct_of_trod h2
      exact ⟨p, h1⟩
    refine ⟨(List.range len).map fun i => if hi : i < len then Classical.choose (each i hi) else z30, by simp, hl, by simp, ?_, fun hn => ⟨ad, rfl, fun j p hj => ?_⟩⟩
    · have : maxLen = 9223372036854775807 := rfl
      omega
    · obtain ⟨hj1, hj2⟩ := List.getElem?_eq_some_iff.1 hj
      simp only [List.length_map, List.length_range] at hj1
      simp only [List.getElem_map, List.getElem_range, dif_pos hj1] at hj2
      have hs := Classical.choose_spec (each j hj1)
      rw [hj2] at hs
      refine ⟨_, rfl, k30_mk w p, fun i u hu => ?_⟩
      have h3 := (World.cells?_some hs).2.2
      have hi2 : i < 2 := by
        have := (List.getElem?_eq_some_iff.1 hu).1
        simpa using this
      have h4 := h3 i (by simpa using hi2)
      rw [hu] at h4
      rw [show k30.sz = 2 from rfl, ← Addr.add_add]
      exact h4
end
end Go.Proofs.YtailoobjgbldgaaGreatDoor.P
end
