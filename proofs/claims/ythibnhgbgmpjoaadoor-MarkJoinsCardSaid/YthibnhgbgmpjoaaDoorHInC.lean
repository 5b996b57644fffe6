/- A slice of structs that came in, an element's cells by a function. No condition. -/
import Derived.Test.YthibnhgbgmpjoaaDoorHOwnC
import Derived.SizedLaws
import Derived.Deep.Slices
import Derived.Deep.Fields
import Derived.ChangeArms
import Derived.OpenShut
namespace Go.Proofs.YthibnhgbgmpjoaaDoor
open Go.RowKit Go.WideShapes Go.ChangeShapes Go.ChangeAt
set_option linter.unusedSimpArgs false
set_option linter.unusedVariables false
set_option maxRecDepth 100000
theorem pickL {α : Type} {n : Nat} {R : Nat → α → Prop} (h : ∀ i, i < n → ∃ x, R i x) : ∃ l : List α, l.length = n ∧ ∀ i (hi : i < l.length), R i l[i] := by
  induction n with
  | zero => exact ⟨[], rfl, fun i hi => absurd hi (Nat.not_lt_zero i)⟩
  | succ n ih =>
    obtain ⟨l, hl, h1⟩ := ih (fun i hi => h i (by omega))
    obtain ⟨x, hx⟩ := h n (by omega)
    refine ⟨l ++ [x], by simp [hl], fun i hi => ?_⟩
    by_cases e : i < l.length
    · rw [List.getElem_append_left e]; exact h1 i e
    · have : i = l.length := by simp at hi; omega
      subst this
      rw [List.getElem_concat_length rfl, hl]; exact hx
section
variable {H : Type} {enc : TypeId × Value → H} {W : World}
theorem openInC {α : Type} {c : α → List Value} {q : Nat} (hC : CellsOf c q) (good : α → Prop) {base : Nat} {t e : TypeId} {v : Value} {d : DataW H} {ps : List MemPlace} (ht : Tryd.prog.underlying t = some (.slice e)) (hq : Tryd.prog.cellsOf e = q) (hq0 : 0 < q)
    (hel : ∀ (m : Nat) (cs : List Value) (x : DataW H × List MemPlace), DataW.trod enc Tryd.prog W 0 (fun _ => true) true m e cs = some x → ∃ p, cs = c p ∧ good p)
    (hv : Value.okWide Tryd.prog W .any base t v) (h : DataW.Trod enc Tryd.prog W 0 (fun _ => true) true t v d ps) :
    ∃ (A : Option Addr) (cp : Nat) (l : List α), v = .slice A l.length cp ∧ l.length ≤ cp ∧ RdC c q W A l ∧ ∀ p ∈ l, good p := by
  obtain ⟨a, len, cap, rfl⟩ := okWide_slice ht hv
  obtain ⟨fuel, hf⟩ := h
  rcases Go.Deep.open_slice ht hf with ⟨hcs, _⟩ | ⟨x, l, cc, m, k, D, Pl, hcs, _, hl, _, hm, _, hx⟩
  · simp [Value.cells] at hcs
    obtain ⟨rfl, rfl, rfl⟩ := hcs
    exact ⟨none, 0, [], rfl, Nat.le_refl _, fun i hi => absurd hi (Nat.not_lt_zero i), by simp⟩
  · simp [Value.cells] at hcs
    obtain ⟨rfl, rfl, rfl⟩ := hcs
    obtain ⟨L, hL, hR⟩ := pickL (α := α) (n := len) (R := fun i p => good p ∧ ∀ j, j < q → W.cell? (x.add (i * q + j)) = (c p)[j]?) (fun i hi => by
      obtain ⟨cs', h1, h2⟩ := hx i (by rw [hm]; simp; omega)
      rw [hq] at h1
      obtain ⟨_, hlen, hat⟩ := World.cells?_some h1
      obtain ⟨p, rfl, hg⟩ := hel _ _ _ h2
      exact ⟨p, hg, fun j hj => by rw [← Go.Deep.add_add, hat j hj]⟩)
    refine ⟨some x, cap, L, by rw [hL], by omega, fun i hi => ?_, fun p hp => ?_⟩
    · have hone : ∀ i (hi : i < L.length), ∃ u, W.cell? (x.add (i * q + 0)) = some u := fun i hi => by
        rw [(hR i hi).2 0 hq0]
        exact ⟨_, List.getElem?_eq_getElem (by rw [hC.len]; exact hq0)⟩
      obtain ⟨u, hu⟩ := hone i hi
      have hlt := block_lt_of_cell hu
      obtain ⟨b, off, spot⟩ := x
      have hspot : spot = none := by
        obtain ⟨u0, h00⟩ := hone 0 (by omega)
        simpa [Addr.add] using World.cell?_spot h00
      subst hspot
      refine ⟨b, off, rfl, by rw [Go.WideShapes.add_plain] at hlt; exact hlt, fun j hj => ?_⟩
      have h4 := (hR i hi).2 j hj
      rw [Go.WideShapes.add_plain] at h4
      exact h4
    · obtain ⟨i, hi, rfl⟩ := List.getElem_of_mem hp
      exact (hR i hi).1
/-- An array's cells. -/
theorem trod_arrN {t e : TypeId} {n : Nat} {K : IntKind} {fuel base : Nat} {sp : Nat → Bool} {held : Bool} {cs : List Value} {x : DataW H × List MemPlace} (ht : Tryd.prog.underlying t = some (.array n e)) (he : Tryd.prog.underlying e = some (.int K)) (hce : Tryd.prog.cellsOf e = 1) (hct : Tryd.prog.cellsOf t = n)
    (h : DataW.trod enc Tryd.prog W base sp held fuel t cs = some x) : ∃ f : Nat → Int, cs = (arrN K n f).toList ∧ ∀ j, j < n → (Lit.int K (f j)).wf = true := by
  obtain ⟨xs, m, _, _, hl, hxl, hall⟩ := DataW.trod_array ht h
  have hcl : cs.length = n := by rw [hl, hct]
  have H1 : ∀ i, i < n → ∃ z, cs[i]? = some (.int K z) ∧ (Lit.int K z).wf = true := by
    intro i hi
    have h1 := hall i hi
    rw [hce, Nat.mul_one] at h1
    have hx : i < xs.length := by omega
    rw [List.getElem?_eq_getElem hx] at h1
    obtain ⟨z, hz, _, hw⟩ := DataW.trod_int he h1
    refine ⟨z, ?_, hw⟩
    have h0 := congrArg (·[0]?) hz
    simpa using h0
  refine ⟨fun i => match cs[i]? with | some (.int _ z) => z | _ => 0, ?_, ?_⟩
  · apply List.ext_getElem?
    intro j
    by_cases hj : j < n
    · obtain ⟨z, hz, _⟩ := H1 j hj
      have e := arrN_get K (fun i => match cs[i]? with | some (.int _ z) => z | _ => 0) hj
      rw [← Array.getElem?_toList] at e
      rw [e, hz]
    · rw [List.getElem?_eq_none (by omega), List.getElem?_eq_none (by rw [Array.length_toList, arrN_size]; omega)]
  · intro j hj
    obtain ⟨z, hz, hw⟩ := H1 j hj
    dsimp only
    rw [hz]
    exact hw
end
end Go.Proofs.YthibnhgbgmpjoaaDoor
