/- A slice of structs of whole numbers that came in. No condition. -/
import Derived.Test.YtjfnlgmllhjonaaBase
import Derived.SizedLaws
import Derived.Deep.Slices
import Derived.Deep.Fields
import Derived.ChangeArms
import Derived.OpenShut
namespace Go.Proofs.Ytjfnlgmllhjonaa
open Go.RowKit Go.WideShapes Go.ChangeShapes Go.ChangeAt
set_option maxRecDepth 100000
/-- Cells of a slice of structs that came in: element i's field j holds f i j, of kind K j. -/
def InS (w : World) (A : Option Addr) (n q : Nat) (K : Nat → IntKind) (f : Nat → Nat → Int) : Prop := ∀ i, i < n → ∃ b off, A = some ⟨b, off, none⟩ ∧ b < w.heap.size ∧ ∀ j, j < q → w.cell? ⟨b, off + (i * q + j), none⟩ = some (.int (K j) (f i j)) ∧ (Lit.int (K j) (f i j)).wf = true
theorem InS.bel {w w' : World} {A : Option Addr} {n q : Nat} {K : Nat → IntKind} {f : Nat → Nat → Int} (h : InS w A n q K f) (hb : Below w.heap.size w w') : InS w' A n q K f := fun i hi => by
  obtain ⟨b, off, h1, h2, h3⟩ := h i hi
  exact ⟨b, off, h1, Nat.lt_of_lt_of_le h2 hb.size, fun j hj => ⟨(hb.cell (p := ⟨b, off + (i * q + j), none⟩) h2).trans (h3 j hj).1, (h3 j hj).2⟩⟩
theorem pick2 {q : Nat} {R : Nat → Int → Prop} (h : ∀ j, j < q → ∃ x, R j x) : ∃ g : Nat → Int, ∀ j, j < q → R j (g j) := by
  induction q with
  | zero => exact ⟨fun _ => 0, fun j hj => by omega⟩
  | succ q ih =>
    obtain ⟨g, hg⟩ := ih (fun j hj => h j (by omega))
    obtain ⟨x, hx⟩ := h q (by omega)
    refine ⟨fun j => if j = q then x else g j, fun j hj => ?_⟩
    by_cases e : j = q
    · subst e; simpa using hx
    · simpa [e] using hg j (by omega)
theorem pick3 {n : Nat} {R : Nat → (Nat → Int) → Prop} (h : ∀ i, i < n → ∃ g, R i g) : ∃ f : Nat → Nat → Int, ∀ i, i < n → R i (f i) := by
  induction n with
  | zero => exact ⟨fun _ _ => 0, fun j hj => by omega⟩
  | succ n ih =>
    obtain ⟨f, hf⟩ := ih (fun i hi => h i (by omega))
    obtain ⟨g, hg⟩ := h n (by omega)
    refine ⟨fun i => if i = n then g else f i, fun i hi => ?_⟩
    by_cases e : i = n
    · subst e; simpa using hg
    · simpa [e] using hf i (by omega)
theorem openInS {H : Type} {enc : TypeId × Value → H} {W : World} {base : Nat} {t e : TypeId} {fs : Array Field} {v : Value} {d : DataW H} {ps : List MemPlace} (ht : Try.prog.underlying t = some (.slice e)) (he : Try.prog.underlying e = some (.struct fs))
    (ho : Go.Deep.oneCellFields Try.prog fs = true) (hc : Try.prog.cellsOf e = fs.size) (hq : 0 < fs.size) (K : Nat → IntKind) (hK : ∀ (j : Nat) (f : Field), fs[j]? = some f → Try.prog.underlying f.type = some (.int (K j)))
    (hv : Value.okWide Try.prog W .any base t v) (h : DataW.Trod enc Try.prog W 0 (fun _ => true) true t v d ps) :
    ∃ (A : Option Addr) (n c : Nat) (f : Nat → Nat → Int), v = .slice A n c ∧ n ≤ c ∧ InS W A n fs.size K f := by
  obtain ⟨a, len, cap, rfl⟩ := okWide_slice ht hv
  obtain ⟨fuel, hf⟩ := h
  rcases Go.Deep.open_slice ht hf with ⟨hcs, _⟩ | ⟨x, l, c, m, k, D, Pl, hcs, _, hl, _, hm, _, hx⟩
  · simp [Value.cells] at hcs
    obtain ⟨rfl, rfl, rfl⟩ := hcs
    exact ⟨none, 0, 0, fun _ _ => 0, rfl, Nat.le_refl _, fun j hj => by omega⟩
  · simp [Value.cells] at hcs
    obtain ⟨rfl, rfl, rfl⟩ := hcs
    have each : ∀ i, i < len → ∃ g : Nat → Int, ∀ j, j < fs.size → W.cell? (x.add (i * fs.size + j)) = some (.int (K j) (g j)) ∧ (Lit.int (K j) (g j)).wf = true := by
      intro i hi
      obtain ⟨cs', h1, h2⟩ := hx i (by rw [hm]; simp; omega)
      rw [hc] at h1
      obtain ⟨_, hlen, hat⟩ := World.cells?_some h1
      obtain ⟨ys, n', _, _, _, hyl, hfl⟩ := DataW.trod_struct he h2
      refine pick2 (R := fun j y => W.cell? (x.add (i * fs.size + j)) = some (.int (K j) y) ∧ (Lit.int (K j) y).wf = true) fun j hj => ?_
      obtain ⟨f, hfj⟩ : ∃ f, fs[j]? = some f := ⟨fs[j], Array.getElem?_eq_getElem hj⟩
      have h3 := hfl j f hfj
      obtain ⟨o1, o2⟩ := Go.Deep.hone_of ho j f hfj
      have hcj : cs'[j]? = some (cs'[j]'(by omega)) := List.getElem?_eq_getElem (by omega)
      have hyj : ys[j]? = some (ys[j]'(by omega)) := List.getElem?_eq_getElem (by omega)
      have hone : (cs'.drop j).take 1 = [cs'[j]'(by omega)] := by
        rw [List.drop_eq_getElem_cons (by omega)]
        rfl
      rw [o1, o2, hone, hyj] at h3
      obtain ⟨y, hy1, _, hy3⟩ := DataW.trod_int (hK j f hfj) h3
      refine ⟨y, ?_, hy3⟩
      rw [← Go.Deep.add_add, hat j hj, hcj]
      simpa using hy1
    obtain ⟨f, hf2⟩ := pick3 (R := fun i g => ∀ j, j < fs.size → W.cell? (x.add (i * fs.size + j)) = some (.int (K j) (g j)) ∧ (Lit.int (K j) (g j)).wf = true) each
    refine ⟨_, _, _, f, rfl, hl, fun i hi => ?_⟩
    have h0 := (hf2 i hi 0 hq).1
    have hlt := block_lt_of_cell h0
    obtain ⟨b, off, spot⟩ := x
    have hspot : spot = none := by
      have h00 := (hf2 0 (by omega) 0 hq).1
      simpa [Addr.add] using World.cell?_spot h00
    subst hspot
    refine ⟨b, off, rfl, by simpa [Addr.add] using (by rw [Go.WideShapes.add_plain] at hlt; exact hlt), fun j hj => ?_⟩
    have h4 := hf2 i hi j hj
    rw [Go.WideShapes.add_plain] at h4
    exact h4
end Go.Proofs.Ytjfnlgmllhjonaa
