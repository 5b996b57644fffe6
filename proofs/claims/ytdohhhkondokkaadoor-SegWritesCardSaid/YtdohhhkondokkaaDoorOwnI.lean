/- A slice of int of the call's own. No condition. -/
import Derived.Test.YtdohhhkondokkaaDoorBase
import Derived.Laws.AppendOwn
namespace Go.Proofs.YtdohhhkondokkaaDoor
open Go.RowKit
/-- The slice v is the call's own (its block, if it has one, from base on) and holds the list l. -/
def OwnI (w : World) (base : Nat) (v : Value) (l : List Int) : Prop := w.ownsRow base 3 1 v l.length (l.map fun x => Value.int .i64 x)
section
variable {w w' : World} {base : Nat} {v : Value} {l : List Int}
theorem OwnI.nil (w : World) (base : Nat) : OwnI w base (.slice none 0 0) [] := World.ownsRow_nil w base _ 1
theorem OwnI.lt (h : OwnI w base v l) : ∀ k, v.ownBlock = some k → base ≤ k ∧ k < w.heap.size := World.ownsRow.lt h
theorem OwnI.kept {row : Option Nat} (h : OwnI w base v l) (hg : w.grownBy w' row) (hne : v.ownBlock = none ∨ v.ownBlock ≠ row) : OwnI w' base v l := World.ownsRow.kept h hg hne
theorem OwnI.bel (h : OwnI w base v l) (hb : Below w.heap.size w w') : OwnI w' base v l :=
  World.ownsRow.kept (row := none) h ⟨hb.os, hb.tape, hb.output, hb.size, fun i hi _ => hb.block i hi⟩ (by cases hv : v.ownBlock with | none => exact Or.inl rfl | some k => exact Or.inr (by simp))
theorem OwnI.drew (h : OwnI w base v l) : OwnI w.drew base v l := h
theorem OwnI.form (h : OwnI w base v l) : ∃ A c, v = .slice A l.length c ∧ l.length ≤ c := by
  rcases h.2 with ⟨rfl, h0⟩ | ⟨g, cap, cur, rfl, _, _, hc, _⟩
  · exact ⟨none, 0, by rw [h0], by omega⟩
  · exact ⟨_, cap, rfl, hc⟩
theorem OwnI.at_ (h : OwnI w base v l) {j : Nat} (hj : j < l.length) : ∃ g c, v = .slice (some ⟨g, 0, none⟩) l.length c ∧ base ≤ g ∧ w.cell? ⟨g, j, none⟩ = some ((fun x => Value.int .i64 x) l[j]) := by
  have h' := h
  rcases h'.2 with ⟨_, h0⟩ | ⟨g, cap, cur, rfl, hg, _, hc, _⟩
  · omega
  · refine ⟨g, cap, rfl, hg, ?_⟩
    have hcell := World.ownsRow.cells h (g := g) rfl j ((fun x => Value.int .i64 x) l[j]) (by simp [hj])
    have hadd : (⟨g, 0, none⟩ : Addr).add j = ⟨g, j, none⟩ := by unfold Addr.add; split <;> simp_all
    rwa [hadd] at hcell
/-- What a row of the call's own reads as, its address under a letter. -/
def RowI (w : World) (base : Nat) (A : Option Addr) (n : Nat) (f : Nat → Int) : Prop := ∀ j, j < n → ∃ g, A = some ⟨g, 0, none⟩ ∧ base ≤ g ∧ g < w.heap.size ∧ w.cell? ⟨g, j, none⟩ = some ((fun x => Value.int .i64 x) (f j))
theorem RowI.bel {A : Option Addr} {n : Nat} {f : Nat → Int} (h : RowI w base A n f) (hb : Below w.heap.size w w') : RowI w' base A n f := fun j hj => by
  obtain ⟨g, h1, h2, h3, h4⟩ := h j hj
  exact ⟨g, h1, h2, Nat.lt_of_lt_of_le h3 hb.size, (hb.cell (p := ⟨g, j, none⟩) h3).trans h4⟩
theorem OwnI.row (h : OwnI w base v l) (f : Nat → Int) (hf : ∀ j (hj : j < l.length), l[j] = f j) : ∃ A c, v = .slice A l.length c ∧ l.length ≤ c ∧ RowI w base A l.length f := by
  obtain ⟨A, c, rfl, hc⟩ := h.form
  refine ⟨A, c, rfl, hc, fun j hj => ?_⟩
  obtain ⟨g, c', e, hb, hcell⟩ := h.at_ hj
  have hA : A = some ⟨g, 0, none⟩ := by injection e
  subst hA
  refine ⟨g, rfl, hb, (h.lt g rfl).2, ?_⟩
  rw [hcell, hf j hj]
end
end Go.Proofs.YtdohhhkondokkaaDoor
