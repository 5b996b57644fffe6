/- A slice of int that came in. No condition. -/
import Derived.Test.YtjfnlgmllhjonaaBase
import Derived.SizedLaws
namespace Go.Proofs.Ytjfnlgmllhjonaa
open Go.RowKit Go.WideShapes Go.ChangeShapes Go.ChangeAt
set_option maxRecDepth 100000
/-- Cells of a slice that came in. -/
def InI (w : World) (A : Option Addr) (n : Nat) (f : Nat → Int) : Prop := ∀ j, j < n → ∃ b off, A = some ⟨b, off, none⟩ ∧ b < w.heap.size ∧ w.cell? ⟨b, off + j, none⟩ = some (.int .i64 (f j)) ∧ (Lit.int .i64 (f j)).wf = true
theorem InI.bel {w w' : World} {A : Option Addr} {n : Nat} {f : Nat → Int} (h : InI w A n f) (hb : Below w.heap.size w w') : InI w' A n f := fun j hj => by
  obtain ⟨b, off, h1, h2, h3, h4⟩ := h j hj
  exact ⟨b, off, h1, Nat.lt_of_lt_of_le h2 hb.size, (hb.cell (p := ⟨b, off + j, none⟩) h2).trans h3, h4⟩
theorem openInI {H : Type} {enc : TypeId × Value → H} {W : World} {base : Nat} {v : Value} {d : DataW H} {ps : List MemPlace} (hv : Value.okWide Try.prog W .any base 45 v) (h : DataW.Trod enc Try.prog W 0 (fun _ => true) true 45 v d ps) :
    ∃ (A : Option Addr) (n c : Nat) (f : Nat → Int), v = .slice A n c ∧ n ≤ c ∧ InI W A n f := by
  obtain ⟨a, len, cap, rfl⟩ := okWide_slice Try.underlying45 hv
  have k0 := h
  obtain ⟨fuel, hf⟩ := h
  rcases open_ints Try.underlying45 Try.underlying3 (by kernel_rfl) hf with ⟨hcs, _⟩ | ⟨x, l, c, zs, hcs, _, hl, hm, hz, _, hcell, hwz⟩
  · simp [Value.cells] at hcs
    obtain ⟨rfl, rfl, rfl⟩ := hcs
    exact ⟨none, 0, 0, fun _ => 0, rfl, Nat.le_refl _, fun j hj => by omega⟩
  · simp [Value.cells] at hcs
    obtain ⟨rfl, rfl, rfl⟩ := hcs
    refine ⟨_, _, _, fun j => zs.getD j 0, rfl, hl, fun j hj => ?_⟩
    have hzl : zs.length = cap := by simpa using hz
    obtain ⟨b, off, rfl, hc⟩ := ints_at hcell (by omega)
    have h3 := hc j (by omega)
    refine ⟨b, off, rfl, block_lt_of_cell h3, h3, ?_⟩
    have hj2 : j < zs.length := by omega
    have : zs.getD j 0 = zs[j] := by simp [List.getD_eq_getElem?_getD, hj2]
    show (Lit.int .i64 (zs.getD j 0)).wf = true
    rw [this]
    exact hwz _ (List.getElem_mem hj2)
end Go.Proofs.Ytjfnlgmllhjonaa
