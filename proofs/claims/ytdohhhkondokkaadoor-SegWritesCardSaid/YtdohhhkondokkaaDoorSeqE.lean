/- Small laws: a whole struct stored, blocks of other types stand. No condition. -/
import Derived.Test.YtdohhhkondokkaaDoorSeqD
import Derived.Test.YtdohhhkondokkaaDoorOwnI
import Derived.Laws.AppendOwnNone
namespace Go.Proofs.YtdohhhkondokkaaDoor
open Go.RowKit
set_option linter.unusedSimpArgs false
set_option linter.unusedVariables false
theorem wpList_store_far {P : Program} {ops : Array Oper} {rest : List Oper} {o : Oper} {a : Act} {w1 : World} {Q : Exit → Act → World → Prop} (hgd : o.guard = none) (ty : TypeId) (x y : Operand) (ho : o.op = .store ty x y) (g : Nat) (cells old : Array Value) (t : TypeId)
    (hx : a.eval x = .pointer (some ⟨g, 0, none⟩)) (hy : a.eval y = .agg cells) (hB : Blk w1 g t old) (hi : (P.info? ty).map (·.size) = some cells.size) (hold : old.size = cells.size) (h1 : cells.all (·.oneCell') = true)
    (h : ∀ w2, Blk w2 g t cells → (∀ g' t' cs, g' ≠ g → Blk w1 g' t' cs → Blk w2 g' t' cs) → (∀ B w0, B ≤ g → Below B w0 w1 → Below B w0 w2) → w2.heap.size = w1.heap.size → (∀ g', g' ≠ g → w2.heap[g']? = w1.heap[g']?) → wpList P ops Q rest (a.put o.dst undef) w2) : wpList P ops Q (o :: rest) a w1 :=
  wpList_store_row hgd ty x y ho g cells hx hy t old hB hi hold h1
    (h _ (hB.row cells) (fun _ _ _ hne hb => hb.rowFar hne _) (fun _ _ hB hb => below_row hb hB _) (by simp) (fun g' hne => setRow_other _ _ _ _ hne))
theorem Blk.drewE {w wd : World} {g : Nat} {t : TypeId} {cs : Array Value} (h : Blk w g t cs) (hd : wd = w.drew) : Blk wd g t cs := hd ▸ h.drew
theorem belowD {B : Nat} {a w wd : World} (h : Below B a w) (hd : wd = w.drew) : Below B a wd := hd ▸ h.drew
theorem OwnI.drewE {w wd : World} {b : Nat} {v : Value} {l : List Int} (h : OwnI w b v l) (hd : wd = w.drew) : OwnI wd b v l := hd ▸ h.drew
/-- Every block of another type stands. -/
def KeepT (T : TypeId) (w w' : World) : Prop := ∀ g t cs, t ≠ T → Blk w g t cs → Blk w' g t cs
theorem KeepT.refl (T : TypeId) (w : World) : KeepT T w w := fun _ _ _ _ h => h
theorem KeepT.trans {T : TypeId} {a b c : World} (h : KeepT T a b) (h2 : KeepT T b c) : KeepT T a c := fun g t cs ht hb => h2 g t cs ht (h g t cs ht hb)
theorem KeepT.of_below (T : TypeId) {w w' : World} (h : Below w.heap.size w w') : KeepT T w w' := fun _ _ _ _ hb => hb.bel h
theorem KeepT.of_own {base s n : Nat} {e : TypeId} {v : Value} {xs : List Value} {w w' : World} (hO : w.ownsRow base e s v n xs) (hg : w.grownBy w' v.ownBlock) : KeepT e w w' := fun g t cs ht hB => by
  by_cases e' : some g = v.ownBlock
  · exfalso
    rcases hO.2 with ⟨rfl, _⟩ | ⟨g', cap, cur, rfl, _, hc, _⟩
    · simp [Value.ownBlock] at e'
    · simp [Value.ownBlock] at e'
      subst e'
      unfold Blk at hB
      rw [hB] at hc
      simp at hc
      exact ht hc.2
  · exact (hg.block g hB.lt e').trans hB
theorem OwnI.mono {w : World} {b b' : Nat} {v : Value} {l : List Int} (h : OwnI w b v l) (hb : b' ≤ b) : OwnI w b' v l := by
  refine ⟨h.1, ?_⟩
  rcases h.2 with h0 | ⟨g, cap, cur, e, hg, rest⟩
  · exact Or.inl h0
  · exact Or.inr ⟨g, cap, cur, e, Nat.le_trans hb hg, rest⟩
/-- A row of the call's own stands where all blocks of its type do. -/
theorem ownsRow_keep {base s n : Nat} {e : TypeId} {v : Value} {xs : List Value} {w w' : World} (h : w.ownsRow base e s v n xs) (hk : ∀ g cs, Blk w g e cs → Blk w' g e cs) : w'.ownsRow base e s v n xs := by
  refine ⟨h.1, ?_⟩
  rcases h.2 with h0 | ⟨g, cap, cur, e1, hg, hc, rest⟩
  · exact Or.inl h0
  · exact Or.inr ⟨g, cap, cur, e1, hg, hk g cur hc, rest⟩
theorem OwnI.keep {w w' : World} {base : Nat} {v : Value} {l : List Int} (h : OwnI w base v l) (hk : ∀ g cs, Blk w g 3 cs → Blk w' g 3 cs) : OwnI w' base v l := ownsRow_keep h hk
theorem OwnI.form2 {w : World} {b : Nat} {v : Value} {l : List Int} (h : OwnI w b v l) : ∃ A n c, v = .slice A n c := by obtain ⟨A, c, e, _⟩ := h.form; exact ⟨A, _, c, e⟩
theorem Blk.ne {w : World} {g g' : Nat} {t t' : TypeId} {cs cs' : Array Value} (h : Blk w g t cs) (h' : Blk w g' t' cs') (ht : t ≠ t') : g ≠ g' := fun e => by
  subst e
  unfold Blk at h h'
  rw [h] at h'
  simp at h'
  exact ht h'.2
end Go.Proofs.YtdohhhkondokkaaDoor
