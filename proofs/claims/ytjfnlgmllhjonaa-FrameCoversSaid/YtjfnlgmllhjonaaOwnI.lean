/- A slice of int of the call's own. No condition. -/
import Derived.Test.YtjfnlgmllhjonaaBase
import Derived.Laws.AppendOwn
namespace Go.Proofs.Ytjfnlgmllhjonaa
open Go.RowKit
/-- The slice v is the call's own (its block, if it has one, from base on) and holds the list l. -/
def OwnI (w : World) (base : Nat) (v : Value) (l : List Int) : Prop := w.ownsRow base 3 1 v l.length (l.map fun x => Value.int .i64 x)
section
variable {w w' : World} {base : Nat} {v : Value} {l : List Int}
theorem OwnI.nil (w : World) (base : Nat) : OwnI w base (.slice none 0 0) [] := World.ownsRow_nil w base _ 1
theorem OwnI.lt (h : OwnI w base v l) : ∀ k, v.ownBlock = some k → base ≤ k ∧ k < w.heap.size := World.ownsRow.lt h
theorem OwnI.kept {row : Option Nat} (h : OwnI w base v l) (hg : w.grownBy w' row) (hne : v.ownBlock = none ∨ v.ownBlock ≠ row) : OwnI w' base v l := World.ownsRow.kept h hg hne
theorem OwnI.bel (h : OwnI w base v l) (hb : Below w.heap.size w w') : OwnI w' base v l :=
  World.ownsRow.kept (row := none) h ⟨hb.os, hb.tape, hb.output, hb.size, fun i hi _ => hb.block i hi⟩ (by cases hv : v.ownBlock with | none => exact Or.inl rfl | some k => exact Or.inr (by simp))
theorem OwnI.drew (h : OwnI w base v l) : OwnI w.drew base v l := h
theorem OwnI.form (h : OwnI w base v l) : ∃ A c, v = .slice A l.length c ∧ l.length ≤ c := by
  rcases h.2 with ⟨rfl, h0⟩ | ⟨g, cap, cur, rfl, _, _, hc, _⟩
  · exact ⟨none, 0, by rw [h0], by omega⟩
  · exact ⟨_, cap, rfl, hc⟩
theorem OwnI.at_ (h : OwnI w base v l) {j : Nat} (hj : j < l.length) : ∃ g c, v = .slice (some ⟨g, 0, none⟩) l.length c ∧ base ≤ g ∧ w.cell? ⟨g, j, none⟩ = some ((fun x => Value.int .i64 x) l[j]) := by
  have h' := h
  rcases h'.2 with ⟨_, h0⟩ | ⟨g, cap, cur, rfl, hg, _, hc, _⟩
  · omega
  · refine ⟨g, cap, rfl, hg, ?_⟩
    have hcell := World.ownsRow.cells h (g := g) rfl j ((fun x => Value.int .i64 x) l[j]) (by simp [hj])
    have hadd : (⟨g, 0, none⟩ : Addr).add j = ⟨g, j, none⟩ := by unfold Addr.add; split <;> simp_all
    rwa [hadd] at hcell
/-- What a row of the call's own reads as, its address under a letter. -/
def RowI (w : World) (base : Nat) (A : Option Addr) (n : Nat) (f : Nat → Int) : Prop := ∀ j, j < n → ∃ g, A = some ⟨g, 0, none⟩ ∧ base ≤ g ∧ g < w.heap.size ∧ w.cell? ⟨g, j, none⟩ = some ((fun x => Value.int .i64 x) (f j))
theorem RowI.bel {A : Option Addr} {n : Nat} {f : Nat → Int} (h : RowI w base A n f) (hb : Below w.heap.size w w') : RowI w' base A n f := fun j hj => by
  obtain ⟨g, h1, h2, h3, h4⟩ := h j hj
  exact ⟨g, h1, h2, Nat.lt_of_lt_of_le h3 hb.size, (hb.cell (p := ⟨g, j, none⟩) h3).trans h4⟩
theorem OwnI.row (h : OwnI w base v l) (f : Nat → Int) (hf : ∀ j (hj : j < l.length), l[j] = f j) : ∃ A c, v = .slice A l.length c ∧ l.length ≤ c ∧ RowI w base A l.length f := by
  obtain ⟨A, c, rfl, hc⟩ := h.form
  refine ⟨A, c, rfl, hc, fun j hj => ?_⟩
  obtain ⟨g, c', e, hb, hcell⟩ := h.at_ hj
  have hA : A = some ⟨g, 0, none⟩ := by injection e
  subst hA
  refine ⟨g, rfl, hb, (h.lt g rfl).2, ?_⟩
  rw [hcell, hf j hj]
/-- append of one element: the goal's world is that behind the making of the one-element row. -/
theorem appI {ops : Array Oper} {rest : List Oper} {o : Oper} {a : Act} {Q : Exit → Act → World → Prop} (hgd : o.guard = none) (s y : Operand)
    (ho : o.op = .call { callee := .builtin .append, args := #[s, y], argTypes := #[45, 45] }) (x : Int) (hs : a.eval s = v) (hy : a.eval y = .slice (some ⟨w.heap.size, 0, none⟩) 1 1)
    (hown : OwnI w base v l) (hlen : l.length < 1000000000000) (hbase : base ≤ w.heap.size)
    (h : ∀ v' w', OwnI w' base v' (l ++ [x]) → w.grownBy w' v.ownBlock → Below base w w' → wpList Try.prog ops Q rest (a.put o.dst v') w') :
    wpList Try.prog ops Q (o :: rest) a (w.alloc (.cells #[Value.int .i64 x] 3)) := by
  obtain ⟨i, hi⟩ := Option.isSome_iff_exists.1 (show (Try.prog.info? 3).isSome = true by kernel_rfl)
  have h3 : (Try.prog.info? 3).map (fun i => (i.zero, i.size, i.bytes)) = some (some (Value.int .i64 0), 1, 8) := by kernel_rfl
  rw [hi] at h3
  simp only [Option.map_some, Option.some.injEq, Prod.mk.injEq] at h3
  obtain ⟨hz, hsz, hby⟩ := h3
  refine wpList_append_own (w.alloc (.cells #[Value.int .i64 x] 3)) hgd s y 45 ho base 3 i (Value.int .i64 0) 1 8 Try.underlying45 hi hz hsz hby rfl (by decide) v l.length (l.map fun x => Value.int .i64 x) hs (World.ownsRow.alloc hown _) ⟨w.heap.size, 0, none⟩ 1 1 [Value.int .i64 x] hy rfl ?_ ?_ ?_ ?_ ?_ ?_
  · intro j u hj
    cases j with
    | zero =>
      simp only [List.getElem?_cons_zero, Option.some.injEq] at hj
      subst hj
      have hadd : (⟨w.heap.size, 0, none⟩ : Addr).add 0 = ⟨w.heap.size, 0, none⟩ := by unfold Addr.add; simp
      rw [hadd]
      exact (Blk.new w 3 #[Value.int .i64 x]).cell 0
    | succ j => simp at hj
  · intro u hu
    simp only [List.mem_singleton] at hu
    subst hu; rfl
  · simp only [maxLen]; omega
  · omega
  · exact Nat.le_trans hbase (by simp)
  · intro v' w' hown' hg _
    have hg2 : w.grownBy w' v.ownBlock := (World.grownBy_alloc w _ v.ownBlock).trans hg
    exact h v' w' (by unfold OwnI; rw [List.length_append, List.map_append]; exact hown') hg2 ((Below.refl base w).grown hg2 hbase (fun k hk => (hown.lt k hk).1))
end
end Go.Proofs.Ytjfnlgmllhjonaa
