/- The walk of a writer's Mark. No condition. -/
import Derived.Test.YtaofponadaifiaaWriE
namespace Go.Proofs.Ytaofponadaifiaa
open Go.RowKit
set_option linter.unusedSimpArgs false
set_option linter.unusedVariables false
theorem OwnU.mono {w : World} {b b' : Nat} {v : Value} {l : List Int} (h : OwnU w b v l) (hb : b' ≤ b) : OwnU w b' v l := by
  refine ⟨h.1, ?_⟩
  rcases h.2 with h0 | ⟨g, cap, cur, e, hg, rest⟩
  · exact Or.inl h0
  · exact Or.inr ⟨g, cap, cur, e, Nat.le_trans hb hg, rest⟩
theorem OwnU.form2 {w : World} {b : Nat} {v : Value} {l : List Int} (h : OwnU w b v l) : ∃ A n c, v = .slice A n c := by obtain ⟨A, c, e, _⟩ := h.form; exact ⟨A, _, c, e⟩
/-- append of two elements: the goal's world is that behind the making of the two-element row. -/
theorem appU2 {w : World} {base : Nat} {v : Value} {l : List Int} {ops : Array Oper} {rest : List Oper} {o : Oper} {a : Act} {Q : Exit → Act → World → Prop} (hgd : o.guard = none) (s y : Operand)
    (ho : o.op = .call { callee := .builtin .append, args := #[s, y], argTypes := #[74, 74] }) (x z : Int) (hs : a.eval s = v) (hy : a.eval y = .slice (some ⟨w.heap.size, 0, none⟩) 2 2)
    (hown : OwnU w base v l) (hlen : l.length < 1000000000000) (hbase : base ≤ w.heap.size)
    (h : ∀ v' w', OwnU w' base v' (l ++ [x, z]) → w.grownBy w' v.ownBlock → Below base w w' → wpList Try.prog ops Q rest (a.put o.dst v') w') :
    wpList Try.prog ops Q (o :: rest) a (w.alloc (.cells #[Value.int .u8 x, Value.int .u8 z] 5)) := by
  obtain ⟨i, hi⟩ := Option.isSome_iff_exists.1 (show (Try.prog.info? 5).isSome = true by kernel_rfl)
  have h3 : (Try.prog.info? 5).map (fun i => (i.zero, i.size, i.bytes)) = some (some (Value.int .u8 0), 1, 1) := by kernel_rfl
  rw [hi] at h3
  simp only [Option.map_some, Option.some.injEq, Prod.mk.injEq] at h3
  obtain ⟨hz, hsz, hby⟩ := h3
  refine wpList_append_own (w.alloc (.cells #[Value.int .u8 x, Value.int .u8 z] 5)) hgd s y 74 ho base 5 i (Value.int .u8 0) 1 1 Try.underlying74 hi hz hsz hby rfl (by decide) v l.length (l.map fun x => Value.int .u8 x) hs (World.ownsRow.alloc hown _) ⟨w.heap.size, 0, none⟩ 2 2 [Value.int .u8 x, Value.int .u8 z] hy rfl ?_ ?_ ?_ ?_ ?_ ?_
  · intro j u hj
    have hadd : (⟨w.heap.size, 0, none⟩ : Addr).add j = ⟨w.heap.size, j, none⟩ := by unfold Addr.add; split <;> simp_all
    rw [hadd, (Blk.new w 5 #[Value.int .u8 x, Value.int .u8 z]).cell j]
    simpa using hj
  · intro u hu
    simp only [List.mem_cons, List.not_mem_nil, or_false] at hu
    rcases hu with rfl | rfl <;> rfl
  · simp only [maxLen]; omega
  · omega
  · exact Nat.le_trans hbase (by simp)
  · intro v' w' hown' hg _
    have hg2 : w.grownBy w' v.ownBlock := (World.grownBy_alloc w _ v.ownBlock).trans hg
    exact h v' w' (by unfold OwnU; rw [List.length_append, List.map_append]; exact hown') hg2 ((Below.refl base w).grown hg2 hbase (fun k hk => (hown.lt k hk).1))
theorem lastL_len (l : List Int) (h c : Int) : (lastL l h c).length ≤ l.length + 2 := by
  unfold lastL
  split
  · exact pt_len _ _
  · omega
end Go.Proofs.Ytaofponadaifiaa
