/- Small laws: a whole struct stored, blocks of other types stand. No condition. -/
import Derived.Test.YtjfnlgmllhjonaaSeqD
import Derived.Test.YtjfnlgmllhjonaaOwnI
import Derived.Laws.AppendOwnNone
namespace Go.Proofs.Ytjfnlgmllhjonaa
open Go.RowKit
set_option linter.unusedSimpArgs false
set_option linter.unusedVariables false
theorem wpList_store_far {P : Program} {ops : Array Oper} {rest : List Oper} {o : Oper} {a : Act} {w1 : World} {Q : Exit → Act → World → Prop} (hgd : o.guard = none) (ty : TypeId) (x y : Operand) (ho : o.op = .store ty x y) (g : Nat) (cells old : Array Value) (t : TypeId)
    (hx : a.eval x = .pointer (some ⟨g, 0, none⟩)) (hy : a.eval y = .agg cells) (hB : Blk w1 g t old) (hi : (P.info? ty).map (·.size) = some cells.size) (hold : old.size = cells.size) (h1 : cells.all (·.oneCell') = true)
    (h : ∀ w2, Blk w2 g t cells → (∀ g' t' cs, g' ≠ g → Blk w1 g' t' cs → Blk w2 g' t' cs) → (∀ B w0, B ≤ g → Below B w0 w1 → Below B w0 w2) → w2.heap.size = w1.heap.size → (∀ g', g' ≠ g → w2.heap[g']? = w1.heap[g']?) → wpList P ops Q rest (a.put o.dst undef) w2) : wpList P ops Q (o :: rest) a w1 :=
  wpList_store_row hgd ty x y ho g cells hx hy t old hB hi hold h1
    (h _ (hB.row cells) (fun _ _ _ hne hb => hb.rowFar hne _) (fun _ _ hB hb => below_row hb hB _) (by simp) (fun g' hne => setRow_other _ _ _ _ hne))
theorem Blk.drewE {w wd : World} {g : Nat} {t : TypeId} {cs : Array Value} (h : Blk w g t cs) (hd : wd = w.drew) : Blk wd g t cs := hd ▸ h.drew
theorem belowD {B : Nat} {a w wd : World} (h : Below B a w) (hd : wd = w.drew) : Below B a wd := hd ▸ h.drew
theorem OwnI.drewE {w wd : World} {b : Nat} {v : Value} {l : List Int} (h : OwnI w b v l) (hd : wd = w.drew) : OwnI wd b v l := hd ▸ h.drew
/-- Every block of another type stands. -/
def KeepT (T : TypeId) (w w' : World) : Prop := ∀ g t cs, t ≠ T → Blk w g t cs → Blk w' g t cs
theorem KeepT.refl (T : TypeId) (w : World) : KeepT T w w := fun _ _ _ _ h => h
theorem KeepT.trans {T : TypeId} {a b c : World} (h : KeepT T a b) (h2 : KeepT T b c) : KeepT T a c := fun g t cs ht hb => h2 g t cs ht (h g t cs ht hb)
theorem KeepT.of_below (T : TypeId) {w w' : World} (h : Below w.heap.size w w') : KeepT T w w' := fun _ _ _ _ hb => hb.bel h
theorem KeepT.of_own {base s n : Nat} {e : TypeId} {v : Value} {xs : List Value} {w w' : World} (hO : w.ownsRow base e s v n xs) (hg : w.grownBy w' v.ownBlock) : KeepT e w w' := fun g t cs ht hB => by
  by_cases e' : some g = v.ownBlock
  · exfalso
    rcases hO.2 with ⟨rfl, _⟩ | ⟨g', cap, cur, rfl, _, hc, _⟩
    · simp [Value.ownBlock] at e'
    · simp [Value.ownBlock] at e'
      subst e'
      unfold Blk at hB
      rw [hB] at hc
      simp at hc
      exact ht hc.2
  · exact (hg.block g hB.lt e').trans hB
theorem OwnI.mono {w : World} {b b' : Nat} {v : Value} {l : List Int} (h : OwnI w b v l) (hb : b' ≤ b) : OwnI w b' v l := by
  refine ⟨h.1, ?_⟩
  rcases h.2 with h0 | ⟨g, cap, cur, e, hg, rest⟩
  · exact Or.inl h0
  · exact Or.inr ⟨g, cap, cur, e, Nat.le_trans hb hg, rest⟩
/-- A row of the call's own stands where all blocks of its type do. -/
theorem ownsRow_keep {base s n : Nat} {e : TypeId} {v : Value} {xs : List Value} {w w' : World} (h : w.ownsRow base e s v n xs) (hk : ∀ g cs, Blk w g e cs → Blk w' g e cs) : w'.ownsRow base e s v n xs := by
  refine ⟨h.1, ?_⟩
  rcases h.2 with h0 | ⟨g, cap, cur, e1, hg, hc, rest⟩
  · exact Or.inl h0
  · exact Or.inr ⟨g, cap, cur, e1, hg, hk g cur hc, rest⟩
theorem OwnI.keep {w w' : World} {base : Nat} {v : Value} {l : List Int} (h : OwnI w base v l) (hk : ∀ g cs, Blk w g 3 cs → Blk w' g 3 cs) : OwnI w' base v l := ownsRow_keep h hk
theorem OwnI.form2 {w : World} {b : Nat} {v : Value} {l : List Int} (h : OwnI w b v l) : ∃ A n c, v = .slice A n c := by obtain ⟨A, c, e, _⟩ := h.form; exact ⟨A, _, c, e⟩
theorem Blk.ne {w : World} {g g' : Nat} {t t' : TypeId} {cs cs' : Array Value} (h : Blk w g t cs) (h' : Blk w g' t' cs') (ht : t ≠ t') : g ≠ g' := fun e => by
  subst e
  unfold Blk at h h'
  rw [h] at h'
  simp at h'
  exact ht h'.2
/-- append of another row of the call's own. -/
theorem appIL {w : World} {base b2 : Nat} {v y0 : Value} {l m : List Int} {ops : Array Oper} {rest : List Oper} {o : Oper} {a : Act} {Q : Exit → Act → World → Prop} (hgd : o.guard = none) (s y : Operand)
    (ho : o.op = .call { callee := .builtin .append, args := #[s, y], argTypes := #[45, 45] }) (hs : a.eval s = v) (hy : a.eval y = y0)
    (hown : OwnI w base v l) (hsrc : OwnI w b2 y0 m) (hlen : l.length + m.length < 1000000000) (hbase : base ≤ w.heap.size)
    (h : ∀ v' w', OwnI w' base v' (l ++ m) → KeepT 3 w w' → w.grownBy w' v.ownBlock → Below base w w' → wpList Try.prog ops Q rest (a.put o.dst v') w') :
    wpList Try.prog ops Q (o :: rest) a w := by
  obtain ⟨i, hi⟩ := Option.isSome_iff_exists.1 (show (Try.prog.info? 3).isSome = true by kernel_rfl)
  have h3 : (Try.prog.info? 3).map (fun i => (i.zero, i.size, i.bytes)) = some (some (Value.int .i64 0), 1, 8) := by kernel_rfl
  rw [hi] at h3
  simp only [Option.map_some, Option.some.injEq, Prod.mk.injEq] at h3
  obtain ⟨hz, hsz, hby⟩ := h3
  have hsrc' := hsrc
  rcases hsrc.2 with ⟨rfl, h0⟩ | ⟨g, cap, cur, rfl, _, _, hcap, _⟩
  · obtain rfl : m = [] := List.eq_nil_of_length_eq_zero h0
    refine wpList_append_own_none hgd s y 45 ho base 3 i 1 Try.underlying45 hi v l.length (l.map fun x => Value.int .i64 x) hs hown hy ?_
    exact h v w (by rw [List.append_nil]; exact hown) (KeepT.refl _ _) (World.grownBy.refl w _) (Below.refl _ _)
  · refine wpList_append_own w hgd s y 45 ho base 3 i (Value.int .i64 0) 1 8 Try.underlying45 hi hz hsz hby rfl (by decide) v l.length (l.map fun x => Value.int .i64 x) hs hown ⟨g, 0, none⟩ m.length cap (m.map fun x => Value.int .i64 x) hy (by simp) ?_ ?_ ?_ ?_ hbase ?_
    · intro j u hj
      exact World.ownsRow.cells hsrc' rfl j u hj
    · intro u hu
      obtain ⟨x, _, rfl⟩ := List.mem_map.1 hu
      rfl
    · simp only [maxLen]; omega
    · omega
    · intro v' w' hown' hg _
      exact h v' w' (by unfold OwnI; rw [List.length_append, List.map_append]; exact hown') (KeepT.of_own hown hg) hg ((Below.refl base w).grown hg hbase (fun k hk => (hown.lt k hk).1))
end Go.Proofs.Ytjfnlgmllhjonaa
