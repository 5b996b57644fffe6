/- Slices of structs of the call's own, an element's cells by a function. No condition. -/
import Derived.Test.YtjfnlgmllhjonaaSeqE
namespace Go.Proofs.Ytjfnlgmllhjonaa
open Go.RowKit
set_option linter.unusedSimpArgs false
set_option linter.unusedVariables false
/-- An element's cells: q of them, each one cell. -/
structure CellsOf {α : Type} (c : α → List Value) (q : Nat) : Prop where
  len : ∀ x, (c x).length = q
  one : ∀ x, ∀ u ∈ c x, u.oneCell' = true
def flatC {α : Type} (c : α → List Value) (l : List α) : List Value := (l.map c).flatten
section
variable {α : Type} {c : α → List Value} {q : Nat}
theorem flatC_snoc (l : List α) (x : α) : flatC c (l ++ [x]) = flatC c l ++ c x := by simp [flatC]
theorem flatC_len (h : CellsOf c q) (l : List α) : (flatC c l).length = l.length * q := by
  induction l with
  | nil => simp [flatC]
  | cons x l ih => simp only [flatC, List.map_cons, List.flatten_cons, List.length_append, List.length_cons] at *; rw [ih, h.len, Nat.succ_mul]; omega
theorem flatC_get (h : CellsOf c q) (l : List α) (i j : Nat) (hi : i < l.length) (hj : j < q) : (flatC c l)[i * q + j]? = (c l[i])[j]? := by
  induction l generalizing i with
  | nil => simp at hi
  | cons x l ih =>
    have e : flatC c (x :: l) = c x ++ flatC c l := by simp [flatC]
    rw [e]
    cases i with
    | zero => rw [List.getElem?_append_left (by rw [h.len]; omega)]; simp
    | succ i =>
      rw [List.getElem?_append_right (by rw [h.len, Nat.succ_mul]; omega), h.len]
      have e2 : (i + 1) * q + j - q = i * q + j := by rw [Nat.succ_mul]; omega
      rw [e2, ih i (by simpa using hi)]
      simp
theorem flatC_one (h : CellsOf c q) (l : List α) : ∀ u ∈ flatC c l, u.oneCell' = true := by
  intro u hu
  simp only [flatC, List.mem_flatten, List.mem_map] at hu
  obtain ⟨_, ⟨x, _, rfl⟩, hu⟩ := hu
  exact h.one x u hu
end
/-- A slice of structs of the call's own: the list l. -/
def OwnC {α : Type} (c : α → List Value) (q : Nat) (w : World) (base : Nat) (e : TypeId) (v : Value) (l : List α) : Prop := w.ownsRow base e q v l.length (flatC c l)
section
variable {α : Type} {c : α → List Value} {q : Nat} {w w' wd : World} {base b' : Nat} {e : TypeId} {v : Value} {l : List α}
theorem OwnC.nil (w : World) (base : Nat) (e : TypeId) : OwnC c q w base e (.slice none 0 0) [] := World.ownsRow_nil w base e q
theorem OwnC.keep (h : OwnC c q w base e v l) (hk : ∀ g cs, Blk w g e cs → Blk w' g e cs) : OwnC c q w' base e v l := ownsRow_keep h hk
theorem OwnC.bel (h : OwnC c q w base e v l) (hb : Below w.heap.size w w') : OwnC c q w' base e v l := h.keep fun g cs hB => hB.bel hb
theorem OwnC.drewE (h : OwnC c q w base e v l) (hd : wd = w.drew) : OwnC c q wd base e v l := hd ▸ h.keep fun g cs hB => hB
theorem OwnC.drew (h : OwnC c q w base e v l) : OwnC c q w.drew base e v l := h.keep fun g cs hB => hB
theorem OwnC.mono (h : OwnC c q w base e v l) (hb : b' ≤ base) : OwnC c q w b' e v l := by
  refine ⟨h.1, ?_⟩
  rcases h.2 with h0 | ⟨g, cap, cur, e1, hg, rest⟩
  · exact Or.inl h0
  · exact Or.inr ⟨g, cap, cur, e1, Nat.le_trans hb hg, rest⟩
/-- Element i of the slice at A has the cells of l[i]. -/
def RdC (c : α → List Value) (q : Nat) (w : World) (A : Option Addr) (l : List α) : Prop := ∀ i (hi : i < l.length), ∃ g off, A = some ⟨g, off, none⟩ ∧ g < w.heap.size ∧ ∀ j, j < q → w.cell? ⟨g, off + (i * q + j), none⟩ = (c l[i])[j]?
theorem RdC.bel {A : Option Addr} (h : RdC c q w A l) (hb : Below w.heap.size w w') : RdC c q w' A l := fun i hi => by
  obtain ⟨g, off, h1, h2, h3⟩ := h i hi
  exact ⟨g, off, h1, Nat.lt_of_lt_of_le h2 hb.size, fun j hj => (hb.cell (p := ⟨g, off + (i * q + j), none⟩) h2).trans (h3 j hj)⟩
theorem RdC.drewE {A : Option Addr} (h : RdC c q w A l) (hd : wd = w.drew) : RdC c q wd A l := hd ▸ h
theorem OwnC.form (h : OwnC c q w base e v l) : ∃ A cp, v = .slice A l.length cp ∧ l.length ≤ cp := by
  rcases h.2 with ⟨rfl, h0⟩ | ⟨g, cap, cur, rfl, hg, hc, hcap, _⟩
  · exact ⟨none, 0, by rw [h0], by omega⟩
  · exact ⟨_, cap, rfl, hcap⟩
theorem OwnC.form2 (h : OwnC c q w base e v l) : ∃ A n cp, v = .slice A n cp := by obtain ⟨A, cp, e, _⟩ := h.form; exact ⟨A, _, cp, e⟩
theorem OwnC.rd (hC : CellsOf c q) {A : Option Addr} {n cp : Nat} (h : OwnC c q w base e (.slice A n cp) l) : RdC c q w A l := fun i hi => by
  have h' := h
  rcases h'.2 with ⟨h1, h0⟩ | ⟨g, cap, cur, h1, hg, hc, hcap, _⟩
  · omega
  · injection h1 with hA _ _
    subst hA
    refine ⟨g, 0, rfl, (World.ownsRow.lt h g rfl).2, fun j hj => ?_⟩
    have hlt : j < (c l[i]).length := by rw [hC.len]; exact hj
    have hcell := World.ownsRow.cells h (g := g) rfl (i * q + j) _ ((flatC_get hC l i j hi hj).trans (List.getElem?_eq_getElem hlt))
    have hadd : (⟨g, 0, none⟩ : Addr).add (i * q + j) = ⟨g, i * q + j, none⟩ := by unfold Addr.add; split <;> simp_all
    rw [hadd] at hcell
    rw [Nat.zero_add, hcell, List.getElem?_eq_getElem hlt]
/-- Element i of the call's own slice. -/
theorem OwnC.at_ (hC : CellsOf c q) {A : Option Addr} {n cp : Nat} (h : OwnC c q w base e (.slice A n cp) l) {i : Nat} (hi : i < l.length) : ∃ g, A = some ⟨g, 0, none⟩ ∧ base ≤ g ∧ g < w.heap.size ∧ ∀ j, j < q → w.cell? ⟨g, i * q + j, none⟩ = (c l[i])[j]? := by
  have h' := h
  rcases h'.2 with ⟨h1, h0⟩ | ⟨g, cap, cur, h1, hg, hc, hcap, _⟩
  · omega
  · injection h1 with hA _ _
    subst hA
    obtain ⟨g', off, e1, e2, e3⟩ := h.rd hC i hi
    injection e1 with e1; injection e1 with e1 e4; subst e1; subst e4
    exact ⟨g, rfl, hg, e2, fun j hj => by have := e3 j hj; rwa [Nat.zero_add] at this⟩
theorem OwnC.lt (h : OwnC c q w base e v l) : ∀ k, v.ownBlock = some k → base ≤ k ∧ k < w.heap.size := World.ownsRow.lt h
theorem OwnC.set (h : OwnC c q w base e v l) {p : Addr} (hp : v.ownBlock ≠ some p.block) (u : Value) : OwnC c q (w.setCell p u) base e v l := by
  refine ⟨h.1, ?_⟩
  rcases h.2 with h0 | ⟨g, cap, cur, rfl, hg, hc, rest⟩
  · exact Or.inl h0
  · refine Or.inr ⟨g, cap, cur, rfl, hg, ?_, rest⟩
    have hne : g ≠ p.block := fun e => hp (by rw [e]; rfl)
    exact (Below.heap_setCell w p u g hne).trans hc
theorem OwnC.neT {g : Nat} {t : TypeId} {cs : Array Value} (h : OwnC c q w base e v l) (hB : Blk w g t cs) (ht : t ≠ e) : v.ownBlock ≠ some g := fun e' => by
  rcases h.2 with ⟨rfl, _⟩ | ⟨g', cap, cur, rfl, _, hc, _⟩
  · simp [Value.ownBlock] at e'
  · simp [Value.ownBlock] at e'
    subst e'
    unfold Blk at hB
    rw [hB] at hc
    simp at hc
    exact ht hc.2
theorem OwnC.ne {g : Nat} (h : OwnC c q w base e v l) (hg : w.heap.size ≤ g) : v.ownBlock ≠ some g := fun e' => by have := (h.lt g e').2; omega
/-- append of one: the goal's world is that behind the making of the one-element row. -/
theorem appC {by_ : Nat} {sl : TypeId} {cs : Array Value} {ops : Array Oper} {rest : List Oper} {o : Oper} {a : Act} {Q : Exit → Act → World → Prop} (x : α) (hC : CellsOf c q)
    (hsl : Try.prog.underlying sl = some (.slice e)) (hinf : (Try.prog.info? e).map (fun i => (i.zero.map fun z => z.cells.size, i.size, i.bytes)) = some (some q, q, by_)) (hq : 0 < q) (hby : by_ ≤ 1000)
    (hgd : o.guard = none) (s y : Operand) (ho : o.op = .call { callee := .builtin .append, args := #[s, y], argTypes := #[sl, sl] }) (hs : a.eval s = v) (hy : a.eval y = .slice (some ⟨w.heap.size, 0, none⟩) 1 1)
    (hcs : cs.toList = c x) (hown : OwnC c q w base e v l) (hlen : l.length < 1000000000) (hbase : base ≤ w.heap.size)
    (h : ∀ v' w', OwnC c q w' base e v' (l ++ [x]) → KeepT e w w' → Below base w w' → wpList Try.prog ops Q rest (a.put o.dst v') w') :
    wpList Try.prog ops Q (o :: rest) a (w.alloc (.cells cs e)) := by
  have hcz : cs.size = q := by rw [← Array.length_toList, hcs, hC.len]
  obtain ⟨i, hi⟩ := Option.isSome_iff_exists.1 (show (Try.prog.info? e).isSome = true by cases hq' : Try.prog.info? e with | none => rw [hq'] at hinf; cases hinf | some _ => rfl)
  rw [hi] at hinf
  simp only [Option.map_some, Option.some.injEq, Prod.mk.injEq] at hinf
  obtain ⟨hz, hsz, hb⟩ := hinf
  obtain ⟨z, hz, hzs⟩ := Option.map_eq_some_iff.1 hz
  refine wpList_append_own (w.alloc (.cells cs e)) hgd s y sl ho base e i z q by_ hsl hi hz hsz hb hzs hq v l.length (flatC c l) hs (World.ownsRow.alloc hown _) ⟨w.heap.size, 0, none⟩ 1 1 cs.toList hy ?_ ?_ (by rw [hcs]; exact hC.one x) ?_ ?_ ?_ ?_
  · simp [hcz]
  · intro j u hj
    have hadd : (⟨w.heap.size, 0, none⟩ : Addr).add j = ⟨w.heap.size, j, none⟩ := by unfold Addr.add; split <;> simp_all
    rw [hadd, (Blk.new w e cs).cell j]
    simpa using hj
  · simp only [maxLen]; omega
  · have : (l.length + 1) * by_ ≤ 1000000001 * 1000 := Nat.mul_le_mul (by omega) hby
    omega
  · exact Nat.le_trans hbase (by simp)
  · intro v' w' hown' hg _
    have hg2 : w.grownBy w' v.ownBlock := (World.grownBy_alloc w _ v.ownBlock).trans hg
    refine h v' w' ?_ (KeepT.of_own hown hg2) ((Below.refl base w).grown hg2 hbase (fun k hk => (World.ownsRow.lt hown k hk).1))
    unfold OwnC
    rw [flatC_snoc, List.length_append, ← hcs]
    exact hown'
end
end Go.Proofs.Ytjfnlgmllhjonaa
