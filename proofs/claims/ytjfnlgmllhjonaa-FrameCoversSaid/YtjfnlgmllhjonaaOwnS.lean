/- Slices of structs of int: read alone, and of the call's own. No condition. -/
import Derived.Test.YtjfnlgmllhjonaaSeqD
import Derived.Laws.AppendOwnNone
import Derived.Laws.AppendOwn
namespace Go.Proofs.Ytjfnlgmllhjonaa
open Go.RowKit
set_option linter.unusedSimpArgs false
set_option linter.unusedVariables false
/-- Element i of the slice at A has in its place j the number f i j. -/
def RdS (w : World) (A : Option Addr) (n q : Nat) (f : Nat → Nat → Int) : Prop := ∀ i, i < n → ∃ g off, A = some ⟨g, off, none⟩ ∧ g < w.heap.size ∧ ∀ j, j < q → w.cell? ⟨g, off + (i * q + j), none⟩ = some (.int .i64 (f i j))
theorem RdS.bel {w w' : World} {A : Option Addr} {n q : Nat} {f : Nat → Nat → Int} (h : RdS w A n q f) (hb : Below w.heap.size w w') : RdS w' A n q f := fun i hi => by
  obtain ⟨g, off, h1, h2, h3⟩ := h i hi
  exact ⟨g, off, h1, Nat.lt_of_lt_of_le h2 hb.size, fun j hj => (hb.cell (p := ⟨g, off + (i * q + j), none⟩) h2).trans (h3 j hj)⟩
theorem RdS.drewE {w wd : World} {A : Option Addr} {n q : Nat} {f : Nat → Nat → Int} (h : RdS w A n q f) (hd : wd = w.drew) : RdS wd A n q f := hd ▸ h
theorem RdS.congr {w : World} {A : Option Addr} {n q : Nat} {f f' : Nat → Nat → Int} (h : RdS w A n q f) (he : ∀ i, i < n → ∀ j, j < q → f i j = f' i j) : RdS w A n q f' := fun i hi => by
  obtain ⟨g, off, h1, h2, h3⟩ := h i hi
  exact ⟨g, off, h1, h2, fun j hj => by rw [h3 j hj, he i hi j hj]⟩
def rowF (q : Nat) (r : Nat → Int) : List Value := (List.range q).map fun j => Value.int .i64 (r j)
def flatF (q : Nat) (f : Nat → Nat → Int) : Nat → List Value
  | 0 => []
  | n + 1 => flatF q f n ++ rowF q (f n)
theorem rowF_len (q : Nat) (r : Nat → Int) : (rowF q r).length = q := by simp [rowF]
theorem flatF_len (q : Nat) (f : Nat → Nat → Int) (n : Nat) : (flatF q f n).length = n * q := by
  induction n with
  | zero => simp [flatF]
  | succ n ih => rw [flatF, List.length_append, ih, rowF_len, Nat.succ_mul]
theorem flatF_get (q : Nat) (f : Nat → Nat → Int) (n i j : Nat) (hi : i < n) (hj : j < q) : (flatF q f n)[i * q + j]? = some (.int .i64 (f i j)) := by
  induction n with
  | zero => omega
  | succ n ih =>
    rw [flatF]
    by_cases h : i < n
    · have hm : i * q + q ≤ n * q := by rw [← Nat.succ_mul]; exact Nat.mul_le_mul_right q h
      rw [List.getElem?_append_left (by rw [flatF_len]; omega)]
      exact ih h
    · obtain rfl : i = n := by omega
      rw [List.getElem?_append_right (by rw [flatF_len]; omega), flatF_len, Nat.add_sub_cancel_left]
      simp [rowF, hj]
theorem flatF_one (q : Nat) (f : Nat → Nat → Int) (n : Nat) : ∀ u ∈ flatF q f n, u.oneCell' = true := by
  induction n with
  | zero => intro u hu; cases hu
  | succ n ih =>
    intro u hu
    rcases List.mem_append.1 hu with h | h
    · exact ih u h
    · obtain ⟨j, _, rfl⟩ := List.mem_map.1 h; rfl
theorem flatF_congr (q : Nat) {f f' : Nat → Nat → Int} (n : Nat) (h : ∀ i, i < n → ∀ j, j < q → f i j = f' i j) : flatF q f n = flatF q f' n := by
  induction n with
  | zero => rfl
  | succ n ih =>
    rw [flatF, flatF, ih fun i hi => h i (by omega)]
    congr 1
    exact List.map_congr_left fun j hj => by rw [h n (by omega) j (List.mem_range.1 hj)]
/-- A slice of structs of the call's own. -/
def OwnS (w : World) (base : Nat) (e : TypeId) (q : Nat) (v : Value) (n : Nat) (f : Nat → Nat → Int) : Prop := w.ownsRow base e q v n (flatF q f n)
section
variable {w w' wd : World} {base b' : Nat} {e : TypeId} {q n : Nat} {v : Value} {f : Nat → Nat → Int}
theorem OwnS.nil (w : World) (base : Nat) (e : TypeId) (q : Nat) (f : Nat → Nat → Int) : OwnS w base e q (.slice none 0 0) 0 f := World.ownsRow_nil w base e q
theorem OwnS.keep (h : OwnS w base e q v n f) (hk : ∀ g cs, Blk w g e cs → Blk w' g e cs) : OwnS w' base e q v n f := by
  refine ⟨h.1, ?_⟩
  rcases h.2 with h0 | ⟨g, cap, cur, e1, hg, hc, rest⟩
  · exact Or.inl h0
  · exact Or.inr ⟨g, cap, cur, e1, hg, hk g cur hc, rest⟩
theorem OwnS.bel (h : OwnS w base e q v n f) (hb : Below w.heap.size w w') : OwnS w' base e q v n f := h.keep fun g cs hB => hB.bel hb
theorem OwnS.drewE (h : OwnS w base e q v n f) (hd : wd = w.drew) : OwnS wd base e q v n f := hd ▸ h.keep fun g cs hB => hB
theorem OwnS.mono (h : OwnS w base e q v n f) (hb : b' ≤ base) : OwnS w b' e q v n f := by
  refine ⟨h.1, ?_⟩
  rcases h.2 with h0 | ⟨g, cap, cur, e1, hg, rest⟩
  · exact Or.inl h0
  · exact Or.inr ⟨g, cap, cur, e1, Nat.le_trans hb hg, rest⟩
theorem OwnS.congr {f' : Nat → Nat → Int} (h : OwnS w base e q v n f) (he : ∀ i, i < n → ∀ j, j < q → f i j = f' i j) : OwnS w base e q v n f' := by unfold OwnS at *; rw [← flatF_congr q n he]; exact h
theorem OwnS.form (h : OwnS w base e q v n f) : ∃ A c, v = .slice A n c ∧ n ≤ c ∧ RdS w A n q f := by
  rcases h.2 with ⟨rfl, h0⟩ | ⟨g, cap, cur, rfl, hg, hc, hcap, _⟩
  · exact ⟨none, 0, by rw [h0], by omega, fun i hi => by omega⟩
  · refine ⟨_, cap, rfl, hcap, fun i hi => ⟨g, 0, rfl, (World.ownsRow.lt h g rfl).2, fun j hj => ?_⟩⟩
    have hcell := World.ownsRow.cells h (g := g) rfl (i * q + j) _ (flatF_get q f n i j hi hj)
    have hadd : (⟨g, 0, none⟩ : Addr).add (i * q + j) = ⟨g, i * q + j, none⟩ := by unfold Addr.add; split <;> simp_all
    rw [hadd] at hcell
    rw [Nat.zero_add]; exact hcell
theorem OwnS.lt (h : OwnS w base e q v n f) : ∀ k, v.ownBlock = some k → base ≤ k ∧ k < w.heap.size := World.ownsRow.lt h
end
theorem KeepS {base s n : Nat} {e : TypeId} {v : Value} {xs : List Value} {w w' : World} (hO : w.ownsRow base e s v n xs) (hg : w.grownBy w' v.ownBlock) : ∀ g t cs, t ≠ e → Blk w g t cs → Blk w' g t cs := fun g t cs ht hB => by
  by_cases e' : some g = v.ownBlock
  · exfalso
    rcases hO.2 with ⟨rfl, _⟩ | ⟨g', cap, cur, rfl, _, hc, _⟩
    · simp [Value.ownBlock] at e'
    · simp [Value.ownBlock] at e'
      subst e'
      unfold Blk at hB
      rw [hB] at hc
      simp at hc
      exact ht hc.2
  · exact (hg.block g hB.lt e').trans hB
/-- append of one struct: the goal's world is that behind the making of the one-element row. -/
theorem appS {w : World} {base : Nat} {v : Value} {n q by_ : Nat} {e sl : TypeId} {f : Nat → Nat → Int} (r : Nat → Int) {cs : Array Value} {ops : Array Oper} {rest : List Oper} {o : Oper} {a : Act} {Q : Exit → Act → World → Prop}
    (hsl : Try.prog.underlying sl = some (.slice e)) (hinf : (Try.prog.info? e).map (fun i => (i.zero.map fun z => z.cells.size, i.size, i.bytes)) = some (some q, q, by_)) (hq : 0 < q) (hby : by_ ≤ 1000)
    (hgd : o.guard = none) (s y : Operand) (ho : o.op = .call { callee := .builtin .append, args := #[s, y], argTypes := #[sl, sl] }) (hs : a.eval s = v) (hy : a.eval y = .slice (some ⟨w.heap.size, 0, none⟩) 1 1)
    (hcs : cs.toList = rowF q r) (hown : OwnS w base e q v n f) (hlen : n < 1000000000) (hbase : base ≤ w.heap.size)
    (h : ∀ v' w', OwnS w' base e q v' (n + 1) (fun i j => if i = n then r j else f i j) → (∀ g t cs, t ≠ e → Blk w g t cs → Blk w' g t cs) → w.grownBy w' v.ownBlock → Below base w w' → wpList Try.prog ops Q rest (a.put o.dst v') w') :
    wpList Try.prog ops Q (o :: rest) a (w.alloc (.cells cs e)) := by
  obtain ⟨i, hi⟩ := Option.isSome_iff_exists.1 (show (Try.prog.info? e).isSome = true by cases hq' : Try.prog.info? e with | none => rw [hq'] at hinf; cases hinf | some _ => rfl)
  rw [hi] at hinf
  simp only [Option.map_some, Option.some.injEq, Prod.mk.injEq] at hinf
  obtain ⟨hz, hsz, hb⟩ := hinf
  obtain ⟨z, hz, hzs⟩ := Option.map_eq_some_iff.1 hz
  refine wpList_append_own (w.alloc (.cells cs e)) hgd s y sl ho base e i z q by_ hsl hi hz hsz hb hzs hq v n (flatF q f n) hs (World.ownsRow.alloc hown _) ⟨w.heap.size, 0, none⟩ 1 1 cs.toList hy ?_ ?_ ?_ ?_ ?_ ?_ ?_
  · rw [hcs, rowF_len, Nat.one_mul]
  · intro j u hj
    have hadd : (⟨w.heap.size, 0, none⟩ : Addr).add j = ⟨w.heap.size, j, none⟩ := by unfold Addr.add; split <;> simp_all
    rw [hadd, (Blk.new w e cs).cell j]
    simpa using hj
  · intro u hu
    rw [hcs] at hu
    obtain ⟨j, _, rfl⟩ := List.mem_map.1 hu; rfl
  · simp only [maxLen]; omega
  · have : (n + 1) * by_ ≤ 1000000001 * 1000 := Nat.mul_le_mul (by omega) hby
    omega
  · exact Nat.le_trans hbase (by simp)
  · intro v' w' hown' hg _
    have hg2 : w.grownBy w' v.ownBlock := (World.grownBy_alloc w _ v.ownBlock).trans hg
    refine h v' w' ?_ (KeepS hown hg2) hg2 ((Below.refl base w).grown hg2 hbase (fun k hk => (hown.lt k hk).1))
    unfold OwnS
    rw [flatF, hcs] at *
    have e1 : flatF q (fun i j => if i = n then r j else f i j) n = flatF q f n := flatF_congr q n fun i hi j hj => by rw [if_neg (by omega)]
    have e2 : rowF q ((fun i j => if i = n then r j else f i j) n) = rowF q r := by simp
    rw [e1, e2]
    exact hown'
end Go.Proofs.Ytjfnlgmllhjonaa
