/- What both cursors' calls answer, together. No condition. -/
import Derived.Test.YtdohhhkondokkaaDoorCurD
namespace Go.Proofs.YtdohhhkondokkaaDoor
open Go.RowKit
set_option linter.unusedSimpArgs false
set_option linter.unusedVariables false
theorem wpList_store_farC {P : Program} {ops : Array Oper} {rest : List Oper} {o : Oper} {a : Act} {w1 : World} {Q : Exit → Act → World → Prop} (hgd : o.guard = none) (ty : TypeId) (x y : Operand) (ho : o.op = .store ty x y) (g : Nat) (cells old : Array Value) (t : TypeId)
    (hx : a.eval x = .pointer (some ⟨g, 0, none⟩)) (hy : a.eval y = .agg cells) (hB : Blk w1 g t old) (hi : (P.info? ty).map (·.size) = some cells.size) (hold : old.size = cells.size) (h1 : cells.all (·.oneCell') = true)
    (h : ∀ w2, Blk w2 g t cells → (∀ g' t' cs, g' ≠ g → Blk w1 g' t' cs → Blk w2 g' t' cs) → (∀ B w0, B ≤ g → Below B w0 w1 → Below B w0 w2) → wpList P ops Q rest (a.put o.dst undef) w2) : wpList P ops Q (o :: rest) a w1 :=
  wpList_store_row hgd ty x y ho g cells hx hy t old hB hi hold h1
    (h _ (hB.row cells) (fun _ _ _ hne hb => hb.rowFar hne _) (fun _ _ hB hb => below_row hb hB _))
theorem Cur.drew {w : World} {g a : Nat} {s : ByteArray} (h : Cur w g s a) : Cur w.drew g s a := h
theorem Cur.drewN {w : World} {g a : Nat} {s : ByteArray} (h : Cur w g s a) (n : Nat) : Cur (w.drewN n) g s a := h
theorem Cur.alloc {w : World} {g a : Nat} {s : ByteArray} (h : Cur w g s a) (o : Obj) : Cur (w.alloc o) g s a := Blk.alloc h o
theorem Cur.far {w : World} {g a : Nat} {s : ByteArray} (h : Cur w g s a) {p : Addr} (hp : g ≠ p.block) (u : Value) : Cur (w.setCell p u) g s a := Blk.far h hp u
theorem one2 (s : ByteArray) (a : Int) : (#[Value.string s, .int .i64 a] : Array Value).all (·.oneCell') = true := by simp [Value.oneCell']
def TakeC (s : ByteArray) (a b : Nat) (x : Int) (T : ByteArray) (e : Int) : Prop :=
  (∀ w g, Cur w g s a → Calls Tryd.prog 43 #[.pointer (some ⟨g, 0, none⟩), .int .i64 x] w fun E w' => E = .returned (.tuple #[.string T, .int .i64 e]) ∧ Cur w' g s b ∧ Only g w w')
theorem Only.drew (g : Nat) (w : World) : Only g w w.drew := Only.of_below (Below.refl _ _).drew
end Go.Proofs.YtdohhhkondokkaaDoor
