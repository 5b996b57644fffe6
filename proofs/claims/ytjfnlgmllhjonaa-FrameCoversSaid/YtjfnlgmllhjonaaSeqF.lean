/- Small laws: max and min of two numbers, by the value that is wanted. No condition. -/
import Derived.Test.YtjfnlgmllhjonaaSeqD
namespace Go.Proofs.Ytjfnlgmllhjonaa
open Go.RowKit
set_option linter.unusedSimpArgs false
set_option linter.unusedVariables false
section
variable {P : Program} {ops : Array Oper} {rest : List Oper} {o : Oper} {a : Act} {w : World} {Q : Exit → Act → World → Prop}
theorem wpList_val {v : Value} (hgd : o.guard = none) (hr : (execOp a.eval o).run P w = .ok (.value v) w) (h : wpList P ops Q rest (a.put o.dst v) w) : wpList P ops Q (o :: rest) a w :=
  wpList_plain hgd fun K hK => by
    unfold Oper.wp
    rw [hr]
    exact hK _ _ h
theorem wpList_max {k k2 : IntKind} {x y : Int} (z : Int) (p q : Operand) (ts : Array TypeId) (hgd : o.guard = none) (ho : o.op = .call { callee := .builtin .max, args := #[p, q], argTypes := ts }) (hp : a.eval p = .int k x) (hq : a.eval q = .int k2 y) (hz : (if y > x then y else x) = z)
    (h : wpList P ops Q rest (a.put o.dst (.int k z)) w) : wpList P ops Q (o :: rest) a w := by
  refine wpList_val (v := .int k z) hgd ?_ h
  rw [max_exec a.eval o _ ho rfl]
  simp only [List.map_toArray, List.map_cons, List.map_nil, hp, hq]
  rw [← hz]
  rfl
theorem wpList_min {k k2 : IntKind} {x y : Int} (z : Int) (p q : Operand) (ts : Array TypeId) (hgd : o.guard = none) (ho : o.op = .call { callee := .builtin .min, args := #[p, q], argTypes := ts }) (hp : a.eval p = .int k x) (hq : a.eval q = .int k2 y) (hz : (if y < x then y else x) = z)
    (h : wpList P ops Q rest (a.put o.dst (.int k z)) w) : wpList P ops Q (o :: rest) a w := by
  refine wpList_val (v := .int k z) hgd ?_ h
  rw [min_exec a.eval o _ ho rfl]
  simp only [List.map_toArray, List.map_cons, List.map_nil, hp, hq]
  rw [← hz]
  rfl
end
end Go.Proofs.Ytjfnlgmllhjonaa
