/- Of ranges over functions: a call of yield as an operation; what the caller's facts abide; a function that ends behind a loop. No condition. -/
import Derived.Test.YtjfnlgmllhjonaaRgA
namespace Go.Proofs.Ytjfnlgmllhjonaa
open Go.RowKit
set_option linter.unusedSimpArgs false
set_option linter.unusedVariables false
theorem exec_yield {P : Program} {ρ : Operand → Value} {o : Oper} {w : World} {x : Operand} {xs : Array Operand} {ts : Array TypeId} {l : Nat} {args : Array Value} {r : Next} (ho : o.op = .call { callee := .value x, args := xs, argTypes := ts })
    (hx : ρ x = .func (.yield l) #[] #[]) (ha : xs.map ρ = args) (hy : (Instr.yield l args).run P w = .ok r w) : (execOp ρ o).run P w = .ok r w := by
  unfold execOp
  simp [ho, resolve, Deferred.ofValue, invoke, hx, ha, hy]
theorem eg_of {P : Program} {f : FuncId} {fn : Func} (hf : P.funcs[f]? = some fn) (hname : (fn.name == "runtime.NumGoroutine") = false) (hb : fn.body.isSome = true) (args : Array Value) (w : World) : (callFunc f args).run P w = .ok (.enter f args) w := by
  obtain ⟨c, hc⟩ := Option.isSome_iff_exists.1 hb
  have h1 : fn.name ≠ "runtime.NumGoroutine" := by simpa using hname
  unfold callFunc
  simp [go_sem, hf, h1, hc]
theorem Step.bel {β : Type} {J : (Nat → Prop) → β → World → Prop} (h : Step J) {D : Nat → Prop} {s : β} {W W' : World} (hj : J D s W) (hb : Below W.heap.size W W') : J (More D W W') s W' := h _ _ _ _ hj (It.of_below hb)
theorem Step.drew {β : Type} {J : (Nat → Prop) → β → World → Prop} (h : Step J) {D : Nat → Prop} {s : β} {W : World} (hj : J D s W) : J D s W.drew := by
  have := h.bel hj ((Below.refl _ W).drew)
  rwa [more_self (W := W) (W' := W.drew) rfl] at this
theorem KeepD.drew {D : Nat → Prop} {A B : World} (h : KeepD D A B) : KeepD D A B.drew := h
/-- A function behind whose loops marks of deferred calls stand. -/
theorem calls_marks {P : Program} {f : FuncId} {fn : Func} {c : Code} {args : Array Value} {w : World} {R : Ending → World → Prop} (hf : P.funcs[f]? = some fn) (hb : fn.body = some c)
    (h : c.wp P (bodyPostM (FR none) 9 P fn R) { tmps := args ++ Array.replicate (fn.ntmps - args.size) undef, defers := [] } w) : Calls P f args w R :=
  callsX' (ro := none) (callsIn_of_wp_marks hf hb trivial ((wpIn_wide (n := 9)).2 h))
end Go.Proofs.Ytjfnlgmllhjonaa
