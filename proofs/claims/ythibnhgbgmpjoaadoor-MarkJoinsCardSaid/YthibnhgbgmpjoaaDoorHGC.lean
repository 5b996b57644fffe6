/- A region that draws its order, as one walk: operations that only read are taken in a fixed order, the others one by one. What each operation may do, and the law. No condition. -/
import Derived.Test.YthibnhgbgmpjoaaDoorHBase
import Derived.OrdersHeld
import Derived.Laws.AppendOwn
import Derived.Laws.AppendOwnNone
namespace Go.Proofs.YthibnhgbgmpjoaaDoor
open Go.RowKit
set_option linter.unusedSimpArgs false
set_option linter.unusedVariables false
/-- If it goes well, what it answers hangs on no world, and the world stays. -/
def NW (P : Program) {α : Type} (m : Sem α) : Prop := ∀ w a w', m.run P w = .ok a w' → ∀ w2, m.run P w2 = .ok a w2
/-- If it goes well, the world stays. -/
def RO (P : Program) {α : Type} (m : Sem α) : Prop := ∀ w a w', m.run P w = .ok a w' → w' = w
/-- It never goes well. -/
def Nev (P : Program) {α : Type} (m : Sem α) : Prop := ∀ w a w', m.run P w ≠ .ok a w'
section
variable {P : Program} {α β : Type}
theorem NW.ro {m : Sem α} (h : NW P m) : RO P m := fun w a w' e => by have := h w a w' e w; rw [e] at this; injection this
theorem Nev.nw {m : Sem α} (h : Nev P m) : NW P m := fun w a w' e => absurd e (h w a w')
theorem NW.pure (a : α) : NW P (pure a : Sem α) := fun w b w' e w2 => by
  have e1 : (Pure.pure a : Sem α).run P w = .ok a w := rfl
  rw [e1] at e; injection e with h1 h2; subst h1; rfl
theorem run_bind_ok {m : Sem α} {f : α → Sem β} {w w' : World} {b : β} (h : (m >>= f).run P w = .ok b w') : ∃ a w1, m.run P w = .ok a w1 ∧ (f a).run P w1 = .ok b w' := by
  rw [Sem.run_bind] at h
  cases hm : m.run P w with
  | ok a w1 => rw [hm] at h; exact ⟨a, w1, rfl, h⟩
  | halt x w1 => rw [hm] at h; simp at h
theorem run_bind_mk {m : Sem α} {f : α → Sem β} {w w1 : World} {a : α} (h : m.run P w = .ok a w1) : (m >>= f).run P w = (f a).run P w1 := by
  rw [Sem.run_bind, h]; rfl
theorem NW.bind {m : Sem α} {f : α → Sem β} (h : NW P m) (hf : ∀ a, NW P (f a)) : NW P (m >>= f) := fun w b w' e w2 => by
  obtain ⟨a, w1, h1, h2⟩ := run_bind_ok e
  rw [run_bind_mk (h w a w1 h1 w2)]
  exact hf a w1 b w' h2 w2
theorem RO.bind {m : Sem α} {f : α → Sem β} (h : RO P m) (hf : ∀ a, RO P (f a)) : RO P (m >>= f) := fun w b w' e => by
  obtain ⟨a, w1, h1, h2⟩ := run_bind_ok e
  rw [hf a w1 b w' h2, h w a w1 h1]
theorem Nev.bind {m : Sem α} {f : α → Sem β} (hf : ∀ a, Nev P (f a)) : Nev P (m >>= f) := fun w b w' e => by
  obtain ⟨a, w1, h1, h2⟩ := run_bind_ok e
  exact hf a w1 b w' h2
theorem Nev.halt (h : Halt) : Nev P (Sem.halt h : Sem α) := fun w a w' e => by cases e
theorem NW.program : NW P Go.program := fun w a w' e w2 => by
  have e1 : Sem.run P Go.program w = .ok P w := rfl
  rw [e1] at e; injection e with h1 h2; subst h1; rfl
theorem NW.stuck (s : String) : NW P (stuck s : Sem α) := (Nev.halt _).nw
theorem NW.unsupported (u : Unsupported) : NW P (unsupported u : Sem α) := (Nev.halt _).nw
theorem Nev.runtimePanic (e : RuntimeError) : Nev P (runtimePanic e : Sem α) := by
  unfold Go.runtimePanic
  refine Nev.bind fun p => ?_
  cases e
  all_goals first
    | exact Nev.halt _
    | (refine Nev.bind fun t => ?_; first | exact Nev.halt _ | (refine Nev.bind fun r => ?_; exact Nev.halt _))
theorem Nev.boundsPanic (k : IntKind) (x y : Int) (c : BoundsCode) : Nev P (boundsPanic k x y c : Sem α) := by
  unfold Go.boundsPanic
  dsimp only
  split <;> exact Nev.bind fun _ => Nev.runtimePanic _
theorem NW.typeInfo (t : TypeId) : NW P (typeInfo t) := by
  unfold Go.typeInfo
  refine NW.program.bind fun p => ?_
  split
  · exact NW.pure _
  · exact NW.stuck _
theorem NW.underlying (t : TypeId) : NW P (underlying t) := by
  unfold Go.underlying
  refine NW.program.bind fun p => ?_
  split
  · exact NW.pure _
  · exact NW.stuck _
theorem NW.sizeOf (t : TypeId) : NW P (sizeOf t) := by unfold Go.sizeOf; exact (NW.typeInfo t).bind fun _ => NW.pure _
theorem NW.zeroValue (t : TypeId) : NW P (zeroValue t) := by
  unfold Go.zeroValue
  refine (NW.typeInfo t).bind fun i => ?_
  split
  · exact NW.pure _
  · exact NW.unsupported _
theorem NW.isAgg (t : TypeId) : NW P (isAgg t) := by
  unfold Go.isAgg
  refine (NW.underlying t).bind fun d => ?_
  split <;> exact NW.pure _
theorem NW.part (t : TypeId) (cs : Array Value) (off : Nat) : NW P (part t cs off) := by
  unfold Go.part
  refine (NW.isAgg t).bind fun b => ?_
  split
  · exact (NW.sizeOf t).bind fun _ => NW.pure _
  · split
    · exact NW.pure _
    · exact NW.stuck _
theorem NW.asIntOf (v : Value) : NW P (asIntOf v) := by
  unfold Go.asIntOf; split <;> first | exact NW.pure _ | exact NW.unsupported _ | exact NW.stuck _
theorem NW.asBool (v : Value) : NW P (asBool v) := by
  unfold Go.asBool; split <;> first | exact NW.pure _ | exact NW.stuck _
theorem NW.asAgg (v : Value) : NW P (asAgg v) := by
  unfold Go.asAgg; split <;> first | exact NW.pure _ | exact NW.stuck _
theorem NW.asAddr (v : Value) : NW P (asAddr v) := by
  unfold Go.asAddr; split <;> first | exact NW.pure _ | exact NW.stuck _ | exact (Nev.runtimePanic _).nw
theorem NW.sureAddr (v : Value) : NW P (Instr.sureAddr v) := by
  unfold Instr.sureAddr; split <;> first | exact NW.pure _ | exact NW.stuck _
theorem NW.field (t : TypeId) (x : Value) (f : Nat) : NW P (Instr.field t x f) := by
  unfold Instr.field
  repeat' (first | exact NW.pure _ | exact NW.stuck _ | exact NW.unsupported _ | exact (Nev.runtimePanic _).nw | exact (Nev.boundsPanic _ _ _ _).nw | exact NW.typeInfo _ | exact NW.underlying _ | exact NW.sizeOf _ | exact NW.zeroValue _ | exact NW.isAgg _ | exact NW.part _ _ _ | exact NW.asIntOf _ | exact NW.asBool _ | exact NW.asAgg _ | exact NW.asAddr _ | exact NW.sureAddr _ | refine NW.bind ?_ (fun _ => ?_) | split | dsimp only)
theorem NW.index (t : TypeId) (x i : Value) : NW P (Instr.index t x i) := by
  unfold Instr.index
  repeat' (first | exact NW.pure _ | exact NW.stuck _ | exact NW.unsupported _ | exact (Nev.runtimePanic _).nw | exact (Nev.boundsPanic _ _ _ _).nw | exact NW.typeInfo _ | exact NW.underlying _ | exact NW.sizeOf _ | exact NW.zeroValue _ | exact NW.isAgg _ | exact NW.part _ _ _ | exact NW.asIntOf _ | exact NW.asBool _ | exact NW.asAgg _ | exact NW.asAddr _ | exact NW.sureAddr _ | refine NW.bind ?_ (fun _ => ?_) | split | dsimp only)
theorem NW.indexAt (t : TypeId) (x i : Value) : NW P (Instr.indexAt t x i) := by
  unfold Instr.indexAt
  repeat' (first | exact NW.pure _ | exact NW.stuck _ | exact NW.unsupported _ | exact (Nev.runtimePanic _).nw | exact (Nev.boundsPanic _ _ _ _).nw | exact NW.typeInfo _ | exact NW.underlying _ | exact NW.sizeOf _ | exact NW.zeroValue _ | exact NW.isAgg _ | exact NW.part _ _ _ | exact NW.asIntOf _ | exact NW.asBool _ | exact NW.asAgg _ | exact NW.asAddr _ | exact NW.sureAddr _ | refine NW.bind ?_ (fun _ => ?_) | split | dsimp only)
theorem NW.sliceBound (x : Value) (y : Nat) (c : BoundsCode) : NW P (Instr.sliceBound x y c) := by
  unfold Instr.sliceBound
  repeat' (first | exact NW.pure _ | exact NW.stuck _ | exact NW.unsupported _ | exact (Nev.runtimePanic _).nw | exact (Nev.boundsPanic _ _ _ _).nw | exact NW.typeInfo _ | exact NW.underlying _ | exact NW.sizeOf _ | exact NW.zeroValue _ | exact NW.isAgg _ | exact NW.part _ _ _ | exact NW.asIntOf _ | exact NW.asBool _ | exact NW.asAgg _ | exact NW.asAddr _ | exact NW.sureAddr _ | refine NW.bind ?_ (fun _ => ?_) | split | dsimp only)
theorem NW.sliceBounds (b : Bool) (len cap : Nat) (lo hi mx : Option Value) : NW P (Instr.sliceBounds b len cap lo hi mx) := by
  unfold Instr.sliceBounds
  repeat' (first | exact NW.pure _ | exact NW.stuck _ | exact NW.unsupported _ | exact (Nev.runtimePanic _).nw | exact (Nev.boundsPanic _ _ _ _).nw | exact NW.typeInfo _ | exact NW.underlying _ | exact NW.sizeOf _ | exact NW.zeroValue _ | exact NW.isAgg _ | exact NW.part _ _ _ | exact NW.asIntOf _ | exact NW.asBool _ | exact NW.asAgg _ | exact NW.asAddr _ | exact NW.sureAddr _ | exact NW.sliceBound _ _ _ | refine NW.bind ?_ (fun _ => ?_) | split | dsimp only)
theorem NW.slice (t : TypeId) (x : Value) (lo hi mx : Option Value) : NW P (Instr.slice t x lo hi mx) := by
  unfold Instr.slice
  repeat' (first | exact NW.pure _ | exact NW.stuck _ | exact NW.unsupported _ | exact (Nev.runtimePanic _).nw | exact (Nev.boundsPanic _ _ _ _).nw | exact NW.typeInfo _ | exact NW.underlying _ | exact NW.sizeOf _ | exact NW.zeroValue _ | exact NW.isAgg _ | exact NW.part _ _ _ | exact NW.asIntOf _ | exact NW.asBool _ | exact NW.asAgg _ | exact NW.asAddr _ | exact NW.sureAddr _ | exact NW.sliceBounds _ _ _ _ _ _ | refine NW.bind ?_ (fun _ => ?_) | split | dsimp only)
theorem NW.sliceAt (t : TypeId) (x : Value) (lo hi mx : Option Value) : NW P (Instr.sliceAt t x lo hi mx) := by
  unfold Instr.sliceAt
  repeat' (first | exact NW.pure _ | exact NW.stuck _ | exact NW.unsupported _ | exact (Nev.runtimePanic _).nw | exact (Nev.boundsPanic _ _ _ _).nw | exact NW.typeInfo _ | exact NW.underlying _ | exact NW.sizeOf _ | exact NW.zeroValue _ | exact NW.isAgg _ | exact NW.part _ _ _ | exact NW.asIntOf _ | exact NW.asBool _ | exact NW.asAgg _ | exact NW.asAddr _ | exact NW.sureAddr _ | exact NW.sliceBounds _ _ _ _ _ _ | exact NW.slice _ _ _ _ _ | refine NW.bind ?_ (fun _ => ?_) | split | dsimp only)
theorem NW.extract (x : Value) (i : Nat) : NW P (Instr.extract x i) := by
  unfold Instr.extract
  repeat' (first | exact NW.pure _ | exact NW.stuck _ | exact NW.unsupported _ | exact (Nev.runtimePanic _).nw | exact (Nev.boundsPanic _ _ _ _).nw | exact NW.typeInfo _ | exact NW.underlying _ | exact NW.sizeOf _ | exact NW.zeroValue _ | exact NW.isAgg _ | exact NW.part _ _ _ | exact NW.asIntOf _ | exact NW.asBool _ | exact NW.asAgg _ | exact NW.asAddr _ | exact NW.sureAddr _ | refine NW.bind ?_ (fun _ => ?_) | split | dsimp only)
theorem NW.makeInterface (t : TypeId) (x : Value) : NW P (Instr.makeInterface t x) := by
  unfold Instr.makeInterface
  repeat' (first | exact NW.pure _ | exact NW.stuck _ | exact NW.unsupported _ | exact (Nev.runtimePanic _).nw | exact (Nev.boundsPanic _ _ _ _).nw | exact NW.typeInfo _ | exact NW.underlying _ | exact NW.sizeOf _ | exact NW.zeroValue _ | exact NW.isAgg _ | exact NW.part _ _ _ | exact NW.asIntOf _ | exact NW.asBool _ | exact NW.asAgg _ | exact NW.asAddr _ | exact NW.sureAddr _ | refine NW.bind ?_ (fun _ => ?_) | split | dsimp only)
theorem NW.makeFunc (f : Fn) (a b : Array Value) : NW P (Instr.makeFunc f a b) := by
  unfold Instr.makeFunc
  repeat' (first | exact NW.pure _ | exact NW.stuck _ | exact NW.unsupported _ | exact (Nev.runtimePanic _).nw | exact (Nev.boundsPanic _ _ _ _).nw | exact NW.typeInfo _ | exact NW.underlying _ | exact NW.sizeOf _ | exact NW.zeroValue _ | exact NW.isAgg _ | exact NW.part _ _ _ | exact NW.asIntOf _ | exact NW.asBool _ | exact NW.asAgg _ | exact NW.asAddr _ | exact NW.sureAddr _ | refine NW.bind ?_ (fun _ => ?_) | split | dsimp only)
theorem NW.typeAssert (x : Value) (t u : TypeId) (ok : Bool) : NW P (Instr.typeAssert x t u ok) := by
  unfold Instr.typeAssert
  repeat' (first | exact NW.pure _ | exact NW.stuck _ | exact NW.unsupported _ | exact (Nev.runtimePanic _).nw | exact (Nev.boundsPanic _ _ _ _).nw | exact NW.typeInfo _ | exact NW.underlying _ | exact NW.sizeOf _ | exact NW.zeroValue _ | exact NW.isAgg _ | exact NW.part _ _ _ | exact NW.asIntOf _ | exact NW.asBool _ | exact NW.asAgg _ | exact NW.asAddr _ | exact NW.sureAddr _ | refine NW.bind ?_ (fun _ => ?_) | split | dsimp only)
theorem NW.intArith (o : BinOp) (k : IntKind) (x y : Int) : NW P (Op.intArith o k x y) := by
  unfold Op.intArith
  repeat' (first | exact NW.pure _ | exact NW.stuck _ | exact NW.unsupported _ | exact (Nev.runtimePanic _).nw | exact (Nev.boundsPanic _ _ _ _).nw | exact NW.typeInfo _ | exact NW.underlying _ | exact NW.sizeOf _ | exact NW.zeroValue _ | exact NW.isAgg _ | exact NW.part _ _ _ | exact NW.asIntOf _ | exact NW.asBool _ | exact NW.asAgg _ | exact NW.asAddr _ | exact NW.sureAddr _ | refine NW.bind ?_ (fun _ => ?_) | split | dsimp only)
theorem NW.intBits (o : BinOp) (k : IntKind) (x y : Int) : NW P (Op.intBits o k x y) := by
  unfold Op.intBits
  repeat' (first | exact NW.pure _ | exact NW.stuck _ | exact NW.unsupported _ | exact (Nev.runtimePanic _).nw | exact (Nev.boundsPanic _ _ _ _).nw | exact NW.typeInfo _ | exact NW.underlying _ | exact NW.sizeOf _ | exact NW.zeroValue _ | exact NW.isAgg _ | exact NW.part _ _ _ | exact NW.asIntOf _ | exact NW.asBool _ | exact NW.asAgg _ | exact NW.asAddr _ | exact NW.sureAddr _ | refine NW.bind ?_ (fun _ => ?_) | split | dsimp only)
theorem NW.intCmp (o : BinOp) (x y : Int) : NW P (Op.intCmp o x y) := by
  unfold Op.intCmp
  repeat' (first | exact NW.pure _ | exact NW.stuck _ | exact NW.unsupported _ | exact (Nev.runtimePanic _).nw | exact (Nev.boundsPanic _ _ _ _).nw | exact NW.typeInfo _ | exact NW.underlying _ | exact NW.sizeOf _ | exact NW.zeroValue _ | exact NW.isAgg _ | exact NW.part _ _ _ | exact NW.asIntOf _ | exact NW.asBool _ | exact NW.asAgg _ | exact NW.asAddr _ | exact NW.sureAddr _ | refine NW.bind ?_ (fun _ => ?_) | split | dsimp only)
theorem NW.intDiv (o : BinOp) (k : IntKind) (x y : Int) : NW P (Op.intDiv o k x y) := by
  unfold Op.intDiv
  repeat' (first | exact NW.pure _ | exact NW.stuck _ | exact NW.unsupported _ | exact (Nev.runtimePanic _).nw | exact (Nev.boundsPanic _ _ _ _).nw | exact NW.typeInfo _ | exact NW.underlying _ | exact NW.sizeOf _ | exact NW.zeroValue _ | exact NW.isAgg _ | exact NW.part _ _ _ | exact NW.asIntOf _ | exact NW.asBool _ | exact NW.asAgg _ | exact NW.asAddr _ | exact NW.sureAddr _ | refine NW.bind ?_ (fun _ => ?_) | split | dsimp only)
theorem NW.shift (o : BinOp) (k : IntKind) (x : Int) (k2 : IntKind) (y : Int) : NW P (Op.shift o k x k2 y) := by
  unfold Op.shift
  repeat' (first | exact NW.pure _ | exact NW.stuck _ | exact NW.unsupported _ | exact (Nev.runtimePanic _).nw | exact (Nev.boundsPanic _ _ _ _).nw | exact NW.typeInfo _ | exact NW.underlying _ | exact NW.sizeOf _ | exact NW.zeroValue _ | exact NW.isAgg _ | exact NW.part _ _ _ | exact NW.asIntOf _ | exact NW.asBool _ | exact NW.asAgg _ | exact NW.asAddr _ | exact NW.sureAddr _ | refine NW.bind ?_ (fun _ => ?_) | split | dsimp only)
theorem NW.stringOp (o : BinOp) (x y : ByteArray) : NW P (Op.stringOp o x y) := by
  unfold Op.stringOp
  repeat' (first | exact NW.pure _ | exact NW.stuck _ | exact NW.unsupported _ | exact (Nev.runtimePanic _).nw | exact (Nev.boundsPanic _ _ _ _).nw | exact NW.typeInfo _ | exact NW.underlying _ | exact NW.sizeOf _ | exact NW.zeroValue _ | exact NW.isAgg _ | exact NW.part _ _ _ | exact NW.asIntOf _ | exact NW.asBool _ | exact NW.asAgg _ | exact NW.asAddr _ | exact NW.sureAddr _ | refine NW.bind ?_ (fun _ => ?_) | split | dsimp only)
theorem NW.unary (o : UnOp) (x : Value) : NW P (Op.unary o x) := by
  unfold Op.unary
  repeat' (first | exact NW.pure _ | exact NW.stuck _ | exact NW.unsupported _ | exact (Nev.runtimePanic _).nw | exact (Nev.boundsPanic _ _ _ _).nw | exact NW.typeInfo _ | exact NW.underlying _ | exact NW.sizeOf _ | exact NW.zeroValue _ | exact NW.isAgg _ | exact NW.part _ _ _ | exact NW.asIntOf _ | exact NW.asBool _ | exact NW.asAgg _ | exact NW.asAddr _ | exact NW.sureAddr _ | exact NW.intArith _ _ _ _ | exact NW.intBits _ _ _ _ | refine NW.bind ?_ (fun _ => ?_) | split | dsimp only)
theorem NW.mapM {α β : Type} (f : α → Sem β) (hf : ∀ a, NW P (f a)) (l : List α) : NW P (l.mapM f) := by
  induction l with
  | nil => simp only [List.mapM_nil]; exact NW.pure _
  | cons a l ih => simp only [List.mapM_cons]; exact (hf a).bind fun _ => ih.bind fun _ => NW.pure _
theorem NW.mapMA {α β : Type} (f : α → Sem β) (hf : ∀ a, NW P (f a)) (l : Array α) : NW P (l.mapM f) := by
  rw [Array.mapM_eq_mapM_toList]
  exact NW.bind (NW.mapM f hf _) fun _ => NW.pure _
theorem NW.build (t : TypeId) (l : Array (Nat × Value)) : NW P (Instr.build t l) := by
  unfold Instr.build
  repeat' (first | exact NW.pure _ | exact NW.stuck _ | exact NW.unsupported _ | exact (Nev.runtimePanic _).nw | exact (Nev.boundsPanic _ _ _ _).nw | exact NW.typeInfo _ | exact NW.underlying _ | exact NW.sizeOf _ | exact NW.zeroValue _ | exact NW.isAgg _ | exact NW.part _ _ _ | exact NW.asIntOf _ | exact NW.asBool _ | exact NW.asAgg _ | exact NW.asAddr _ | exact NW.sureAddr _ | exact NW.mapMA _ (fun _ => (NW.sizeOf _).bind fun _ => NW.pure _) _ | refine NW.bind ?_ (fun _ => ?_) | split | dsimp only)
end
end Go.Proofs.YthibnhgbgmpjoaaDoor
namespace Go.Proofs.YthibnhgbgmpjoaaDoor
open Go.RowKit
set_option linter.unusedSimpArgs false
set_option linter.unusedVariables false
/-- Values at which an operator touches no world. -/
def plainB (x y : Value) : Bool := match x, y with
  | .int _ _, .int _ _ => true
  | .string _, .string _ => true
  | .bool _, .bool _ => true
  | .pointer none, .pointer none => true
  | .pointer (some _), .pointer none => true
  | .slice _ _ _, .slice none _ _ => true
  | .iface _ _, .nilIface => true
  | _, _ => false
section
variable {P : Program} {α β : Type}
theorem NW.len (ts : Array TypeId) (t : TypeId) (s : ByteArray) : NW P (Builtin.len_ ts t #[.string s]) := by
  unfold Builtin.len_
  repeat' (first | exact NW.pure _ | exact NW.stuck _ | exact NW.unsupported _ | exact (Nev.runtimePanic _).nw | exact (Nev.boundsPanic _ _ _ _).nw | exact NW.typeInfo _ | exact NW.underlying _ | exact NW.sizeOf _ | exact NW.zeroValue _ | exact NW.isAgg _ | exact NW.part _ _ _ | exact NW.asIntOf _ | exact NW.asBool _ | exact NW.asAgg _ | exact NW.asAddr _ | exact NW.sureAddr _ | refine NW.bind ?_ (fun _ => ?_) | split | dsimp only)
  all_goals (rename_i h; simp at h)
theorem NW.lenS (ts : Array TypeId) (t : TypeId) (A : Option Addr) (n c : Nat) : NW P (Builtin.len_ ts t #[.slice A n c]) := by
  unfold Builtin.len_
  repeat' (first | exact NW.pure _ | exact NW.stuck _ | exact NW.unsupported _ | exact (Nev.runtimePanic _).nw | exact (Nev.boundsPanic _ _ _ _).nw | exact NW.typeInfo _ | exact NW.underlying _ | exact NW.sizeOf _ | exact NW.zeroValue _ | exact NW.isAgg _ | exact NW.part _ _ _ | exact NW.asIntOf _ | exact NW.asBool _ | exact NW.asAgg _ | exact NW.asAddr _ | exact NW.sureAddr _ | refine NW.bind ?_ (fun _ => ?_) | split | dsimp only)
  all_goals (rename_i h; simp at h)
theorem NW.max (ts : Array TypeId) (t : TypeId) (k k2 : IntKind) (x y : Int) : NW P (Builtin.max_ ts t #[.int k x, .int k2 y]) := by
  unfold Builtin.max_
  simp only [List.foldlM_cons, List.foldlM_nil]
  exact (NW.pure _ : NW P (Builtin.max2 (.int k x) (.int k2 y))).bind fun _ => NW.pure _
theorem NW.min (ts : Array TypeId) (t : TypeId) (k k2 : IntKind) (x y : Int) : NW P (Builtin.min_ ts t #[.int k x, .int k2 y]) := by
  unfold Builtin.min_
  simp only [List.foldlM_cons, List.foldlM_nil]
  exact (NW.pure _ : NW P (Builtin.min2 (.int k x) (.int k2 y))).bind fun _ => NW.pure _
theorem NW.eqGuard (op : BinOp) (t : TypeId) (ox oy : Operand) (x y : Value) (h : plainB x y = true) : NW P (Go.eqGuard op t ox oy x y) := by
  unfold Go.eqGuard
  unfold plainB at h
  split at h <;> first | (cases h; done) | (dsimp only; split <;> exact NW.pure _)
theorem NW.equalIn (d : Nat) (t : TypeId) : ∀ (x y : Value), plainB x y = true → NW P (Op.equalIn (d + 1) t x y)
  | .int _ _, .int _ _, _ => by
    simp only [Op.equalIn]
    refine (NW.underlying t).bind fun dd => ?_
    cases dd <;> (try dsimp only) <;> first | exact NW.pure _ | exact NW.stuck _ | exact NW.unsupported _ | (split <;> first | exact NW.pure _ | exact NW.stuck _)
  | .string _, .string _, _ => by
    simp only [Op.equalIn]
    refine (NW.underlying t).bind fun dd => ?_
    cases dd <;> (try dsimp only) <;> first | exact NW.pure _ | exact NW.stuck _ | exact NW.unsupported _ | (split <;> first | exact NW.pure _ | exact NW.stuck _)
  | .bool _, .bool _, _ => by
    simp only [Op.equalIn]
    refine (NW.underlying t).bind fun dd => ?_
    cases dd <;> (try dsimp only) <;> first | exact NW.pure _ | exact NW.stuck _ | exact NW.unsupported _ | (split <;> first | exact NW.pure _ | exact NW.stuck _)
  | .pointer none, .pointer none, _ => by
    simp only [Op.equalIn]
    refine (NW.underlying t).bind fun dd => ?_
    cases dd <;> (try dsimp only) <;> first | exact NW.pure _ | exact NW.stuck _ | exact NW.unsupported _ | (split <;> first | exact NW.pure _ | exact NW.stuck _)
  | .pointer (some _), .pointer none, _ => by
    simp only [Op.equalIn]
    refine (NW.underlying t).bind fun dd => ?_
    cases dd <;> (try dsimp only) <;> first | exact NW.pure _ | exact NW.stuck _ | exact NW.unsupported _ | (split <;> first | exact NW.pure _ | exact NW.stuck _)
  | .slice none _ _, .slice none _ _, _ => by
    simp only [Op.equalIn]
    refine (NW.underlying t).bind fun dd => ?_
    cases dd <;> (try dsimp only) <;> first | exact NW.pure _ | exact NW.stuck _ | exact NW.unsupported _ | (split <;> first | exact NW.pure _ | exact NW.stuck _)
  | .slice (some _) _ _, .slice none _ _, _ => by
    simp only [Op.equalIn]
    refine (NW.underlying t).bind fun dd => ?_
    cases dd <;> (try dsimp only) <;> first | exact NW.pure _ | exact NW.stuck _ | exact NW.unsupported _ | (split <;> first | exact NW.pure _ | exact NW.stuck _)
  | .iface _ _, .nilIface, _ => by
    simp only [Op.equalIn]
    refine (NW.underlying t).bind fun dd => ?_
    cases dd <;> (try dsimp only) <;> first | exact NW.pure _ | exact NW.stuck _ | exact NW.unsupported _ | (split <;> first | exact NW.pure _ | exact NW.stuck _)
theorem NW.binOp (op : BinOp) (t : TypeId) (x y : Value) (h : plainB x y = true) : NW P (Go.binOp op t x y) := by
  have he : NW P (Op.equal t x y) := NW.equalIn 9999 t x y h
  have he1 : NW P ((do Pure.pure (Value.bool (← Op.equal t x y))) : Sem Value) := he.bind fun _ => NW.pure _
  have he2 : NW P ((do Pure.pure (Value.bool (!(← Op.equal t x y)))) : Sem Value) := he.bind fun _ => NW.pure _
  unfold plainB at h
  split at h
  all_goals first
    | (cases h; done)
    | (unfold Go.binOp
       cases op <;> dsimp only <;> first | exact he1 | exact he2 | (split <;> first | exact NW.stuck _ | exact NW.intArith _ _ _ _ | exact NW.intBits _ _ _ _ | exact NW.intDiv _ _ _ _ | exact NW.intCmp _ _ _) | exact NW.shift _ _ _ _ _ | exact NW.stringOp _ _ _ | exact NW.unsupported _ | exact NW.stuck _)
theorem RO.load (a : Addr) : RO P (Go.load a) := fun w v w' e => by
  unfold Go.load at e
  simp only [Sem.run] at e
  split at e
  · injection e with _ h; exact h.symm
  · split at e
    · injection e with _ h; exact h.symm
    · cases e
theorem RO.loadCellsFrom (a : Addr) (n : Nat) : ∀ (i : Nat) (acc : Array Value), RO P (Go.loadCellsFrom a i n acc) := by
  induction n with
  | zero => intro i acc; simp only [Go.loadCellsFrom]; exact (NW.pure _).ro
  | succ n ih => intro i acc; simp only [Go.loadCellsFrom]; exact (RO.load _).bind fun _ => ih _ _
theorem RO.loadAt (t : TypeId) (x : Value) : RO P (Instr.loadAt t x) := by
  unfold Instr.loadAt
  refine (NW.sureAddr x).ro.bind fun a => ?_
  unfold Go.loadVar
  refine (NW.isAgg t).ro.bind fun b => ?_
  split
  · refine (NW.sizeOf t).ro.bind fun n => ?_
    unfold Go.loadCells
    exact (RO.loadCellsFrom _ _ _ _).bind fun _ => (NW.pure _).ro
  · exact RO.load _
theorem NW.convertInt (s d : TypeId) (k : IntKind) (n : Int) (K : IntKind) (hd : P.underlying d = some (.int K)) : NW P (Go.convert s d (.int k n)) := by
  unfold Go.convert
  refine (NW.underlying s).bind fun ds => ?_
  intro w a w' e
  obtain ⟨dd, w1, h1, h2⟩ := run_bind_ok e
  have hu : (Go.underlying d).run P w = .ok (.int K) w := by
    unfold Go.underlying
    rw [run_bind_mk (a := P) (w1 := w) rfl]
    simp [hd, Sem.run]
  rw [hu] at h1
  injection h1 with h3 h4
  subst h3 h4
  intro w2
  have hu2 : (Go.underlying d).run P w2 = .ok (.int K) w2 := by
    unfold Go.underlying
    rw [run_bind_mk (a := P) (w1 := w2) rfl]
    simp [hd, Sem.run]
  rw [run_bind_mk hu2]
  cases ds <;> exact (NW.pure _ : NW P (Conv.intToInt K n)) w a w' h2 w2
theorem NW.fieldAt (s : TypeId) (x : Value) (f : Nat) (hf : (match P.underlying s with | some (.struct fs) => (match fs[f]? with | some g => (P.info? g.type).map (·.size) != some 0 | none => false) | _ => false) = true) : NW P (Instr.fieldAt s x f) := by
  unfold Instr.fieldAt
  intro w a w' e
  obtain ⟨d, w1, h1, h2⟩ := run_bind_ok e
  have g1 := NW.underlying s w d w1 h1
  have hd : P.underlying s = some d := by
    unfold Go.underlying at h1
    rw [run_bind_mk (a := P) (w1 := w) rfl] at h1
    split at h1
    · rename_i d' hd'; simp only [Pure.pure, Sem.run] at h1; injection h1 with h3 h4; rw [hd', h3]
    · cases h1
  rw [hd] at hf
  have e1 := NW.ro (NW.underlying s) w d w1 h1
  subst e1
  intro w2
  rw [run_bind_mk (g1 w2)]
  cases d with
  | struct fs =>
    dsimp only at h2 hf ⊢
    cases hff : fs[f]? with
    | none => rw [hff] at hf; cases hf
    | some g =>
      rw [hff] at hf h2
      dsimp only at h2 hf ⊢
      obtain ⟨p, w3, h5, h6⟩ := run_bind_ok h2
      rw [run_bind_mk (NW.sureAddr x _ _ _ h5 w2)]
      have e3 := NW.ro (NW.sureAddr x) _ _ _ h5
      subst e3
      obtain ⟨q, w4, h7, h8⟩ := run_bind_ok h6
      have hq : NW P (Go.fieldPlace p g) := by
        intro u b u' eb
        unfold Go.fieldPlace at eb
        obtain ⟨n, u1, k1, k2⟩ := run_bind_ok eb
        have hn : n ≠ 0 := by
          intro h0
          subst h0
          unfold Go.sizeOf Go.typeInfo at k1
          obtain ⟨i, u2, k3, k4⟩ := run_bind_ok k1
          rw [run_bind_mk (a := P) (w1 := u) rfl] at k3
          simp only [Pure.pure, Sem.run] at k4
          injection k4 with k5 k6
          split at k3
          · rename_i i' hi'
            simp only [Pure.pure, Sem.run] at k3
            injection k3 with k7 k8
            subst k7
            rw [hi'] at hf
            simp [k5] at hf
          · cases k3
        intro u2
        unfold Go.fieldPlace
        rw [run_bind_mk (NW.sizeOf g.type _ _ _ k1 u2)]
        rw [if_neg hn] at k2 ⊢
        exact NW.pure _ _ _ _ k2 u2
      rw [run_bind_mk (hq _ _ _ h7 w2)]
      exact NW.pure _ _ _ _ h8 w2
  | _ => cases hf
end
end Go.Proofs.YthibnhgbgmpjoaaDoor
namespace Go.Proofs.YthibnhgbgmpjoaaDoor
open Go.RowKit
set_option linter.unusedSimpArgs false
set_option linter.unusedVariables false
def fieldOk (P : Program) (s : TypeId) (f : Nat) : Bool := match P.underlying s with | some (.struct fs) => (match fs[f]? with | some g => (P.info? g.type).map (·.size) != some 0 | none => false) | _ => false
def intTo (P : Program) (d : TypeId) : Bool := match P.underlying d with | some (.int _) => true | _ => false
/-- Operations that read at most. -/
def kindQ (P : Program) (o : Oper) : Bool := match o.op with
  | .move _ | .assign _ | .pick _ _ _ | .build _ _ | .load _ _ | .binOp _ _ _ _ _ | .unOp _ _ _ | .makeInterface _ _ | .makeFunc _ _ _ | .slice _ _ _ _ _ | .field _ _ _ | .indexAddr _ _ _ | .index _ _ _ | .typeAssert _ _ _ _ | .extract _ _ | .nilCheck _ => true
  | .convert _ d _ => intTo P d
  | .fieldAddr s _ f => fieldOk P s f
  | .call c => match c.callee with | .builtin .len => true | .builtin .max => true | .builtin .min => true | _ => false
  | _ => false
def isLoad (o : Oper) : Bool := match o.op with | .load _ _ => true | _ => false
/-- Operands at which it touches no world. -/
def plainO (ρ : Operand → Value) (o : Oper) : Bool := match o.op with
  | .binOp _ _ x y _ => plainB (ρ x) (ρ y)
  | .convert _ _ x => match ρ x with | .int _ _ => true | _ => false
  | .nilCheck x => match ρ x with | .func (.method _) _ _ => false | _ => true
  | .call c => match c.callee, c.args.toList.map ρ with | .builtin .len, [.string _] => true | .builtin .len, [.slice _ _ _] => true | .builtin .max, [.int _ _, .int _ _] => true | .builtin .min, [.int _ _, .int _ _] => true | _, _ => false
  | _ => true
section
variable {P : Program}
theorem NW.v {s : Sem Value} (h : NW P s) : NW P ((do Pure.pure (Next.value (← s))) : Sem Next) := h.bind fun _ => NW.pure _
theorem RO.v {s : Sem Value} (h : RO P s) : RO P ((do Pure.pure (Next.value (← s))) : Sem Next) := h.bind fun _ => (NW.pure _).ro
theorem v_value {s : Sem Value} {w : World} {n : Next} {w' : World} (h : ((do Pure.pure (Next.value (← s))) : Sem Next).run P w = .ok n w') : ∃ v, n = .value v := by
  obtain ⟨a, w1, _, h2⟩ := run_bind_ok h
  have e : (Pure.pure (Next.value a) : Sem Next).run P w1 = .ok (.value a) w1 := rfl
  rw [e] at h2; injection h2 with h3; exact ⟨a, h3.symm⟩
theorem pure_value {v : Value} {w : World} {n : Next} {w' : World} (h : (Pure.pure (Next.value v) : Sem Next).run P w = .ok n w') : ∃ v, n = .value v := by
  have e : (Pure.pure (Next.value v) : Sem Next).run P w = .ok (.value v) w := rfl
  rw [e] at h; injection h with h3; exact ⟨v, h3.symm⟩
theorem len_exec (ρ : Operand → Value) (o : Oper) (c : Call) (ho : o.op = .call c) (hc : c.callee = .builtin .len) (w : World) : (execOp ρ o).run P w = ((do Pure.pure (Next.value (← Builtin.len_ c.argTypes o.type (c.args.map ρ)))) : Sem Next).run P w := by
  obtain ⟨dst, op, type, pos, after, guard⟩ := o
  dsimp only at ho
  subst ho
  obtain ⟨callee, args, argTypes⟩ := c
  dsimp only at hc
  subst hc
  rfl
theorem max_exec (ρ : Operand → Value) (o : Oper) (c : Call) (ho : o.op = .call c) (hc : c.callee = .builtin .max) (w : World) : (execOp ρ o).run P w = ((do Pure.pure (Next.value (← Builtin.max_ c.argTypes o.type (c.args.map ρ)))) : Sem Next).run P w := by
  obtain ⟨dst, op, type, pos, after, guard⟩ := o
  dsimp only at ho
  subst ho
  obtain ⟨callee, args, argTypes⟩ := c
  dsimp only at hc
  subst hc
  rfl
theorem min_exec (ρ : Operand → Value) (o : Oper) (c : Call) (ho : o.op = .call c) (hc : c.callee = .builtin .min) (w : World) : (execOp ρ o).run P w = ((do Pure.pure (Next.value (← Builtin.min_ c.argTypes o.type (c.args.map ρ)))) : Sem Next).run P w := by
  obtain ⟨dst, op, type, pos, after, guard⟩ := o
  dsimp only at ho
  subst ho
  obtain ⟨callee, args, argTypes⟩ := c
  dsimp only at hc
  subst hc
  rfl
theorem call_kind {c : Call} {dst : Option Tmp} {type : TypeId} {pos : String} {after : Array Edge} {guard : Option (Nat × Bool)} (hk : kindQ P ⟨dst, .call c, type, pos, after, guard⟩ = true) : c.callee = .builtin .len ∨ c.callee = .builtin .max ∨ c.callee = .builtin .min := by
  unfold kindQ at hk
  dsimp only at hk
  split at hk
  · exact Or.inl (by assumption)
  · exact Or.inr (Or.inl (by assumption))
  · exact Or.inr (Or.inr (by assumption))
  · cases hk
theorem kind_val {o : Oper} (hk : kindQ P o = true) (ρ : Operand → Value) : ∀ w n w', (execOp ρ o).run P w = .ok n w' → ∃ v, n = .value v := by
  intro w n w' h
  have ho := o
  obtain ⟨dst, op, type, pos, after, guard⟩ := o
  cases op
  case call c =>
    rcases call_kind hk with hc | hc | hc
    · rw [len_exec ρ _ c rfl hc] at h
      exact v_value h
    · rw [max_exec ρ _ c rfl hc] at h
      exact v_value h
    · rw [min_exec ρ _ c rfl hc] at h
      exact v_value h
  case nilCheck x =>
    unfold execOp at h
    dsimp only at h
    split at h
    all_goals first
      | exact pure_value h
      | exact absurd h (Nev.runtimePanic _ _ _ _)
      | skip
    split at h
    all_goals first
      | exact pure_value h
      | exact absurd h (Nev.runtimePanic _ _ _ _)
      | skip
    obtain ⟨a, w1, h1, h2⟩ := run_bind_ok h
    obtain ⟨a2, w2, h3, h4⟩ := run_bind_ok h2
    split at h4
    · obtain ⟨a3, w3, h5, h6⟩ := run_bind_ok h4
      exact pure_value h6
    · first | exact pure_value h4 | (obtain ⟨a3, w3, h5, h6⟩ := run_bind_ok h4; exact pure_value h6)
  all_goals first
    | (cases hk; done)
    | (unfold execOp at h; dsimp only at h; first | exact pure_value h | exact v_value h)
    | (unfold execOp at h; dsimp only at h; obtain ⟨a, w1, h1, h2⟩ := run_bind_ok h; exact pure_value h2)
theorem kind_nw {o : Oper} (hk : kindQ P o = true) (hl : isLoad o = false) {ρ : Operand → Value} (hp : plainO ρ o = true) : NW P (execOp ρ o) := by
  obtain ⟨dst, op, type, pos, after, guard⟩ := o
  cases op
  case call c =>
    obtain ⟨callee, args, argTypes⟩ := c
    unfold plainO at hp
    dsimp only at hp
    have ha : args.map ρ = (args.toList.map ρ).toArray := by rw [← Array.toList_map]
    intro w a w' h w2
    rcases call_kind hk with hc | hc | hc <;> (dsimp only at hc; subst hc)
    · rw [len_exec ρ _ _ rfl rfl] at h ⊢
      dsimp only at h ⊢
      rw [ha] at h ⊢
      split at hp
      all_goals first
        | (rename_i hq; rw [hq] at h ⊢; exact (NW.len _ _ _).v w a w' h w2)
        | (rename_i hq; rw [hq] at h ⊢; exact (NW.lenS _ _ _ _ _).v w a w' h w2)
        | (rename_i he; cases he; done)
        | (rename_i he _; cases he; done)
        | (cases hp; done)
    · rw [max_exec ρ _ _ rfl rfl] at h ⊢
      dsimp only at h ⊢
      rw [ha] at h ⊢
      split at hp
      all_goals first
        | (rename_i hq; rw [hq] at h ⊢; exact (NW.max _ _ _ _ _ _).v w a w' h w2)
        | (rename_i he _; cases he; done)
        | (rename_i he; cases he; done)
        | (cases hp; done)
    · rw [min_exec ρ _ _ rfl rfl] at h ⊢
      dsimp only at h ⊢
      rw [ha] at h ⊢
      split at hp
      all_goals first
        | (rename_i hq; rw [hq] at h ⊢; exact (NW.min _ _ _ _ _ _).v w a w' h w2)
        | (rename_i he _; cases he; done)
        | (rename_i he; cases he; done)
        | (cases hp; done)
  case nilCheck x =>
    unfold plainO at hp
    dsimp only at hp
    unfold execOp
    dsimp only
    split
    all_goals first
      | exact NW.pure _
      | exact (Nev.runtimePanic _).nw
      | (rename_i hq; rw [hq] at hp; cases hp)
  case binOp =>
    unfold execOp
    exact ((NW.eqGuard _ _ _ _ _ _ hp).bind fun _ => NW.binOp _ _ _ _ hp).v
  case convert s d x =>
    unfold plainO at hp
    dsimp only at hp
    unfold kindQ intTo at hk
    dsimp only at hk
    unfold execOp
    dsimp only
    split at hp
    · rename_i k n hq
      rw [hq]
      split at hk
      · rename_i K hK
        exact (NW.convertInt s d k n K hK).v
      · cases hk
    · cases hp
  case fieldAddr s x f => unfold execOp; exact (NW.fieldAt s (ρ x) f hk).v
  case load => cases hl
  all_goals first
    | (cases hk; done)
    | (unfold execOp; dsimp only; first | exact NW.pure _ | exact (NW.asBool _).bind fun _ => NW.pure _ | exact (NW.build _ _).v | exact (NW.unary _ _).v | exact (NW.makeInterface _ _).v | exact (NW.makeFunc _ _ _).v | exact (NW.sliceAt _ _ _ _ _).v | exact (NW.field _ _ _).v | exact (NW.indexAt _ _ _).v | exact (NW.index _ _ _).v | exact (NW.typeAssert _ _ _ _).v | exact (NW.extract _ _).v)
theorem kind_ro {o : Oper} (hk : kindQ P o = true) {ρ : Operand → Value} (hp : plainO ρ o = true) : RO P (execOp ρ o) := by
  cases hl : isLoad o with
  | false => exact (kind_nw hk hl hp).ro
  | true =>
    obtain ⟨dst, op, type, pos, after, guard⟩ := o
    cases op
    case load t x => unfold execOp; exact (RO.loadAt t (ρ x)).v
    all_goals cases hl
end
end Go.Proofs.YthibnhgbgmpjoaaDoor
namespace Go.Proofs.YthibnhgbgmpjoaaDoor
open Go.RowKit
set_option linter.unusedSimpArgs false
set_option linter.unusedVariables false
/-- It ends as it should, and K holds. -/
def Nrm (K : Act → World → Prop) : Exit → Act → World → Prop := fun e a w => e = .normal ∧ K a w
def qI (P : Program) (ops : Array Oper) (i : Nat) : Bool := match ops[i]? with | some o => kindQ P o | none => true
theorem plainO_congr {ρ ρ' : Operand → Value} (o : Oper) (h : ∀ x ∈ o.op.operands, ρ x = ρ' x) : plainO ρ o = plainO ρ' o := by
  obtain ⟨dst, op, type, pos, after, guard⟩ := o
  cases op
  case binOp op t x y u => unfold plainO; dsimp only; rw [h x (by simp [Op.operands]), h y (by simp [Op.operands])]
  case convert s d x => unfold plainO; dsimp only; rw [h x (by simp [Op.operands])]
  case nilCheck x => unfold plainO; dsimp only; rw [h x (by simp [Op.operands])]
  case call c =>
    have e : c.args.toList.map ρ = c.args.toList.map ρ' := List.map_congr_left fun x hx => h x (by simp [Op.operands, Call.operands]; right; simpa using hx)
    unfold plainO; dsimp only; rw [e]
  all_goals rfl
section
variable {P : Program} {ops : Array Oper} {K : Act → World → Prop} {S : World → Prop}
/-- Whatever order is picked: operations that read at most leave the world, S holds behind each. -/
def wpA (P : Program) (ops : Array Oper) (K : Act → World → Prop) (S : World → Prop) : Nat → Array Bool → Act → World → Prop
  | 0, l, a, w => Region.ready .any ops l = [] ∧ K a w
  | fuel + 1, l, a, w => (Region.ready .any ops l = [] → K a w) ∧
    ∀ i ∈ Region.ready .any ops l, wpOp P ops (Nrm K) i (fun a' w' => (qI P ops i = true → w' = w) ∧ S w' ∧ wpA P ops K S fuel (l.setIfInBounds i true) a' w') a w
/-- It yields v and leaves the world: at once, or as a call that does. -/
def Rn (P : Program) (m : Sem Next) (w : World) (v : Value) : Prop := m.run P w = .ok (.value v) w ∨ ∃ f args, m.run P w = .ok (.enter f args) w ∧ Calls P f args w fun e w' => e = .returned v ∧ w' = w
def YC (P : Program) (ops : Array Oper) (T : World → Prop) (o : Oper) (v : Value) (a : Act) : Prop :=
  (Region.wanted o (yielded ops a.tmps) = true ∧ ∀ w, T w → Rn P (execOp a.eval o) w v) ∨ (Region.wanted o (yielded ops a.tmps) = false ∧ v = undef)
theorem toYC {T : World → Prop} {o : Oper} {v : Value} {a : Act} (h : YieldsIf P ops T o v a) : YC P ops T o v a := h.imp (fun ⟨hw, hv⟩ => ⟨hw, fun w hT => Or.inl (hv w hT)⟩) id
theorem YC.same {T : World → Prop} {o : Oper} {v : Value} {a a' : Act} (hy : YC P ops T o v a) (he : execOp a'.eval o = execOp a.eval o) (hw : Region.wanted o (yielded ops a'.tmps) = Region.wanted o (yielded ops a.tmps)) : YC P ops T o v a' := by
  unfold YC at *; rw [he, hw]; exact hy
theorem YC.op {T : World → Prop} {R : Act → World → Prop} {i : Nat} {o : Oper} {v : Value} {a : Act} (hi : ops[i]? = some o) (hy : YC P ops T o v a) {K0 : Act → World → Prop} {w : World} (hT : T w) (h : K0 (a.put o.dst v) w) : wpOp P ops (Nrm R) i K0 a w := by
  unfold wpOp
  simp only [hi]
  rcases hy with ⟨hw, hv⟩ | ⟨hw, rfl⟩
  · rw [if_pos hw]
    refine Or.inl ?_
    unfold Oper.wp
    rcases hv w hT with hr | ⟨f, args, hr, hc⟩
    · rw [hr]; exact h
    · rw [hr, Oper.upon_enter]
      refine hc.mono fun e w' ⟨he, hw'⟩ => ?_
      subst he hw'
      exact h
  · rw [if_neg (by rw [hw]; simp)]; exact h
/-- Another operation first, where the two are apart. -/
theorem wpOp_putC {j : Nat} {oi oj : Oper} {v : Value} {T : World → Prop} {R : Act → World → Prop} (hj : ops[j]? = some oj) (hap : oi.apart ops oj = true) (hsi : ∀ cs b, oi.op ≠ .select cs b) (hsj : ∀ cs b, oj.op ≠ .select cs b)
    {K0 : Act → World → Prop} {a : Act} {w : World} (hy : YC P ops T oi v a) (h : wpOp P ops (Nrm R) j K0 (a.put oi.dst v) w) :
    wpOp P ops (Nrm R) j (fun a' w' => YC P ops T oi v a' ∧ K0 (a'.put oi.dst v) w') a w := by
  obtain ⟨h1, h2, h3⟩ := Oper.apart_spec hap
  have keep : ∀ u, YC P ops T oi v (a.put oj.dst u) := fun u => hy.same (execOp_put oi hsi a oj.dst u h3) (wanted_put oi a oj.dst u h3)
  have keepD : ∀ d u, YC P ops T oi v (({ a with defers := d :: a.defers } : Act).put oj.dst u) := fun d u => by
    have h0 : YC P ops T oi v { a with defers := d :: a.defers } := hy.same rfl rfl
    exact h0.same (execOp_put oi hsi _ oj.dst u h3) (wanted_put oi _ oj.dst u h3)
  have eqE := execOp_put oj hsj a oi.dst v h1
  have eqW := wanted_put oj a oi.dst v h1
  have sw : ∀ u, (a.put oj.dst u).put oi.dst v = (a.put oi.dst v).put oj.dst u := fun u => (Act.put_comm a v u h2).symm
  unfold wpOp at h ⊢
  simp only [hj, eqW] at h ⊢
  by_cases hw : Region.wanted oj (yielded ops a.tmps) = true
  · rw [if_pos hw] at h ⊢
    rcases h with h | ⟨_, _, _, h⟩
    · refine Or.inl ?_
      unfold Oper.wp at h ⊢
      rw [eqE] at h
      cases hr : (execOp a.eval oj).run P w with
      | halt x w' => rw [hr] at h; cases x <;> first | exact h.elim | cases h.1
      | ok n w' =>
        rw [hr] at h
        cases n
        case value u => exact ⟨keep u, by rw [sw]; exact h⟩
        case skip => exact ⟨keep undef, by rw [sw]; exact h⟩
        case defer d => exact ⟨keepD d undef, by rw [← Act.put_comm _ v undef h2, ← Act.put_defers]; exact h⟩
        case enter f args =>
          rw [Oper.upon_enter] at h ⊢
          refine h.mono fun e w'' he => ?_
          cases e with
          | returned u => exact ⟨keep u, by rw [sw]; exact he⟩
          | panicked c => cases he.1
          | outgrown => exact he
        case row r args => exact Rows.mono h fun u w'' he => ⟨keep u, by rw [sw]; exact he⟩
        all_goals exact h
    · cases h.1
  · rw [if_neg hw] at h ⊢
    exact ⟨keep undef, by rw [sw]; exact h⟩
theorem wpA_any : ∀ (fuel : Nat) (l : Array Bool) (a : Act) (w : World), wpA P ops K S fuel l a w → wpAny P .any ops (Nrm K) fuel l a w
  | 0, _, _, _, h => ⟨h.1, rfl, h.2⟩
  | fuel + 1, _, _, _, h => ⟨fun e => ⟨rfl, h.1 e⟩, fun i hi => wpOp_mono (fun a' w' h' => wpA_any fuel _ a' w' h'.2.2) (h.2 i hi)⟩
theorem wpA_take {i : Nat} {oi : Oper} {v : Value} {T : World → Prop} (hi : ops[i]? = some oi) (hsel : ∀ (j : Nat) (o : Oper) cs b, ops[j]? = some o → o.op ≠ .select cs b)
    (Inv : Array Bool → Prop) (hinv : ∀ l, Inv l → i ∈ Region.ready .any ops l → ∀ j ∈ Region.ready .any ops l, j ≠ i → Inv (l.setIfInBounds j true) ∧ ∀ w w', T w → (qI P ops j = true → w' = w) → S w' → T w') :
    ∀ (fuel : Nat) (l : Array Bool) (a : Act) (w : World), Inv l →
      (∀ j oj, ops[j]? = some oj → j ≠ i → l.getD j true = false → (∀ e ∈ oj.after, Region.binds .any e = true → e.on ≠ i) → oi.apart ops oj = true) →
      i ∈ Region.ready .any ops l → YC P ops T oi v a → T w → S w →
      wpA P ops K S fuel (l.setIfInBounds i true) (a.put oi.dst v) w → wpA P ops K S (fuel + 1) l a w := by
  intro fuel
  induction fuel with
  | zero =>
    intro l a w hI _ hr hy hT hS H
    refine ⟨fun h => (by rw [h] at hr; cases hr), fun j hj => ?_⟩
    by_cases hji : j = i
    · subst hji; exact hy.op hi hT ⟨fun _ => rfl, hS, H⟩
    · have := ready_mono hj hji
      rw [H.1] at this
      cases this
  | succ fuel ih =>
    intro l a w hI hfree hr hy hT hS H
    refine ⟨fun h => (by rw [h] at hr; cases hr), fun j hj => ?_⟩
    by_cases hji : j = i
    · subst hji; exact hy.op hi hT ⟨fun _ => rfl, hS, H⟩
    · have h1 := H.2 j (ready_mono hj hji)
      obtain ⟨hjun, oj, hoj, hall⟩ := mem_ready.1 hj
      have hnot : ∀ e ∈ oj.after, Region.binds .any e = true → e.on ≠ i := fun e he hb heq => by
        have h1 := hall e he hb
        have h0 := (mem_ready.1 hr).1
        rw [heq] at h1
        rcases Nat.lt_or_ge i l.size with h' | h'
        · simp [h'] at h0 h1; rw [h0] at h1; cases h1
        · simp [Array.getElem?_eq_none h'] at h1
      have h2 := wpOp_putC hoj (hfree j oj hoj hji hjun hnot) (fun cs b => hsel i oi cs b hi) (fun cs b => hsel j oj cs b hoj) hy h1
      have hfree' : ∀ k ok, ops[k]? = some ok → k ≠ i → (l.setIfInBounds j true).getD k true = false →
          (∀ e ∈ ok.after, Region.binds .any e = true → e.on ≠ i) → oi.apart ops ok = true := fun k ok hk hki hun hno => by
        refine hfree k ok hk hki ?_ hno
        by_cases hjk : j = k
        · subst hjk; exact hjun
        · rw [getD_set_ne true hjk] at hun; exact hun
      obtain ⟨hI', hstep⟩ := hinv l hI hr j hj hji
      refine wpOp_mono (fun a' w' h3 => ⟨h3.2.1, h3.2.2.1, ih (l.setIfInBounds j true) a' w' hI' hfree' (ready_mono hr (Ne.symm hji)) h3.1 (hstep w w' hT h3.2.1 h3.2.2.1) h3.2.2.1 ?_⟩) h2
      rw [Array.setIfInBounds_comm _ _ hji]
      exact h3.2.2.2
/-- Who waits for number i, at first hand or not. -/
def waits (ops : Array Oper) (i : Nat) : Array Bool :=
  (List.range ops.size).foldl (fun D k => D.push (match ops[k]? with | some o => o.after.any (fun e => Region.binds .any e && (e.on == i || D.getD e.on false)) | none => false)) #[]
/-- Each that does more than read was listed, or waits for number i. -/
def okD (P : Program) (ops : Array Oper) (l : Array Bool) (i : Nat) (D : Array Bool) : Bool :=
  decide (D.size ≤ ops.size) && (List.range ops.size).all fun k => (l.getD k true || qI P ops k || D.getD k false) &&
    (!D.getD k false || (!l.getD k false && (match ops[k]? with | some o => o.after.any (fun e => Region.binds .any e && (e.on == i || D.getD e.on false)) | none => false)))
def InvD (ops : Array Oper) (l0 D l : Array Bool) : Prop := (∀ k, l0.getD k true = true → l.getD k true = true) ∧ ∀ k, k < ops.size → D.getD k false = true → l.getD k false = false
theorem invD_step {l0 D : Array Bool} {i : Nat} (hD : okD P ops l0 i D = true) (l : Array Bool) (hI : InvD ops l0 D l) (hr : i ∈ Region.ready .any ops l) (j : Nat) (hj : j ∈ Region.ready .any ops l) (hji : j ≠ i) :
    InvD ops l0 D (l.setIfInBounds j true) ∧ qI P ops j = true := by
  obtain ⟨hjun, oj, hoj, hall⟩ := mem_ready.1 hj
  have hlt : j < ops.size := (Array.getElem?_eq_some_iff.1 hoj).1
  have hi0 : l.getD i false = false := by
    have h0 := (mem_ready.1 hr).1
    rcases Nat.lt_or_ge i l.size with h' | h'
    · simp [h'] at h0 ⊢; exact h0
    · simp [Array.getElem?_eq_none h']
  simp only [okD, List.all_eq_true, List.mem_range, Bool.and_eq_true, Bool.or_eq_true, decide_eq_true_eq] at hD
  obtain ⟨hds, hD⟩ := hD
  obtain ⟨h1, h2⟩ := hD j hlt
  have hDj : D.getD j false = false := by
    cases hd : D.getD j false with
    | false => rfl
    | true =>
      rw [hd] at h2
      simp only [Bool.not_true, Bool.false_eq_true, false_or, Bool.not_eq_true', hoj] at h2
      obtain ⟨e, he, hb⟩ := Array.any_eq_true'.1 h2.2
      simp only [Bool.and_eq_true, Bool.or_eq_true, beq_iff_eq] at hb
      have h3 := hall e he hb.1
      rcases hb.2 with h4 | h4
      · rw [h4, hi0] at h3; cases h3
      · have hlt2 : e.on < ops.size := by
          rcases Nat.lt_or_ge e.on ops.size with h' | h'
          · exact h'
          · rw [Array.getD_eq_getD_getElem?, Array.getElem?_eq_none (by omega)] at h4; cases h4
        rw [hI.2 _ hlt2 h4] at h3; cases h3
  refine ⟨⟨fun k hk => ?_, fun k hks hk => ?_⟩, ?_⟩
  · have := hI.1 k hk
    by_cases hjk : j = k
    · subst hjk; rw [this] at hjun; cases hjun
    · rw [getD_set_ne true hjk]; exact this
  · have hjk : j ≠ k := fun e => by rw [← e, hDj] at hk; cases hk
    rw [getD_set_ne false hjk]; exact hI.2 k hks hk
  · rcases h1 with (h1 | h1) | h1
    · rw [hI.1 j h1] at hjun; cases hjun
    · exact h1
    · rw [hDj] at h1; cases h1
theorem invD_start {l D : Array Bool} {i : Nat} (hD : okD P ops l i D = true) : InvD ops l D l := by
  simp only [okD, List.all_eq_true, List.mem_range, Bool.and_eq_true, Bool.or_eq_true, decide_eq_true_eq] at hD
  refine ⟨fun k h => h, fun k hk hd => ?_⟩
  have h2 := (hD.2 k hk).2
  rw [hd] at h2
  simp only [Bool.not_true, Bool.false_eq_true, false_or, Bool.not_eq_true'] at h2
  exact h2.1
/-- What follows operation o where it goes well. -/
theorem wp_ok {o : Oper} {a : Act} {w : World} {R : Act → World → Prop} {K0 : Act → World → Prop} (h : o.wp P a w K0 (Nrm R) ∨ (o.asks P a w ∧ LetsOut (Nrm R))) (hk : kindQ P o = true) : ∃ v w1, (execOp a.eval o).run P w = .ok (.value v) w1 ∧ K0 (a.put o.dst v) w1 := by
  rcases h with h | ⟨_, _, _, h⟩
  · unfold Oper.wp at h
    cases hr : (execOp a.eval o).run P w with
    | ok n w1 =>
      obtain ⟨v, rfl⟩ := kind_val hk a.eval w n w1 hr
      rw [hr, Oper.upon_value] at h
      exact ⟨v, w1, rfl, h⟩
    | halt x w1 =>
      rw [hr] at h
      cases x <;> first | exact h.elim | cases h.1
  · cases h.1
def pickO (ops : Array Oper) (is : List Nat) : List Oper := is.filterMap (ops[·]?)
/-- Where all goes well: the last act, which differs in what was written alone. -/
theorem wpList_last {R : Act → World → Prop} : ∀ (m : List Oper) (a : Act) (w : World), (∀ o ∈ m, kindQ P o = true) → wpList P ops (Nrm R) m a w → ∃ A w', R A w' ∧ ∀ t, (∀ o ∈ m, o.dst ≠ some t) → A.tmps[t]? = a.tmps[t]?
  | [], a, w, _, h => ⟨a, w, h.2, fun _ _ => rfl⟩
  | o :: m, a, w, hk, h => by
    have put_ne : ∀ (v : Value) t, o.dst ≠ some t → (a.put o.dst v).tmps[t]? = a.tmps[t]? := by
      intro v t ht
      unfold Act.put
      cases hd : o.dst with
      | none => rfl
      | some d =>
        have hne : d ≠ t := fun e => ht (by rw [hd, e])
        simp [Array.getElem?_setIfInBounds_ne hne]
    have key : ∃ v w1, wpList P ops (Nrm R) m (a.put o.dst v) w1 := by
      unfold wpList at h
      split at h
      · obtain ⟨v, w1, _, h2⟩ := wp_ok h (hk o (by simp))
        exact ⟨v, w1, h2⟩
      · exact ⟨undef, w, h⟩
    obtain ⟨v, w1, h1⟩ := key
    obtain ⟨A, w', hR, hA⟩ := wpList_last m _ w1 (fun o' h' => hk o' (by simp [h'])) h1
    exact ⟨A, w', hR, fun t ht => (hA t fun o' h' => ht o' (by simp [h'])).trans (put_ne v t (ht o (by simp)))⟩
/-- Each operation of a list was plain. -/
def plainL (ops : Array Oper) (m : List Oper) (a : Act) : Bool := m.all fun o => !Region.wanted o (yielded ops a.tmps) || plainO a.eval o
def okRun (P : Program) (ops : Array Oper) : List Nat → Array Bool → Bool
  | [], _ => true
  | i :: is, l => (match ops[i]? with
      | some o => kindQ P o && (!isLoad o || okD P ops l i (waits ops i)) && (i :: is).all (fun j => match (ops[j]?).bind (·.dst) with | some d => !(o.looksAt ops).contains d | none => true)
      | none => false) && Region.free .any ops l i && (Region.ready .any ops l).contains i && okRun P ops is (l.setIfInBounds i true)
def setAll : List Nat → Array Bool → Array Bool
  | [], l => l
  | i :: is, l => setAll is (l.setIfInBounds i true)
theorem run_step (hsel : ∀ (j : Nat) (o : Oper) cs b, ops[j]? = some o → o.op ≠ .select cs b) {C : Act → World → Prop} {m : List Oper} : ∀ (is : List Nat) (l : Array Bool) (a : Act) (w : World) (fuel : Nat), okRun P ops is l = true → (∀ o ∈ pickO ops is, o ∈ m) → S w →
    wpList P ops (Nrm fun a' w' => plainL ops m a' = true ∧ C a' w') (pickO ops is) a w → (∀ A, C A w → wpA P ops K S fuel (setAll is l) A w) → wpA P ops K S (fuel + is.length) l a w
  | [], l, a, w, fuel, _, _, _, h, hC => hC a h.2.2
  | i :: is, l, a, w, fuel, hok, hm, hS, h, hC => by
    rw [okRun] at hok
    simp only [Bool.and_eq_true] at hok
    obtain ⟨⟨⟨h1, h2⟩, h3⟩, h4⟩ := hok
    cases hi : ops[i]? with
    | none => rw [hi] at h1; cases h1
    | some o =>
      rw [hi] at h1
      simp only [Bool.and_eq_true] at h1
      obtain ⟨⟨hk, hd⟩, hdst⟩ := h1
      have hpick : pickO ops (i :: is) = o :: pickO ops is := by simp [pickO, hi]
      rw [hpick] at h hm
      have hquiet : ∀ (is : List Nat) (l : Array Bool), okRun P ops is l = true → ∀ o ∈ pickO ops is, kindQ P o = true := by
        intro is
        induction is with
        | nil => intro l _ o ho; simp [pickO] at ho
        | cons i is ih =>
          intro l hl o ho
          rw [okRun] at hl
          simp only [Bool.and_eq_true] at hl
          obtain ⟨⟨⟨g1, g2⟩, g3⟩, g4⟩ := hl
          cases hi : ops[i]? with
          | none => rw [hi] at g1; cases g1
          | some o' =>
            rw [hi] at g1
            have e : pickO ops (i :: is) = o' :: pickO ops is := by simp [pickO, hi]
            rw [e] at ho
            rcases List.mem_cons.1 ho with rfl | ho
            · simp only [Bool.and_eq_true] at g1; exact g1.1.1
            · exact ih _ g4 o ho
      -- the last act is plain at o, so this one is
      have hplain : Region.wanted o (yielded ops a.tmps) = true → plainO a.eval o = true := by
        intro hwt
        obtain ⟨A, w', ⟨hp, _⟩, hA⟩ := wpList_last (o :: pickO ops is) a w (by
          intro o' ho'
          rcases List.mem_cons.1 ho' with rfl | ho'
          · exact hk
          · exact hquiet is _ h4 o' ho') h
        have hat : ∀ t, t ∈ o.looksAt ops → A.tmps[t]? = a.tmps[t]? := by
          intro t hmem
          refine hA t fun o' ho' he => ?_
          have hin : ∃ j ∈ i :: is, ops[j]? = some o' := by
            rcases List.mem_cons.1 ho' with rfl | ho'
            · exact ⟨i, by simp, hi⟩
            · obtain ⟨j, hj, e⟩ := List.mem_filterMap.1 ho'
              exact ⟨j, by simp [hj], e⟩
          obtain ⟨j, hj, e⟩ := hin
          have := List.all_eq_true.1 hdst j hj
          rw [e] at this
          simp only [Option.bind_some, he, Bool.not_eq_true'] at this
          have : (o.looksAt ops).contains t = true := by simpa using hmem
          simp_all
        have hwA : Region.wanted o (yielded ops A.tmps) = true := by
          rw [← hwt]
          unfold Region.wanted
          cases hg : o.guard with
          | none => rfl
          | some gw =>
            obtain ⟨g, want⟩ := gw
            have hy : yielded ops A.tmps g = yielded ops a.tmps g := by
              unfold yielded
              cases ht : (ops[g]?).bind (·.dst) with
              | none => rfl
              | some t => simp only [Option.bind_some, hat t (by simp [Oper.looksAt, hg, ht])]
            simp only [hy]
        have hpo := (List.all_eq_true.1 hp) o (hm o (by simp))
        rw [hwA] at hpo
        have hpo : plainO A.eval o = true := by simpa using hpo
        rw [← hpo]
        refine plainO_congr o fun x hx => ?_
        cases x with
        | tmp t =>
          have := hat t (List.mem_append_left _ (List.mem_filterMap.2 ⟨.tmp t, by simpa using hx, rfl⟩))
          simp only [Act.eval, Array.getD_eq_getD_getElem?]
          rw [this]
        | _ => rfl
      have hrest : ∃ v, (YieldsIf P ops (fun w' => isLoad o = false ∨ w' = w) o v a) ∧ wpList P ops (Nrm fun a' w' => plainL ops m a' = true ∧ C a' w') (pickO ops is) (a.put o.dst v) w := by
        unfold wpList at h
        split at h
        · rename_i hwant
          obtain ⟨v, w1, hr, h5⟩ := wp_ok h hk
          have hw1 := kind_ro hk (hplain hwant) w _ w1 hr
          subst hw1
          refine ⟨v, Or.inl ⟨hwant, fun w' hw' => ?_⟩, h5⟩
          rcases hw' with hl | rfl
          · exact kind_nw hk hl (hplain hwant) _ _ _ hr w'
          · exact hr
        · rename_i hwant
          exact ⟨undef, Or.inr ⟨by simpa using hwant, rfl⟩, h⟩
      obtain ⟨v, hy, h6⟩ := hrest
      have IH := run_step hsel is (l.setIfInBounds i true) (a.put o.dst v) w fuel h4 (fun o' ho' => hm o' (by simp [ho'])) hS h6 hC
      rw [List.length_cons, ← Nat.add_assoc]
      cases hl : isLoad o with
      | false =>
        refine wpA_take (T := fun w' => isLoad o = false ∨ w' = w) hi hsel (fun _ => True) (fun l' _ _ j _ _ => ⟨trivial, fun _ _ _ _ _ => Or.inl hl⟩) _ l a w trivial (Region.free_spec hi h2) (by simpa using h3) (toYC hy) (Or.inl hl) hS IH
      | true =>
        have hD : okD P ops l i (waits ops i) = true := by rw [hl] at hd; simpa using hd
        refine wpA_take (T := fun w' => isLoad o = false ∨ w' = w) hi hsel (InvD ops l (waits ops i)) (fun l' hI hr j hj hji => ?_) _ l a w (invD_start hD) (Region.free_spec hi h2) (by simpa using h3) (toYC hy) (Or.inr rfl) hS IH
        obtain ⟨g1, g2⟩ := invD_step hD l' hI hr j hj hji
        exact ⟨g1, fun w1 w2 hT hq _ => by rw [hq g2]; exact hT⟩
/-- In which order a region is gone through. -/
inductive Plan where
  | fin
  | run (is : List Nat) (p : Plan)
  | held (i : Nat) (p : Plan)
  | ev (i : Nat) (p : Plan)
  | two (i j : Nat) (p q : Plan)
  | alt (i j : Nat) (p q : Plan)
def Plan.len : Plan → Nat
  | .fin => 0
  | .run is p => p.len + is.length
  | .held _ p => p.len + 1
  | .ev _ p => p.len + 1
  | .two _ _ p q => max p.len q.len + 1
  | .alt _ _ p q => max p.len q.len + 1
def Plan.ok (P : Program) (ops : Array Oper) : Plan → Array Bool → Bool
  | .fin, l => (Region.ready .any ops l).isEmpty
  | .run is p, l => okRun P ops is l && p.ok P ops (setAll is l)
  | .held i p, l => (ops[i]?).isSome && Region.free .any ops l i && (Region.ready .any ops l).contains i && p.ok P ops (l.setIfInBounds i true)
  | .ev i p, l => !qI P ops i && (Region.ready .any ops l == [i]) && p.ok P ops (l.setIfInBounds i true)
  | .two i j p q, l => !qI P ops i && !qI P ops j && (Region.ready .any ops l == [i, j]) && p.ok P ops (l.setIfInBounds i true) && q.ok P ops (l.setIfInBounds j true)
  | .alt i j p q, l => (ops[i]?).isSome && !qI P ops j && (Region.ready .any ops l).all (fun k => k == i || k == j) && !(Region.ready .any ops l).isEmpty && p.ok P ops (l.setIfInBounds i true) && q.ok P ops (l.setIfInBounds j true)
/-- What is to be shown along a plan. -/
def Plan.wp (P : Program) (ops : Array Oper) (S : World → Prop) (K : Act → World → Prop) : Plan → Act → World → Prop
  | .fin, a, w => K a w
  | .run is p, a, w => wpList P ops (Nrm fun a' w' => plainL ops (pickO ops is) a' = true ∧ p.wp P ops S K a' w') (pickO ops is) a w
  | .held i p, a, w => ∀ o, ops[i]? = some o → ∃ v, YC P ops S o v a ∧ p.wp P ops S K (a.put o.dst v) w
  | .ev i p, a, w => wpList P ops (Nrm fun a' w' => S w' ∧ p.wp P ops S K a' w') (pickO ops [i]) a w
  | .two i j p q, a, w => wpList P ops (Nrm fun a' w' => S w' ∧ p.wp P ops S K a' w') (pickO ops [i]) a w ∧ wpList P ops (Nrm fun a' w' => S w' ∧ q.wp P ops S K a' w') (pickO ops [j]) a w
  | .alt i j p q, a, w => wpList P ops (Nrm fun a' w' => w' = w ∧ p.wp P ops S K a' w') (pickO ops [i]) a w ∧ wpList P ops (Nrm fun a' w' => S w' ∧ q.wp P ops S K a' w') (pickO ops [j]) a w
theorem wpA_fin {l : Array Bool} {a : Act} {w : World} (hr : Region.ready .any ops l = []) (h : K a w) : ∀ fuel, wpA P ops K S fuel l a w
  | 0 => ⟨hr, h⟩
  | _ + 1 => ⟨fun _ => h, by rw [hr]; simp⟩
theorem ev_op {i : Nat} {fuel : Nat} {l : Array Bool} {a : Act} {w : World} {C : Act → World → Prop} (hq : qI P ops i = false) (h : wpList P ops (Nrm fun a' w' => S w' ∧ C a' w') (pickO ops [i]) a w)
    (hC : ∀ a' w', S w' → C a' w' → wpA P ops K S fuel (l.setIfInBounds i true) a' w') : wpOp P ops (Nrm K) i (fun a' w' => (qI P ops i = true → w' = w) ∧ S w' ∧ wpA P ops K S fuel (l.setIfInBounds i true) a' w') a w := by
  unfold wpOp
  cases hi : ops[i]? with
  | none => simp [qI, hi] at hq
  | some o =>
    have hpick : pickO ops [i] = [o] := by simp [pickO, hi]
    rw [hpick] at h
    unfold wpList at h
    dsimp only
    have hnil : ∀ a' w', wpList P ops (Nrm fun a' w' => S w' ∧ C a' w') [] a' w' → (qI P ops i = true → w' = w) ∧ S w' ∧ wpA P ops K S fuel (l.setIfInBounds i true) a' w' :=
      fun a' w' h' => ⟨(fun e => by rw [hq] at e; cases e), h'.2.1, hC a' w' h'.2.1 h'.2.2⟩
    split
    · rename_i hw
      rw [if_pos hw] at h
      rcases h with h | ⟨_, _, _, h⟩
      · refine Or.inl ?_
        have h2 := Oper.wp_mono hnil h
        unfold Oper.wp at h2 ⊢
        generalize (execOp a.eval o).run P w = r at h2 ⊢
        cases r with
        | ok n w' =>
          cases n <;> simp only [Oper.upon] at h2 ⊢ <;> first
            | exact h2
            | (exact Calls.mono h2 (fun e w'' he => by cases e <;> first | exact he | (cases he.1) | (obtain ⟨_, _, he⟩ := he; cases he.1)))
        | halt x w' => cases x <;> simp only [Oper.upon] at h2 ⊢ <;> first | exact h2 | cases h2.1
      · cases h.1
    · rename_i hw
      rw [if_neg hw] at h
      exact hnil _ _ h
theorem quiet_op {i : Nat} {fuel : Nat} {l : Array Bool} {a : Act} {w : World} {C : Act → World → Prop} (hs : (ops[i]?).isSome = true) (hS : S w) (h : wpList P ops (Nrm fun a' w' => w' = w ∧ C a' w') (pickO ops [i]) a w)
    (hC : ∀ a', C a' w → wpA P ops K S fuel (l.setIfInBounds i true) a' w) : wpOp P ops (Nrm K) i (fun a' w' => (qI P ops i = true → w' = w) ∧ S w' ∧ wpA P ops K S fuel (l.setIfInBounds i true) a' w') a w := by
  unfold wpOp
  cases hi : ops[i]? with
  | none => simp [hi] at hs
  | some o =>
    have hpick : pickO ops [i] = [o] := by simp [pickO, hi]
    rw [hpick] at h
    unfold wpList at h
    dsimp only
    have hnil : ∀ a' w', wpList P ops (Nrm fun a' w' => w' = w ∧ C a' w') [] a' w' → (qI P ops i = true → w' = w) ∧ S w' ∧ wpA P ops K S fuel (l.setIfInBounds i true) a' w' :=
      fun a' w' h' => by obtain ⟨_, rfl, h3⟩ := h'; exact ⟨fun _ => rfl, hS, hC a' h3⟩
    split
    · rename_i hw
      rw [if_pos hw] at h
      rcases h with h | ⟨_, _, _, h⟩
      · refine Or.inl ?_
        have h2 := Oper.wp_mono hnil h
        unfold Oper.wp at h2 ⊢
        generalize (execOp a.eval o).run P w = r at h2 ⊢
        cases r with
        | ok n w' =>
          cases n <;> simp only [Oper.upon] at h2 ⊢ <;> first
            | exact h2
            | (exact Calls.mono h2 (fun e w'' he => by cases e <;> first | exact he | (cases he.1) | (obtain ⟨_, _, he⟩ := he; cases he.1)))
        | halt x w' => cases x <;> simp only [Oper.upon] at h2 ⊢ <;> first | exact h2 | cases h2.1
      · cases h.1
    · rename_i hw
      rw [if_neg hw] at h
      exact hnil _ _ h
theorem plan_wpA (hsel : ∀ (j : Nat) (o : Oper) cs b, ops[j]? = some o → o.op ≠ .select cs b) : ∀ (p : Plan) (l : Array Bool) (a : Act) (w : World) (fuel : Nat), p.ok P ops l = true → S w → p.wp P ops S K a w → wpA P ops K S (fuel + p.len) l a w
  | .fin, l, a, w, fuel, hok, _, h => wpA_fin (by simpa [Plan.ok] using hok) h _
  | .run is p, l, a, w, fuel, hok, hS, h => by
    rw [Plan.ok, Bool.and_eq_true] at hok
    rw [Plan.len, ← Nat.add_assoc]
    exact run_step hsel is l a w _ hok.1 (fun o h => h) hS h fun A hA => plan_wpA hsel p _ A w fuel hok.2 hS hA
  | .held i p, l, a, w, fuel, hok, hS, h => by
    rw [Plan.ok] at hok
    simp only [Bool.and_eq_true] at hok
    obtain ⟨⟨⟨h0, h2⟩, h3⟩, h4⟩ := hok
    obtain ⟨o, hi⟩ := Option.isSome_iff_exists.1 h0
    obtain ⟨v, hy, h5⟩ := h o hi
    exact wpA_take (T := S) hi hsel (fun _ => True) (fun l' _ _ j _ _ => ⟨trivial, fun _ _ _ _ h => h⟩) _ l a w trivial (Region.free_spec hi h2) (by simpa using h3) hy hS hS (plan_wpA hsel p _ _ w fuel h4 hS h5)
  | .ev i p, l, a, w, fuel, hok, hS, h => by
    rw [Plan.ok] at hok
    simp only [Bool.and_eq_true, beq_iff_eq, Bool.not_eq_true'] at hok
    obtain ⟨⟨h1, h2⟩, h3⟩ := hok
    refine ⟨fun e => (by rw [h2] at e; cases e), fun j hj => ?_⟩
    rw [h2] at hj
    obtain rfl : j = i := by simpa using hj
    exact ev_op h1 h fun a' w' hS' h' => plan_wpA hsel p _ a' w' fuel h3 hS' h'
  | .two i j p q, l, a, w, fuel, hok, hS, h => by
    rw [Plan.ok] at hok
    simp only [Bool.and_eq_true, beq_iff_eq, Bool.not_eq_true'] at hok
    obtain ⟨⟨⟨⟨h1, h2⟩, h3⟩, h4⟩, h5⟩ := hok
    refine ⟨fun e => (by rw [h3] at e; cases e), fun k hk => ?_⟩
    rw [h3] at hk
    rcases List.mem_cons.1 hk with rfl | hk
    · refine ev_op h1 h.1 fun a' w' hS' h' => ?_
      have e : fuel.add (max p.len q.len) = (fuel + max p.len q.len - p.len) + p.len := by show fuel + max p.len q.len = _; omega
      rw [e]
      exact plan_wpA hsel p _ a' w' _ h4 hS' h'
    · obtain rfl : k = j := by simpa using hk
      refine ev_op h2 h.2 fun a' w' hS' h' => ?_
      have e : fuel.add (max p.len q.len) = (fuel + max p.len q.len - q.len) + q.len := by show fuel + max p.len q.len = _; omega
      rw [e]
      exact plan_wpA hsel q _ a' w' _ h5 hS' h'
  | .alt i j p q, l, a, w, fuel, hok, hS, h => by
    rw [Plan.ok] at hok
    simp only [Bool.and_eq_true, Bool.not_eq_true', List.all_eq_true, Bool.or_eq_true, beq_iff_eq] at hok
    obtain ⟨⟨⟨⟨⟨h1, h2⟩, h3⟩, h6⟩, h4⟩, h5⟩ := hok
    refine ⟨fun e => (by rw [e] at h6; cases h6), fun k hk => ?_⟩
    rcases h3 k hk with rfl | rfl
    · refine quiet_op h1 hS h.1 fun a' h' => ?_
      have e : fuel.add (max p.len q.len) = (fuel + max p.len q.len - p.len) + p.len := by show fuel + max p.len q.len = _; omega
      rw [e]
      exact plan_wpA hsel p _ a' w _ h4 hS h'
    · refine ev_op h2 h.2 fun a' w' hS' h' => ?_
      have e : fuel.add (max p.len q.len) = (fuel + max p.len q.len - q.len) + q.len := by show fuel + max p.len q.len = _; omega
      rw [e]
      exact plan_wpA hsel q _ a' w' _ h5 hS' h'
def Plan.okTop (P : Program) (ops : Array Oper) (p : Plan) : Bool := P.follows .mixedOrders && Region.noSelect ops && decide (p.len ≤ ops.size) && p.ok P ops (Array.replicate ops.size false)
/-- A region that draws its order, along a plan. -/
theorem region_plan {id : Nat} {Q : Exit → Act → World → Prop} {a : Act} {w : World} (p : Plan) (S : World → Prop) (hc : p.okTop P ops = true) (hS : S w.drew) (h : ∀ wd, wd = w.drew → p.wp P ops S (fun a w => Q .normal a w) a wd) : (Code.region id ops true).wp P Q a w := by
  have h := h _ rfl
  simp only [Plan.okTop, Bool.and_eq_true, decide_eq_true_eq] at hc
  obtain ⟨⟨⟨h1, h2⟩, h3⟩, h4⟩ := hc
  have e : (ops.size - p.len) + p.len = ops.size := by omega
  have h5 := plan_wpA (K := fun a w => Q .normal a w) (S := S) (Region.noSelect_spec h2) p (Array.replicate ops.size false) a w.drew (ops.size - p.len) h4 hS h
  rw [e] at h5
  exact Code.wp_mono (Q := Nrm fun a w => Q .normal a w) (fun e a w h => by cases e <;> first | exact h.2 | cases h.1) (wp_region_any h1 (wpA_any _ _ _ _ h5))
theorem plan_run {is : List Nat} {p : Plan} {a : Act} {w : World} (h : ∀ m, pickO ops is = m → wpList P ops (Nrm fun a' w' => plainL ops m a' = true ∧ p.wp P ops S K a' w') m a w) : (Plan.run is p).wp P ops S K a w := h _ rfl
theorem plan_ev {i : Nat} {p : Plan} {a : Act} {w : World} (h : ∀ m, pickO ops [i] = m → wpList P ops (Nrm fun a' w' => S w' ∧ p.wp P ops S K a' w') m a w) : (Plan.ev i p).wp P ops S K a w := h _ rfl
theorem plan_two {i j : Nat} {p q : Plan} {a : Act} {w : World} (h : ∀ m, pickO ops [i] = m → wpList P ops (Nrm fun a' w' => S w' ∧ p.wp P ops S K a' w') m a w) (h2 : ∀ m, pickO ops [j] = m → wpList P ops (Nrm fun a' w' => S w' ∧ q.wp P ops S K a' w') m a w) : (Plan.two i j p q).wp P ops S K a w := ⟨h _ rfl, h2 _ rfl⟩
theorem plan_alt {i j : Nat} {p q : Plan} {a : Act} {w : World} (h : ∀ m, pickO ops [i] = m → wpList P ops (Nrm fun a' w' => w' = w ∧ p.wp P ops S K a' w') m a w) (h2 : ∀ m, pickO ops [j] = m → wpList P ops (Nrm fun a' w' => S w' ∧ q.wp P ops S K a' w') m a w) : (Plan.alt i j p q).wp P ops S K a w := ⟨h _ rfl, h2 _ rfl⟩
theorem plan_held {i : Nat} {p : Plan} {a : Act} {w : World} {o : Oper} {v : Value} (ho : ops[i]? = some o) (hw : Region.wanted o (yielded ops a.tmps) = true) (hr : ∀ w', S w' → (execOp a.eval o).run P w' = .ok (.value v) w') (h : p.wp P ops S K (a.put o.dst v) w) : (Plan.held i p).wp P ops S K a w := fun o' ho' => by
  rw [ho] at ho'
  injection ho' with e
  subst e
  exact ⟨v, Or.inl ⟨hw, fun w' hS => Or.inl (hr w' hS)⟩, h⟩
/-- A call that only computes. -/
theorem plan_pure {i : Nat} {p : Plan} {a : Act} {w : World} {o : Oper} {v : Value} {f : FuncId} {fn : Func} {xs : Array Operand} {ts : Array TypeId} (args : Array Value) (ho : ops[i]? = some o) (hw : Region.wanted o (yielded ops a.tmps) = true) (hf : P.funcs[f]? = some fn) (hname : (fn.name == "runtime.NumGoroutine") = false) (hb : fn.body.isSome = true)
    (hop : o.op = .call { callee := .value (.func f), args := xs, argTypes := ts }) (hargs : xs.map a.eval = args) (hr : ∀ w', S w' → Calls P f args w' fun e w'' => e = .returned v ∧ w'' = w') (h : p.wp P ops S K (a.put o.dst v) w) : (Plan.held i p).wp P ops S K a w := fun o' ho' => by
  rw [ho] at ho'
  injection ho' with e
  subst e
  refine ⟨v, Or.inl ⟨hw, fun w' hS => Or.inr ⟨f, args, ?_, hr w' hS⟩⟩, h⟩
  have h1 : fn.name ≠ "runtime.NumGoroutine" := by simpa using hname
  obtain ⟨c, hc⟩ := Option.isSome_iff_exists.1 hb
  unfold execOp
  simp [hop, resolve, Deferred.ofValue, invoke, Act.eval, hargs, callFunc, hf, h1, hc]
theorem plan_off {i : Nat} {p : Plan} {a : Act} {w : World} {o : Oper} (ho : ops[i]? = some o) (hw : Region.wanted o (yielded ops a.tmps) = false) (h : p.wp P ops S K (a.put o.dst undef) w) : (Plan.held i p).wp P ops S K a w := fun o' ho' => by
  rw [ho] at ho'
  injection ho' with e
  subst e
  exact ⟨undef, Or.inr ⟨hw, rfl⟩, h⟩
theorem plan_fin {a : Act} {w : World} (h : K a w) : Plan.fin.wp P ops S K a w := h
end
end Go.Proofs.YthibnhgbgmpjoaaDoor
namespace Go.Proofs.YthibnhgbgmpjoaaDoor
open Go.RowKit
/-- The slice v is the call's own (its block, if it has one, from base on) and holds the list l. -/
def OwnI (w : World) (base : Nat) (v : Value) (l : List Int) : Prop := w.ownsRow base 3 1 v l.length (l.map fun x => Value.int .i64 x)
section
variable {w w' : World} {base : Nat} {v : Value} {l : List Int}
theorem OwnI.nil (w : World) (base : Nat) : OwnI w base (.slice none 0 0) [] := World.ownsRow_nil w base _ 1
theorem OwnI.lt (h : OwnI w base v l) : ∀ k, v.ownBlock = some k → base ≤ k ∧ k < w.heap.size := World.ownsRow.lt h
theorem OwnI.kept {row : Option Nat} (h : OwnI w base v l) (hg : w.grownBy w' row) (hne : v.ownBlock = none ∨ v.ownBlock ≠ row) : OwnI w' base v l := World.ownsRow.kept h hg hne
theorem OwnI.bel (h : OwnI w base v l) (hb : Below w.heap.size w w') : OwnI w' base v l :=
  World.ownsRow.kept (row := none) h ⟨hb.os, hb.tape, hb.output, hb.size, fun i hi _ => hb.block i hi⟩ (by cases hv : v.ownBlock with | none => exact Or.inl rfl | some k => exact Or.inr (by simp))
theorem OwnI.drew (h : OwnI w base v l) : OwnI w.drew base v l := h
theorem OwnI.form (h : OwnI w base v l) : ∃ A c, v = .slice A l.length c ∧ l.length ≤ c := by
  rcases h.2 with ⟨rfl, h0⟩ | ⟨g, cap, cur, rfl, _, _, hc, _⟩
  · exact ⟨none, 0, by rw [h0], by omega⟩
  · exact ⟨_, cap, rfl, hc⟩
theorem OwnI.at_ (h : OwnI w base v l) {j : Nat} (hj : j < l.length) : ∃ g c, v = .slice (some ⟨g, 0, none⟩) l.length c ∧ base ≤ g ∧ w.cell? ⟨g, j, none⟩ = some ((fun x => Value.int .i64 x) l[j]) := by
  have h' := h
  rcases h'.2 with ⟨_, h0⟩ | ⟨g, cap, cur, rfl, hg, _, hc, _⟩
  · omega
  · refine ⟨g, cap, rfl, hg, ?_⟩
    have hcell := World.ownsRow.cells h (g := g) rfl j ((fun x => Value.int .i64 x) l[j]) (by simp [hj])
    have hadd : (⟨g, 0, none⟩ : Addr).add j = ⟨g, j, none⟩ := by unfold Addr.add; split <;> simp_all
    rwa [hadd] at hcell
/-- What a row of the call's own reads as, its address under a letter. -/
def RowI (w : World) (base : Nat) (A : Option Addr) (n : Nat) (f : Nat → Int) : Prop := ∀ j, j < n → ∃ g, A = some ⟨g, 0, none⟩ ∧ base ≤ g ∧ g < w.heap.size ∧ w.cell? ⟨g, j, none⟩ = some ((fun x => Value.int .i64 x) (f j))
theorem RowI.bel {A : Option Addr} {n : Nat} {f : Nat → Int} (h : RowI w base A n f) (hb : Below w.heap.size w w') : RowI w' base A n f := fun j hj => by
  obtain ⟨g, h1, h2, h3, h4⟩ := h j hj
  exact ⟨g, h1, h2, Nat.lt_of_lt_of_le h3 hb.size, (hb.cell (p := ⟨g, j, none⟩) h3).trans h4⟩
theorem OwnI.row (h : OwnI w base v l) (f : Nat → Int) (hf : ∀ j (hj : j < l.length), l[j] = f j) : ∃ A c, v = .slice A l.length c ∧ l.length ≤ c ∧ RowI w base A l.length f := by
  obtain ⟨A, c, rfl, hc⟩ := h.form
  refine ⟨A, c, rfl, hc, fun j hj => ?_⟩
  obtain ⟨g, c', e, hb, hcell⟩ := h.at_ hj
  have hA : A = some ⟨g, 0, none⟩ := by injection e
  subst hA
  refine ⟨g, rfl, hb, (h.lt g rfl).2, ?_⟩
  rw [hcell, hf j hj]
/-- append of one element: the goal's world is that behind the making of the one-element row. -/
theorem appI {ops : Array Oper} {rest : List Oper} {o : Oper} {a : Act} {Q : Exit → Act → World → Prop} (hgd : o.guard = none) (s y : Operand)
    (ho : o.op = .call { callee := .builtin .append, args := #[s, y], argTypes := #[52, 52] }) (x : Int) (hs : a.eval s = v) (hy : a.eval y = .slice (some ⟨w.heap.size, 0, none⟩) 1 1)
    (hown : OwnI w base v l) (hlen : l.length < 1000000000000) (hbase : base ≤ w.heap.size)
    (h : ∀ v' w', OwnI w' base v' (l ++ [x]) → w.grownBy w' v.ownBlock → Below base w w' → wpList Tryd.prog ops Q rest (a.put o.dst v') w') :
    wpList Tryd.prog ops Q (o :: rest) a (w.alloc (.cells #[Value.int .i64 x] 3)) := by
  obtain ⟨i, hi⟩ := Option.isSome_iff_exists.1 (show (Tryd.prog.info? 3).isSome = true by kernel_rfl)
  have h3 : (Tryd.prog.info? 3).map (fun i => (i.zero, i.size, i.bytes)) = some (some (Value.int .i64 0), 1, 8) := by kernel_rfl
  rw [hi] at h3
  simp only [Option.map_some, Option.some.injEq, Prod.mk.injEq] at h3
  obtain ⟨hz, hsz, hby⟩ := h3
  refine wpList_append_own (w.alloc (.cells #[Value.int .i64 x] 3)) hgd s y 52 ho base 3 i (Value.int .i64 0) 1 8 Tryd.underlying52 hi hz hsz hby rfl (by decide) v l.length (l.map fun x => Value.int .i64 x) hs (World.ownsRow.alloc hown _) ⟨w.heap.size, 0, none⟩ 1 1 [Value.int .i64 x] hy rfl ?_ ?_ ?_ ?_ ?_ ?_
  · intro j u hj
    cases j with
    | zero =>
      simp only [List.getElem?_cons_zero, Option.some.injEq] at hj
      subst hj
      have hadd : (⟨w.heap.size, 0, none⟩ : Addr).add 0 = ⟨w.heap.size, 0, none⟩ := by unfold Addr.add; simp
      rw [hadd]
      exact (Blk.new w 3 #[Value.int .i64 x]).cell 0
    | succ j => simp at hj
  · intro u hu
    simp only [List.mem_singleton] at hu
    subst hu; rfl
  · simp only [maxLen]; omega
  · omega
  · exact Nat.le_trans hbase (by simp)
  · intro v' w' hown' hg _
    have hg2 : w.grownBy w' v.ownBlock := (World.grownBy_alloc w _ v.ownBlock).trans hg
    exact h v' w' (by unfold OwnI; rw [List.length_append, List.map_append]; exact hown') hg2 ((Below.refl base w).grown hg2 hbase (fun k hk => (hown.lt k hk).1))
end
end Go.Proofs.YthibnhgbgmpjoaaDoor
namespace Go.Proofs.YthibnhgbgmpjoaaDoor
open Go.RowKit
set_option linter.unusedSimpArgs false
set_option linter.unusedVariables false
theorem wpList_store_far {P : Program} {ops : Array Oper} {rest : List Oper} {o : Oper} {a : Act} {w1 : World} {Q : Exit → Act → World → Prop} (hgd : o.guard = none) (ty : TypeId) (x y : Operand) (ho : o.op = .store ty x y) (g : Nat) (cells old : Array Value) (t : TypeId)
    (hx : a.eval x = .pointer (some ⟨g, 0, none⟩)) (hy : a.eval y = .agg cells) (hB : Blk w1 g t old) (hi : (P.info? ty).map (·.size) = some cells.size) (hold : old.size = cells.size) (h1 : cells.all (·.oneCell') = true)
    (h : ∀ w2, Blk w2 g t cells → (∀ g' t' cs, g' ≠ g → Blk w1 g' t' cs → Blk w2 g' t' cs) → (∀ B w0, B ≤ g → Below B w0 w1 → Below B w0 w2) → w2.heap.size = w1.heap.size → (∀ g', g' ≠ g → w2.heap[g']? = w1.heap[g']?) → wpList P ops Q rest (a.put o.dst undef) w2) : wpList P ops Q (o :: rest) a w1 :=
  wpList_store_row hgd ty x y ho g cells hx hy t old hB hi hold h1
    (h _ (hB.row cells) (fun _ _ _ hne hb => hb.rowFar hne _) (fun _ _ hB hb => below_row hb hB _) (by simp) (fun g' hne => setRow_other _ _ _ _ hne))
theorem Blk.drewE {w wd : World} {g : Nat} {t : TypeId} {cs : Array Value} (h : Blk w g t cs) (hd : wd = w.drew) : Blk wd g t cs := hd ▸ h.drew
theorem belowD {B : Nat} {a w wd : World} (h : Below B a w) (hd : wd = w.drew) : Below B a wd := hd ▸ h.drew
theorem OwnI.drewE {w wd : World} {b : Nat} {v : Value} {l : List Int} (h : OwnI w b v l) (hd : wd = w.drew) : OwnI wd b v l := hd ▸ h.drew
/-- Every block of another type stands. -/
def KeepT (T : TypeId) (w w' : World) : Prop := ∀ g t cs, t ≠ T → Blk w g t cs → Blk w' g t cs
theorem KeepT.refl (T : TypeId) (w : World) : KeepT T w w := fun _ _ _ _ h => h
theorem KeepT.trans {T : TypeId} {a b c : World} (h : KeepT T a b) (h2 : KeepT T b c) : KeepT T a c := fun g t cs ht hb => h2 g t cs ht (h g t cs ht hb)
theorem KeepT.of_below (T : TypeId) {w w' : World} (h : Below w.heap.size w w') : KeepT T w w' := fun _ _ _ _ hb => hb.bel h
theorem KeepT.of_own {base s n : Nat} {e : TypeId} {v : Value} {xs : List Value} {w w' : World} (hO : w.ownsRow base e s v n xs) (hg : w.grownBy w' v.ownBlock) : KeepT e w w' := fun g t cs ht hB => by
  by_cases e' : some g = v.ownBlock
  · exfalso
    rcases hO.2 with ⟨rfl, _⟩ | ⟨g', cap, cur, rfl, _, hc, _⟩
    · simp [Value.ownBlock] at e'
    · simp [Value.ownBlock] at e'
      subst e'
      unfold Blk at hB
      rw [hB] at hc
      simp at hc
      exact ht hc.2
  · exact (hg.block g hB.lt e').trans hB
theorem OwnI.mono {w : World} {b b' : Nat} {v : Value} {l : List Int} (h : OwnI w b v l) (hb : b' ≤ b) : OwnI w b' v l := by
  refine ⟨h.1, ?_⟩
  rcases h.2 with h0 | ⟨g, cap, cur, e, hg, rest⟩
  · exact Or.inl h0
  · exact Or.inr ⟨g, cap, cur, e, Nat.le_trans hb hg, rest⟩
/-- A row of the call's own stands where all blocks of its type do. -/
theorem ownsRow_keep {base s n : Nat} {e : TypeId} {v : Value} {xs : List Value} {w w' : World} (h : w.ownsRow base e s v n xs) (hk : ∀ g cs, Blk w g e cs → Blk w' g e cs) : w'.ownsRow base e s v n xs := by
  refine ⟨h.1, ?_⟩
  rcases h.2 with h0 | ⟨g, cap, cur, e1, hg, hc, rest⟩
  · exact Or.inl h0
  · exact Or.inr ⟨g, cap, cur, e1, hg, hk g cur hc, rest⟩
theorem OwnI.keep {w w' : World} {base : Nat} {v : Value} {l : List Int} (h : OwnI w base v l) (hk : ∀ g cs, Blk w g 3 cs → Blk w' g 3 cs) : OwnI w' base v l := ownsRow_keep h hk
theorem OwnI.form2 {w : World} {b : Nat} {v : Value} {l : List Int} (h : OwnI w b v l) : ∃ A n c, v = .slice A n c := by obtain ⟨A, c, e, _⟩ := h.form; exact ⟨A, _, c, e⟩
theorem Blk.ne {w : World} {g g' : Nat} {t t' : TypeId} {cs cs' : Array Value} (h : Blk w g t cs) (h' : Blk w g' t' cs') (ht : t ≠ t') : g ≠ g' := fun e => by
  subst e
  unfold Blk at h h'
  rw [h] at h'
  simp at h'
  exact ht h'.2
/-- append of another row of the call's own. -/
theorem appIL {w : World} {base b2 : Nat} {v y0 : Value} {l m : List Int} {ops : Array Oper} {rest : List Oper} {o : Oper} {a : Act} {Q : Exit → Act → World → Prop} (hgd : o.guard = none) (s y : Operand)
    (ho : o.op = .call { callee := .builtin .append, args := #[s, y], argTypes := #[52, 52] }) (hs : a.eval s = v) (hy : a.eval y = y0)
    (hown : OwnI w base v l) (hsrc : OwnI w b2 y0 m) (hlen : l.length + m.length < 1000000000) (hbase : base ≤ w.heap.size)
    (h : ∀ v' w', OwnI w' base v' (l ++ m) → KeepT 3 w w' → w.grownBy w' v.ownBlock → Below base w w' → wpList Tryd.prog ops Q rest (a.put o.dst v') w') :
    wpList Tryd.prog ops Q (o :: rest) a w := by
  obtain ⟨i, hi⟩ := Option.isSome_iff_exists.1 (show (Tryd.prog.info? 3).isSome = true by kernel_rfl)
  have h3 : (Tryd.prog.info? 3).map (fun i => (i.zero, i.size, i.bytes)) = some (some (Value.int .i64 0), 1, 8) := by kernel_rfl
  rw [hi] at h3
  simp only [Option.map_some, Option.some.injEq, Prod.mk.injEq] at h3
  obtain ⟨hz, hsz, hby⟩ := h3
  have hsrc' := hsrc
  rcases hsrc.2 with ⟨rfl, h0⟩ | ⟨g, cap, cur, rfl, _, _, hcap, _⟩
  · obtain rfl : m = [] := List.eq_nil_of_length_eq_zero h0
    refine wpList_append_own_none hgd s y 52 ho base 3 i 1 Tryd.underlying52 hi v l.length (l.map fun x => Value.int .i64 x) hs hown hy ?_
    exact h v w (by rw [List.append_nil]; exact hown) (KeepT.refl _ _) (World.grownBy.refl w _) (Below.refl _ _)
  · refine wpList_append_own w hgd s y 52 ho base 3 i (Value.int .i64 0) 1 8 Tryd.underlying52 hi hz hsz hby rfl (by decide) v l.length (l.map fun x => Value.int .i64 x) hs hown ⟨g, 0, none⟩ m.length cap (m.map fun x => Value.int .i64 x) hy (by simp) ?_ ?_ ?_ ?_ hbase ?_
    · intro j u hj
      exact World.ownsRow.cells hsrc' rfl j u hj
    · intro u hu
      obtain ⟨x, _, rfl⟩ := List.mem_map.1 hu
      rfl
    · simp only [maxLen]; omega
    · omega
    · intro v' w' hown' hg _
      exact h v' w' (by unfold OwnI; rw [List.length_append, List.map_append]; exact hown') (KeepT.of_own hown hg) hg ((Below.refl base w).grown hg hbase (fun k hk => (hown.lt k hk).1))
end Go.Proofs.YthibnhgbgmpjoaaDoor
