/- A region that draws its order, as one walk: operations that only read are taken in a fixed order, the others one by one. What each operation may do, and the law. No condition. -/
import Derived.Test.YtjfnlgmllhjonaaBase
namespace Go.Proofs.Ytjfnlgmllhjonaa
open Go.RowKit
set_option linter.unusedSimpArgs false
set_option linter.unusedVariables false
/-- If it goes well, what it answers hangs on no world, and the world stays. -/
def NW (P : Program) {α : Type} (m : Sem α) : Prop := ∀ w a w', m.run P w = .ok a w' → ∀ w2, m.run P w2 = .ok a w2
/-- If it goes well, the world stays. -/
def RO (P : Program) {α : Type} (m : Sem α) : Prop := ∀ w a w', m.run P w = .ok a w' → w' = w
/-- It never goes well. -/
def Nev (P : Program) {α : Type} (m : Sem α) : Prop := ∀ w a w', m.run P w ≠ .ok a w'
section
variable {P : Program} {α β : Type}
theorem NW.ro {m : Sem α} (h : NW P m) : RO P m := fun w a w' e => by have := h w a w' e w; rw [e] at this; injection this
theorem Nev.nw {m : Sem α} (h : Nev P m) : NW P m := fun w a w' e => absurd e (h w a w')
theorem NW.pure (a : α) : NW P (pure a : Sem α) := fun w b w' e w2 => by
  have e1 : (Pure.pure a : Sem α).run P w = .ok a w := rfl
  rw [e1] at e; injection e with h1 h2; subst h1; rfl
theorem run_bind_ok {m : Sem α} {f : α → Sem β} {w w' : World} {b : β} (h : (m >>= f).run P w = .ok b w') : ∃ a w1, m.run P w = .ok a w1 ∧ (f a).run P w1 = .ok b w' := by
  rw [Sem.run_bind] at h
  cases hm : m.run P w with
  | ok a w1 => rw [hm] at h; exact ⟨a, w1, rfl, h⟩
  | halt x w1 => rw [hm] at h; simp at h
theorem run_bind_mk {m : Sem α} {f : α → Sem β} {w w1 : World} {a : α} (h : m.run P w = .ok a w1) : (m >>= f).run P w = (f a).run P w1 := by
  rw [Sem.run_bind, h]; rfl
theorem NW.bind {m : Sem α} {f : α → Sem β} (h : NW P m) (hf : ∀ a, NW P (f a)) : NW P (m >>= f) := fun w b w' e w2 => by
  obtain ⟨a, w1, h1, h2⟩ := run_bind_ok e
  rw [run_bind_mk (h w a w1 h1 w2)]
  exact hf a w1 b w' h2 w2
theorem RO.bind {m : Sem α} {f : α → Sem β} (h : RO P m) (hf : ∀ a, RO P (f a)) : RO P (m >>= f) := fun w b w' e => by
  obtain ⟨a, w1, h1, h2⟩ := run_bind_ok e
  rw [hf a w1 b w' h2, h w a w1 h1]
theorem Nev.bind {m : Sem α} {f : α → Sem β} (hf : ∀ a, Nev P (f a)) : Nev P (m >>= f) := fun w b w' e => by
  obtain ⟨a, w1, h1, h2⟩ := run_bind_ok e
  exact hf a w1 b w' h2
theorem Nev.halt (h : Halt) : Nev P (Sem.halt h : Sem α) := fun w a w' e => by cases e
theorem NW.program : NW P Go.program := fun w a w' e w2 => by
  have e1 : Sem.run P Go.program w = .ok P w := rfl
  rw [e1] at e; injection e with h1 h2; subst h1; rfl
theorem NW.stuck (s : String) : NW P (stuck s : Sem α) := (Nev.halt _).nw
theorem NW.unsupported (u : Unsupported) : NW P (unsupported u : Sem α) := (Nev.halt _).nw
theorem Nev.runtimePanic (e : RuntimeError) : Nev P (runtimePanic e : Sem α) := by
  unfold Go.runtimePanic
  refine Nev.bind fun p => ?_
  cases e
  all_goals first
    | exact Nev.halt _
    | (refine Nev.bind fun t => ?_; first | exact Nev.halt _ | (refine Nev.bind fun r => ?_; exact Nev.halt _))
theorem Nev.boundsPanic (k : IntKind) (x y : Int) (c : BoundsCode) : Nev P (boundsPanic k x y c : Sem α) := by
  unfold Go.boundsPanic
  dsimp only
  split <;> exact Nev.bind fun _ => Nev.runtimePanic _
theorem NW.typeInfo (t : TypeId) : NW P (typeInfo t) := by
  unfold Go.typeInfo
  refine NW.program.bind fun p => ?_
  split
  · exact NW.pure _
  · exact NW.stuck _
theorem NW.underlying (t : TypeId) : NW P (underlying t) := by
  unfold Go.underlying
  refine NW.program.bind fun p => ?_
  split
  · exact NW.pure _
  · exact NW.stuck _
theorem NW.sizeOf (t : TypeId) : NW P (sizeOf t) := by unfold Go.sizeOf; exact (NW.typeInfo t).bind fun _ => NW.pure _
theorem NW.zeroValue (t : TypeId) : NW P (zeroValue t) := by
  unfold Go.zeroValue
  refine (NW.typeInfo t).bind fun i => ?_
  split
  · exact NW.pure _
  · exact NW.unsupported _
theorem NW.isAgg (t : TypeId) : NW P (isAgg t) := by
  unfold Go.isAgg
  refine (NW.underlying t).bind fun d => ?_
  split <;> exact NW.pure _
theorem NW.part (t : TypeId) (cs : Array Value) (off : Nat) : NW P (part t cs off) := by
  unfold Go.part
  refine (NW.isAgg t).bind fun b => ?_
  split
  · exact (NW.sizeOf t).bind fun _ => NW.pure _
  · split
    · exact NW.pure _
    · exact NW.stuck _
theorem NW.asIntOf (v : Value) : NW P (asIntOf v) := by
  unfold Go.asIntOf; split <;> first | exact NW.pure _ | exact NW.unsupported _ | exact NW.stuck _
theorem NW.asBool (v : Value) : NW P (asBool v) := by
  unfold Go.asBool; split <;> first | exact NW.pure _ | exact NW.stuck _
theorem NW.asAgg (v : Value) : NW P (asAgg v) := by
  unfold Go.asAgg; split <;> first | exact NW.pure _ | exact NW.stuck _
theorem NW.asAddr (v : Value) : NW P (asAddr v) := by
  unfold Go.asAddr; split <;> first | exact NW.pure _ | exact NW.stuck _ | exact (Nev.runtimePanic _).nw
theorem NW.sureAddr (v : Value) : NW P (Instr.sureAddr v) := by
  unfold Instr.sureAddr; split <;> first | exact NW.pure _ | exact NW.stuck _
theorem NW.field (t : TypeId) (x : Value) (f : Nat) : NW P (Instr.field t x f) := by
  unfold Instr.field
  repeat' (first | exact NW.pure _ | exact NW.stuck _ | exact NW.unsupported _ | exact (Nev.runtimePanic _).nw | exact (Nev.boundsPanic _ _ _ _).nw | exact NW.typeInfo _ | exact NW.underlying _ | exact NW.sizeOf _ | exact NW.zeroValue _ | exact NW.isAgg _ | exact NW.part _ _ _ | exact NW.asIntOf _ | exact NW.asBool _ | exact NW.asAgg _ | exact NW.asAddr _ | exact NW.sureAddr _ | refine NW.bind ?_ (fun _ => ?_) | split | dsimp only)
theorem NW.index (t : TypeId) (x i : Value) : NW P (Instr.index t x i) := by
  unfold Instr.index
  repeat' (first | exact NW.pure _ | exact NW.stuck _ | exact NW.unsupported _ | exact (Nev.runtimePanic _).nw | exact (Nev.boundsPanic _ _ _ _).nw | exact NW.typeInfo _ | exact NW.underlying _ | exact NW.sizeOf _ | exact NW.zeroValue _ | exact NW.isAgg _ | exact NW.part _ _ _ | exact NW.asIntOf _ | exact NW.asBool _ | exact NW.asAgg _ | exact NW.asAddr _ | exact NW.sureAddr _ | refine NW.bind ?_ (fun _ => ?_) | split | dsimp only)
theorem NW.indexAt (t : TypeId) (x i : Value) : NW P (Instr.indexAt t x i) := by
  unfold Instr.indexAt
  repeat' (first | exact NW.pure _ | exact NW.stuck _ | exact NW.unsupported _ | exact (Nev.runtimePanic _).nw | exact (Nev.boundsPanic _ _ _ _).nw | exact NW.typeInfo _ | exact NW.underlying _ | exact NW.sizeOf _ | exact NW.zeroValue _ | exact NW.isAgg _ | exact NW.part _ _ _ | exact NW.asIntOf _ | exact NW.asBool _ | exact NW.asAgg _ | exact NW.asAddr _ | exact NW.sureAddr _ | refine NW.bind ?_ (fun _ => ?_) | split | dsimp only)
theorem NW.sliceBound (x : Value) (y : Nat) (c : BoundsCode) : NW P (Instr.sliceBound x y c) := by
  unfold Instr.sliceBound
  repeat' (first | exact NW.pure _ | exact NW.stuck _ | exact NW.unsupported _ | exact (Nev.runtimePanic _).nw | exact (Nev.boundsPanic _ _ _ _).nw | exact NW.typeInfo _ | exact NW.underlying _ | exact NW.sizeOf _ | exact NW.zeroValue _ | exact NW.isAgg _ | exact NW.part _ _ _ | exact NW.asIntOf _ | exact NW.asBool _ | exact NW.asAgg _ | exact NW.asAddr _ | exact NW.sureAddr _ | refine NW.bind ?_ (fun _ => ?_) | split | dsimp only)
theorem NW.sliceBounds (b : Bool) (len cap : Nat) (lo hi mx : Option Value) : NW P (Instr.sliceBounds b len cap lo hi mx) := by
  unfold Instr.sliceBounds
  repeat' (first | exact NW.pure _ | exact NW.stuck _ | exact NW.unsupported _ | exact (Nev.runtimePanic _).nw | exact (Nev.boundsPanic _ _ _ _).nw | exact NW.typeInfo _ | exact NW.underlying _ | exact NW.sizeOf _ | exact NW.zeroValue _ | exact NW.isAgg _ | exact NW.part _ _ _ | exact NW.asIntOf _ | exact NW.asBool _ | exact NW.asAgg _ | exact NW.asAddr _ | exact NW.sureAddr _ | exact NW.sliceBound _ _ _ | refine NW.bind ?_ (fun _ => ?_) | split | dsimp only)
theorem NW.slice (t : TypeId) (x : Value) (lo hi mx : Option Value) : NW P (Instr.slice t x lo hi mx) := by
  unfold Instr.slice
  repeat' (first | exact NW.pure _ | exact NW.stuck _ | exact NW.unsupported _ | exact (Nev.runtimePanic _).nw | exact (Nev.boundsPanic _ _ _ _).nw | exact NW.typeInfo _ | exact NW.underlying _ | exact NW.sizeOf _ | exact NW.zeroValue _ | exact NW.isAgg _ | exact NW.part _ _ _ | exact NW.asIntOf _ | exact NW.asBool _ | exact NW.asAgg _ | exact NW.asAddr _ | exact NW.sureAddr _ | exact NW.sliceBounds _ _ _ _ _ _ | refine NW.bind ?_ (fun _ => ?_) | split | dsimp only)
theorem NW.sliceAt (t : TypeId) (x : Value) (lo hi mx : Option Value) : NW P (Instr.sliceAt t x lo hi mx) := by
  unfold Instr.sliceAt
  repeat' (first | exact NW.pure _ | exact NW.stuck _ | exact NW.unsupported _ | exact (Nev.runtimePanic _).nw | exact (Nev.boundsPanic _ _ _ _).nw | exact NW.typeInfo _ | exact NW.underlying _ | exact NW.sizeOf _ | exact NW.zeroValue _ | exact NW.isAgg _ | exact NW.part _ _ _ | exact NW.asIntOf _ | exact NW.asBool _ | exact NW.asAgg _ | exact NW.asAddr _ | exact NW.sureAddr _ | exact NW.sliceBounds _ _ _ _ _ _ | exact NW.slice _ _ _ _ _ | refine NW.bind ?_ (fun _ => ?_) | split | dsimp only)
theorem NW.extract (x : Value) (i : Nat) : NW P (Instr.extract x i) := by
  unfold Instr.extract
  repeat' (first | exact NW.pure _ | exact NW.stuck _ | exact NW.unsupported _ | exact (Nev.runtimePanic _).nw | exact (Nev.boundsPanic _ _ _ _).nw | exact NW.typeInfo _ | exact NW.underlying _ | exact NW.sizeOf _ | exact NW.zeroValue _ | exact NW.isAgg _ | exact NW.part _ _ _ | exact NW.asIntOf _ | exact NW.asBool _ | exact NW.asAgg _ | exact NW.asAddr _ | exact NW.sureAddr _ | refine NW.bind ?_ (fun _ => ?_) | split | dsimp only)
theorem NW.makeInterface (t : TypeId) (x : Value) : NW P (Instr.makeInterface t x) := by
  unfold Instr.makeInterface
  repeat' (first | exact NW.pure _ | exact NW.stuck _ | exact NW.unsupported _ | exact (Nev.runtimePanic _).nw | exact (Nev.boundsPanic _ _ _ _).nw | exact NW.typeInfo _ | exact NW.underlying _ | exact NW.sizeOf _ | exact NW.zeroValue _ | exact NW.isAgg _ | exact NW.part _ _ _ | exact NW.asIntOf _ | exact NW.asBool _ | exact NW.asAgg _ | exact NW.asAddr _ | exact NW.sureAddr _ | refine NW.bind ?_ (fun _ => ?_) | split | dsimp only)
theorem NW.makeFunc (f : Fn) (a b : Array Value) : NW P (Instr.makeFunc f a b) := by
  unfold Instr.makeFunc
  repeat' (first | exact NW.pure _ | exact NW.stuck _ | exact NW.unsupported _ | exact (Nev.runtimePanic _).nw | exact (Nev.boundsPanic _ _ _ _).nw | exact NW.typeInfo _ | exact NW.underlying _ | exact NW.sizeOf _ | exact NW.zeroValue _ | exact NW.isAgg _ | exact NW.part _ _ _ | exact NW.asIntOf _ | exact NW.asBool _ | exact NW.asAgg _ | exact NW.asAddr _ | exact NW.sureAddr _ | refine NW.bind ?_ (fun _ => ?_) | split | dsimp only)
theorem NW.typeAssert (x : Value) (t u : TypeId) (ok : Bool) : NW P (Instr.typeAssert x t u ok) := by
  unfold Instr.typeAssert
  repeat' (first | exact NW.pure _ | exact NW.stuck _ | exact NW.unsupported _ | exact (Nev.runtimePanic _).nw | exact (Nev.boundsPanic _ _ _ _).nw | exact NW.typeInfo _ | exact NW.underlying _ | exact NW.sizeOf _ | exact NW.zeroValue _ | exact NW.isAgg _ | exact NW.part _ _ _ | exact NW.asIntOf _ | exact NW.asBool _ | exact NW.asAgg _ | exact NW.asAddr _ | exact NW.sureAddr _ | refine NW.bind ?_ (fun _ => ?_) | split | dsimp only)
theorem NW.intArith (o : BinOp) (k : IntKind) (x y : Int) : NW P (Op.intArith o k x y) := by
  unfold Op.intArith
  repeat' (first | exact NW.pure _ | exact NW.stuck _ | exact NW.unsupported _ | exact (Nev.runtimePanic _).nw | exact (Nev.boundsPanic _ _ _ _).nw | exact NW.typeInfo _ | exact NW.underlying _ | exact NW.sizeOf _ | exact NW.zeroValue _ | exact NW.isAgg _ | exact NW.part _ _ _ | exact NW.asIntOf _ | exact NW.asBool _ | exact NW.asAgg _ | exact NW.asAddr _ | exact NW.sureAddr _ | refine NW.bind ?_ (fun _ => ?_) | split | dsimp only)
theorem NW.intBits (o : BinOp) (k : IntKind) (x y : Int) : NW P (Op.intBits o k x y) := by
  unfold Op.intBits
  repeat' (first | exact NW.pure _ | exact NW.stuck _ | exact NW.unsupported _ | exact (Nev.runtimePanic _).nw | exact (Nev.boundsPanic _ _ _ _).nw | exact NW.typeInfo _ | exact NW.underlying _ | exact NW.sizeOf _ | exact NW.zeroValue _ | exact NW.isAgg _ | exact NW.part _ _ _ | exact NW.asIntOf _ | exact NW.asBool _ | exact NW.asAgg _ | exact NW.asAddr _ | exact NW.sureAddr _ | refine NW.bind ?_ (fun _ => ?_) | split | dsimp only)
theorem NW.intCmp (o : BinOp) (x y : Int) : NW P (Op.intCmp o x y) := by
  unfold Op.intCmp
  repeat' (first | exact NW.pure _ | exact NW.stuck _ | exact NW.unsupported _ | exact (Nev.runtimePanic _).nw | exact (Nev.boundsPanic _ _ _ _).nw | exact NW.typeInfo _ | exact NW.underlying _ | exact NW.sizeOf _ | exact NW.zeroValue _ | exact NW.isAgg _ | exact NW.part _ _ _ | exact NW.asIntOf _ | exact NW.asBool _ | exact NW.asAgg _ | exact NW.asAddr _ | exact NW.sureAddr _ | refine NW.bind ?_ (fun _ => ?_) | split | dsimp only)
theorem NW.intDiv (o : BinOp) (k : IntKind) (x y : Int) : NW P (Op.intDiv o k x y) := by
  unfold Op.intDiv
  repeat' (first | exact NW.pure _ | exact NW.stuck _ | exact NW.unsupported _ | exact (Nev.runtimePanic _).nw | exact (Nev.boundsPanic _ _ _ _).nw | exact NW.typeInfo _ | exact NW.underlying _ | exact NW.sizeOf _ | exact NW.zeroValue _ | exact NW.isAgg _ | exact NW.part _ _ _ | exact NW.asIntOf _ | exact NW.asBool _ | exact NW.asAgg _ | exact NW.asAddr _ | exact NW.sureAddr _ | refine NW.bind ?_ (fun _ => ?_) | split | dsimp only)
theorem NW.shift (o : BinOp) (k : IntKind) (x : Int) (k2 : IntKind) (y : Int) : NW P (Op.shift o k x k2 y) := by
  unfold Op.shift
  repeat' (first | exact NW.pure _ | exact NW.stuck _ | exact NW.unsupported _ | exact (Nev.runtimePanic _).nw | exact (Nev.boundsPanic _ _ _ _).nw | exact NW.typeInfo _ | exact NW.underlying _ | exact NW.sizeOf _ | exact NW.zeroValue _ | exact NW.isAgg _ | exact NW.part _ _ _ | exact NW.asIntOf _ | exact NW.asBool _ | exact NW.asAgg _ | exact NW.asAddr _ | exact NW.sureAddr _ | refine NW.bind ?_ (fun _ => ?_) | split | dsimp only)
theorem NW.stringOp (o : BinOp) (x y : ByteArray) : NW P (Op.stringOp o x y) := by
  unfold Op.stringOp
  repeat' (first | exact NW.pure _ | exact NW.stuck _ | exact NW.unsupported _ | exact (Nev.runtimePanic _).nw | exact (Nev.boundsPanic _ _ _ _).nw | exact NW.typeInfo _ | exact NW.underlying _ | exact NW.sizeOf _ | exact NW.zeroValue _ | exact NW.isAgg _ | exact NW.part _ _ _ | exact NW.asIntOf _ | exact NW.asBool _ | exact NW.asAgg _ | exact NW.asAddr _ | exact NW.sureAddr _ | refine NW.bind ?_ (fun _ => ?_) | split | dsimp only)
theorem NW.unary (o : UnOp) (x : Value) : NW P (Op.unary o x) := by
  unfold Op.unary
  repeat' (first | exact NW.pure _ | exact NW.stuck _ | exact NW.unsupported _ | exact (Nev.runtimePanic _).nw | exact (Nev.boundsPanic _ _ _ _).nw | exact NW.typeInfo _ | exact NW.underlying _ | exact NW.sizeOf _ | exact NW.zeroValue _ | exact NW.isAgg _ | exact NW.part _ _ _ | exact NW.asIntOf _ | exact NW.asBool _ | exact NW.asAgg _ | exact NW.asAddr _ | exact NW.sureAddr _ | exact NW.intArith _ _ _ _ | exact NW.intBits _ _ _ _ | refine NW.bind ?_ (fun _ => ?_) | split | dsimp only)
theorem NW.mapM {α β : Type} (f : α → Sem β) (hf : ∀ a, NW P (f a)) (l : List α) : NW P (l.mapM f) := by
  induction l with
  | nil => simp only [List.mapM_nil]; exact NW.pure _
  | cons a l ih => simp only [List.mapM_cons]; exact (hf a).bind fun _ => ih.bind fun _ => NW.pure _
theorem NW.mapMA {α β : Type} (f : α → Sem β) (hf : ∀ a, NW P (f a)) (l : Array α) : NW P (l.mapM f) := by
  rw [Array.mapM_eq_mapM_toList]
  exact NW.bind (NW.mapM f hf _) fun _ => NW.pure _
theorem NW.build (t : TypeId) (l : Array (Nat × Value)) : NW P (Instr.build t l) := by
  unfold Instr.build
  repeat' (first | exact NW.pure _ | exact NW.stuck _ | exact NW.unsupported _ | exact (Nev.runtimePanic _).nw | exact (Nev.boundsPanic _ _ _ _).nw | exact NW.typeInfo _ | exact NW.underlying _ | exact NW.sizeOf _ | exact NW.zeroValue _ | exact NW.isAgg _ | exact NW.part _ _ _ | exact NW.asIntOf _ | exact NW.asBool _ | exact NW.asAgg _ | exact NW.asAddr _ | exact NW.sureAddr _ | exact NW.mapMA _ (fun _ => (NW.sizeOf _).bind fun _ => NW.pure _) _ | refine NW.bind ?_ (fun _ => ?_) | split | dsimp only)
end
end Go.Proofs.Ytjfnlgmllhjonaa
