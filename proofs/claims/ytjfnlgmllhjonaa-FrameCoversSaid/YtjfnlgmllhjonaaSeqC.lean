/- A region that draws its order, as one walk (3): the law. No condition. -/
import Derived.Test.YtjfnlgmllhjonaaSeqB
import Derived.OrdersHeld
namespace Go.Proofs.Ytjfnlgmllhjonaa
open Go.RowKit
set_option linter.unusedSimpArgs false
set_option linter.unusedVariables false
def fieldOk (P : Program) (s : TypeId) (f : Nat) : Bool := match P.underlying s with | some (.struct fs) => (match fs[f]? with | some g => (P.info? g.type).map (·.size) != some 0 | none => false) | _ => false
def intTo (P : Program) (d : TypeId) : Bool := match P.underlying d with | some (.int _) => true | _ => false
/-- Operations that read at most. -/
def kindQ (P : Program) (o : Oper) : Bool := match o.op with
  | .move _ | .assign _ | .pick _ _ _ | .build _ _ | .load _ _ | .binOp _ _ _ _ _ | .unOp _ _ _ | .makeInterface _ _ | .makeFunc _ _ _ | .slice _ _ _ _ _ | .field _ _ _ | .indexAddr _ _ _ | .index _ _ _ | .typeAssert _ _ _ _ | .extract _ _ | .nilCheck _ => true
  | .convert _ d _ => intTo P d
  | .fieldAddr s _ f => fieldOk P s f
  | .call c => match c.callee with | .builtin .len => true | .builtin .max => true | .builtin .min => true | _ => false
  | _ => false
def isLoad (o : Oper) : Bool := match o.op with | .load _ _ => true | _ => false
/-- Operands at which it touches no world. -/
def plainO (ρ : Operand → Value) (o : Oper) : Bool := match o.op with
  | .binOp _ _ x y _ => plainB (ρ x) (ρ y)
  | .convert _ _ x => match ρ x with | .int _ _ => true | _ => false
  | .nilCheck x => match ρ x with | .func (.method _) _ _ => false | _ => true
  | .call c => match c.callee, c.args.toList.map ρ with | .builtin .len, [.string _] => true | .builtin .len, [.slice _ _ _] => true | .builtin .max, [.int _ _, .int _ _] => true | .builtin .min, [.int _ _, .int _ _] => true | _, _ => false
  | _ => true
section
variable {P : Program}
theorem NW.v {s : Sem Value} (h : NW P s) : NW P ((do Pure.pure (Next.value (← s))) : Sem Next) := h.bind fun _ => NW.pure _
theorem RO.v {s : Sem Value} (h : RO P s) : RO P ((do Pure.pure (Next.value (← s))) : Sem Next) := h.bind fun _ => (NW.pure _).ro
theorem v_value {s : Sem Value} {w : World} {n : Next} {w' : World} (h : ((do Pure.pure (Next.value (← s))) : Sem Next).run P w = .ok n w') : ∃ v, n = .value v := by
  obtain ⟨a, w1, _, h2⟩ := run_bind_ok h
  have e : (Pure.pure (Next.value a) : Sem Next).run P w1 = .ok (.value a) w1 := rfl
  rw [e] at h2; injection h2 with h3; exact ⟨a, h3.symm⟩
theorem pure_value {v : Value} {w : World} {n : Next} {w' : World} (h : (Pure.pure (Next.value v) : Sem Next).run P w = .ok n w') : ∃ v, n = .value v := by
  have e : (Pure.pure (Next.value v) : Sem Next).run P w = .ok (.value v) w := rfl
  rw [e] at h; injection h with h3; exact ⟨v, h3.symm⟩
theorem len_exec (ρ : Operand → Value) (o : Oper) (c : Call) (ho : o.op = .call c) (hc : c.callee = .builtin .len) (w : World) : (execOp ρ o).run P w = ((do Pure.pure (Next.value (← Builtin.len_ c.argTypes o.type (c.args.map ρ)))) : Sem Next).run P w := by
  obtain ⟨dst, op, type, pos, after, guard⟩ := o
  dsimp only at ho
  subst ho
  obtain ⟨callee, args, argTypes⟩ := c
  dsimp only at hc
  subst hc
  rfl
theorem max_exec (ρ : Operand → Value) (o : Oper) (c : Call) (ho : o.op = .call c) (hc : c.callee = .builtin .max) (w : World) : (execOp ρ o).run P w = ((do Pure.pure (Next.value (← Builtin.max_ c.argTypes o.type (c.args.map ρ)))) : Sem Next).run P w := by
  obtain ⟨dst, op, type, pos, after, guard⟩ := o
  dsimp only at ho
  subst ho
  obtain ⟨callee, args, argTypes⟩ := c
  dsimp only at hc
  subst hc
  rfl
theorem min_exec (ρ : Operand → Value) (o : Oper) (c : Call) (ho : o.op = .call c) (hc : c.callee = .builtin .min) (w : World) : (execOp ρ o).run P w = ((do Pure.pure (Next.value (← Builtin.min_ c.argTypes o.type (c.args.map ρ)))) : Sem Next).run P w := by
  obtain ⟨dst, op, type, pos, after, guard⟩ := o
  dsimp only at ho
  subst ho
  obtain ⟨callee, args, argTypes⟩ := c
  dsimp only at hc
  subst hc
  rfl
theorem call_kind {c : Call} {dst : Option Tmp} {type : TypeId} {pos : String} {after : Array Edge} {guard : Option (Nat × Bool)} (hk : kindQ P ⟨dst, .call c, type, pos, after, guard⟩ = true) : c.callee = .builtin .len ∨ c.callee = .builtin .max ∨ c.callee = .builtin .min := by
  unfold kindQ at hk
  dsimp only at hk
  split at hk
  · exact Or.inl (by assumption)
  · exact Or.inr (Or.inl (by assumption))
  · exact Or.inr (Or.inr (by assumption))
  · cases hk
theorem kind_val {o : Oper} (hk : kindQ P o = true) (ρ : Operand → Value) : ∀ w n w', (execOp ρ o).run P w = .ok n w' → ∃ v, n = .value v := by
  intro w n w' h
  have ho := o
  obtain ⟨dst, op, type, pos, after, guard⟩ := o
  cases op
  case call c =>
    rcases call_kind hk with hc | hc | hc
    · rw [len_exec ρ _ c rfl hc] at h
      exact v_value h
    · rw [max_exec ρ _ c rfl hc] at h
      exact v_value h
    · rw [min_exec ρ _ c rfl hc] at h
      exact v_value h
  case nilCheck x =>
    unfold execOp at h
    dsimp only at h
    split at h
    all_goals first
      | exact pure_value h
      | exact absurd h (Nev.runtimePanic _ _ _ _)
      | skip
    split at h
    all_goals first
      | exact pure_value h
      | exact absurd h (Nev.runtimePanic _ _ _ _)
      | skip
    obtain ⟨a, w1, h1, h2⟩ := run_bind_ok h
    obtain ⟨a2, w2, h3, h4⟩ := run_bind_ok h2
    split at h4
    · obtain ⟨a3, w3, h5, h6⟩ := run_bind_ok h4
      exact pure_value h6
    · first | exact pure_value h4 | (obtain ⟨a3, w3, h5, h6⟩ := run_bind_ok h4; exact pure_value h6)
  all_goals first
    | (cases hk; done)
    | (unfold execOp at h; dsimp only at h; first | exact pure_value h | exact v_value h)
    | (unfold execOp at h; dsimp only at h; obtain ⟨a, w1, h1, h2⟩ := run_bind_ok h; exact pure_value h2)
theorem kind_nw {o : Oper} (hk : kindQ P o = true) (hl : isLoad o = false) {ρ : Operand → Value} (hp : plainO ρ o = true) : NW P (execOp ρ o) := by
  obtain ⟨dst, op, type, pos, after, guard⟩ := o
  cases op
  case call c =>
    obtain ⟨callee, args, argTypes⟩ := c
    unfold plainO at hp
    dsimp only at hp
    have ha : args.map ρ = (args.toList.map ρ).toArray := by rw [← Array.toList_map]
    intro w a w' h w2
    rcases call_kind hk with hc | hc | hc <;> (dsimp only at hc; subst hc)
    · rw [len_exec ρ _ _ rfl rfl] at h ⊢
      dsimp only at h ⊢
      rw [ha] at h ⊢
      split at hp
      all_goals first
        | (rename_i hq; rw [hq] at h ⊢; exact (NW.len _ _ _).v w a w' h w2)
        | (rename_i hq; rw [hq] at h ⊢; exact (NW.lenS _ _ _ _ _).v w a w' h w2)
        | (rename_i he; cases he; done)
        | (rename_i he _; cases he; done)
        | (cases hp; done)
    · rw [max_exec ρ _ _ rfl rfl] at h ⊢
      dsimp only at h ⊢
      rw [ha] at h ⊢
      split at hp
      all_goals first
        | (rename_i hq; rw [hq] at h ⊢; exact (NW.max _ _ _ _ _ _).v w a w' h w2)
        | (rename_i he _; cases he; done)
        | (rename_i he; cases he; done)
        | (cases hp; done)
    · rw [min_exec ρ _ _ rfl rfl] at h ⊢
      dsimp only at h ⊢
      rw [ha] at h ⊢
      split at hp
      all_goals first
        | (rename_i hq; rw [hq] at h ⊢; exact (NW.min _ _ _ _ _ _).v w a w' h w2)
        | (rename_i he _; cases he; done)
        | (rename_i he; cases he; done)
        | (cases hp; done)
  case nilCheck x =>
    unfold plainO at hp
    dsimp only at hp
    unfold execOp
    dsimp only
    split
    all_goals first
      | exact NW.pure _
      | exact (Nev.runtimePanic _).nw
      | (rename_i hq; rw [hq] at hp; cases hp)
  case binOp =>
    unfold execOp
    exact ((NW.eqGuard _ _ _ _ _ _ hp).bind fun _ => NW.binOp _ _ _ _ hp).v
  case convert s d x =>
    unfold plainO at hp
    dsimp only at hp
    unfold kindQ intTo at hk
    dsimp only at hk
    unfold execOp
    dsimp only
    split at hp
    · rename_i k n hq
      rw [hq]
      split at hk
      · rename_i K hK
        exact (NW.convertInt s d k n K hK).v
      · cases hk
    · cases hp
  case fieldAddr s x f => unfold execOp; exact (NW.fieldAt s (ρ x) f hk).v
  case load => cases hl
  all_goals first
    | (cases hk; done)
    | (unfold execOp; dsimp only; first | exact NW.pure _ | exact (NW.asBool _).bind fun _ => NW.pure _ | exact (NW.build _ _).v | exact (NW.unary _ _).v | exact (NW.makeInterface _ _).v | exact (NW.makeFunc _ _ _).v | exact (NW.sliceAt _ _ _ _ _).v | exact (NW.field _ _ _).v | exact (NW.indexAt _ _ _).v | exact (NW.index _ _ _).v | exact (NW.typeAssert _ _ _ _).v | exact (NW.extract _ _).v)
theorem kind_ro {o : Oper} (hk : kindQ P o = true) {ρ : Operand → Value} (hp : plainO ρ o = true) : RO P (execOp ρ o) := by
  cases hl : isLoad o with
  | false => exact (kind_nw hk hl hp).ro
  | true =>
    obtain ⟨dst, op, type, pos, after, guard⟩ := o
    cases op
    case load t x => unfold execOp; exact (RO.loadAt t (ρ x)).v
    all_goals cases hl
end
end Go.Proofs.Ytjfnlgmllhjonaa
