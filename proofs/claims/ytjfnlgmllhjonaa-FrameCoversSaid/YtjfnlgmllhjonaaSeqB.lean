/- A region that draws its order, as one walk (2): what each operation may do. No condition. -/
import Derived.Test.YtjfnlgmllhjonaaSeqA
namespace Go.Proofs.Ytjfnlgmllhjonaa
open Go.RowKit
set_option linter.unusedSimpArgs false
set_option linter.unusedVariables false
/-- Values at which an operator touches no world. -/
def plainB (x y : Value) : Bool := match x, y with
  | .int _ _, .int _ _ => true
  | .string _, .string _ => true
  | .bool _, .bool _ => true
  | .pointer none, .pointer none => true
  | .pointer (some _), .pointer none => true
  | .slice _ _ _, .slice none _ _ => true
  | .iface _ _, .nilIface => true
  | _, _ => false
section
variable {P : Program} {α β : Type}
theorem NW.len (ts : Array TypeId) (t : TypeId) (s : ByteArray) : NW P (Builtin.len_ ts t #[.string s]) := by
  unfold Builtin.len_
  repeat' (first | exact NW.pure _ | exact NW.stuck _ | exact NW.unsupported _ | exact (Nev.runtimePanic _).nw | exact (Nev.boundsPanic _ _ _ _).nw | exact NW.typeInfo _ | exact NW.underlying _ | exact NW.sizeOf _ | exact NW.zeroValue _ | exact NW.isAgg _ | exact NW.part _ _ _ | exact NW.asIntOf _ | exact NW.asBool _ | exact NW.asAgg _ | exact NW.asAddr _ | exact NW.sureAddr _ | refine NW.bind ?_ (fun _ => ?_) | split | dsimp only)
  all_goals (rename_i h; simp at h)
theorem NW.lenS (ts : Array TypeId) (t : TypeId) (A : Option Addr) (n c : Nat) : NW P (Builtin.len_ ts t #[.slice A n c]) := by
  unfold Builtin.len_
  repeat' (first | exact NW.pure _ | exact NW.stuck _ | exact NW.unsupported _ | exact (Nev.runtimePanic _).nw | exact (Nev.boundsPanic _ _ _ _).nw | exact NW.typeInfo _ | exact NW.underlying _ | exact NW.sizeOf _ | exact NW.zeroValue _ | exact NW.isAgg _ | exact NW.part _ _ _ | exact NW.asIntOf _ | exact NW.asBool _ | exact NW.asAgg _ | exact NW.asAddr _ | exact NW.sureAddr _ | refine NW.bind ?_ (fun _ => ?_) | split | dsimp only)
  all_goals (rename_i h; simp at h)
theorem NW.max (ts : Array TypeId) (t : TypeId) (k k2 : IntKind) (x y : Int) : NW P (Builtin.max_ ts t #[.int k x, .int k2 y]) := by
  unfold Builtin.max_
  simp only [List.foldlM_cons, List.foldlM_nil]
  exact (NW.pure _ : NW P (Builtin.max2 (.int k x) (.int k2 y))).bind fun _ => NW.pure _
theorem NW.min (ts : Array TypeId) (t : TypeId) (k k2 : IntKind) (x y : Int) : NW P (Builtin.min_ ts t #[.int k x, .int k2 y]) := by
  unfold Builtin.min_
  simp only [List.foldlM_cons, List.foldlM_nil]
  exact (NW.pure _ : NW P (Builtin.min2 (.int k x) (.int k2 y))).bind fun _ => NW.pure _
theorem NW.eqGuard (op : BinOp) (t : TypeId) (ox oy : Operand) (x y : Value) (h : plainB x y = true) : NW P (Go.eqGuard op t ox oy x y) := by
  unfold Go.eqGuard
  unfold plainB at h
  split at h <;> first | (cases h; done) | (dsimp only; split <;> exact NW.pure _)
theorem NW.equalIn (d : Nat) (t : TypeId) : ∀ (x y : Value), plainB x y = true → NW P (Op.equalIn (d + 1) t x y)
  | .int _ _, .int _ _, _ => by
    simp only [Op.equalIn]
    refine (NW.underlying t).bind fun dd => ?_
    cases dd <;> (try dsimp only) <;> first | exact NW.pure _ | exact NW.stuck _ | exact NW.unsupported _ | (split <;> first | exact NW.pure _ | exact NW.stuck _)
  | .string _, .string _, _ => by
    simp only [Op.equalIn]
    refine (NW.underlying t).bind fun dd => ?_
    cases dd <;> (try dsimp only) <;> first | exact NW.pure _ | exact NW.stuck _ | exact NW.unsupported _ | (split <;> first | exact NW.pure _ | exact NW.stuck _)
  | .bool _, .bool _, _ => by
    simp only [Op.equalIn]
    refine (NW.underlying t).bind fun dd => ?_
    cases dd <;> (try dsimp only) <;> first | exact NW.pure _ | exact NW.stuck _ | exact NW.unsupported _ | (split <;> first | exact NW.pure _ | exact NW.stuck _)
  | .pointer none, .pointer none, _ => by
    simp only [Op.equalIn]
    refine (NW.underlying t).bind fun dd => ?_
    cases dd <;> (try dsimp only) <;> first | exact NW.pure _ | exact NW.stuck _ | exact NW.unsupported _ | (split <;> first | exact NW.pure _ | exact NW.stuck _)
  | .pointer (some _), .pointer none, _ => by
    simp only [Op.equalIn]
    refine (NW.underlying t).bind fun dd => ?_
    cases dd <;> (try dsimp only) <;> first | exact NW.pure _ | exact NW.stuck _ | exact NW.unsupported _ | (split <;> first | exact NW.pure _ | exact NW.stuck _)
  | .slice none _ _, .slice none _ _, _ => by
    simp only [Op.equalIn]
    refine (NW.underlying t).bind fun dd => ?_
    cases dd <;> (try dsimp only) <;> first | exact NW.pure _ | exact NW.stuck _ | exact NW.unsupported _ | (split <;> first | exact NW.pure _ | exact NW.stuck _)
  | .slice (some _) _ _, .slice none _ _, _ => by
    simp only [Op.equalIn]
    refine (NW.underlying t).bind fun dd => ?_
    cases dd <;> (try dsimp only) <;> first | exact NW.pure _ | exact NW.stuck _ | exact NW.unsupported _ | (split <;> first | exact NW.pure _ | exact NW.stuck _)
  | .iface _ _, .nilIface, _ => by
    simp only [Op.equalIn]
    refine (NW.underlying t).bind fun dd => ?_
    cases dd <;> (try dsimp only) <;> first | exact NW.pure _ | exact NW.stuck _ | exact NW.unsupported _ | (split <;> first | exact NW.pure _ | exact NW.stuck _)
theorem NW.binOp (op : BinOp) (t : TypeId) (x y : Value) (h : plainB x y = true) : NW P (Go.binOp op t x y) := by
  have he : NW P (Op.equal t x y) := NW.equalIn 9999 t x y h
  have he1 : NW P ((do Pure.pure (Value.bool (← Op.equal t x y))) : Sem Value) := he.bind fun _ => NW.pure _
  have he2 : NW P ((do Pure.pure (Value.bool (!(← Op.equal t x y)))) : Sem Value) := he.bind fun _ => NW.pure _
  unfold plainB at h
  split at h
  all_goals first
    | (cases h; done)
    | (unfold Go.binOp
       cases op <;> dsimp only <;> first | exact he1 | exact he2 | (split <;> first | exact NW.stuck _ | exact NW.intArith _ _ _ _ | exact NW.intBits _ _ _ _ | exact NW.intDiv _ _ _ _ | exact NW.intCmp _ _ _) | exact NW.shift _ _ _ _ _ | exact NW.stringOp _ _ _ | exact NW.unsupported _ | exact NW.stuck _)
theorem RO.load (a : Addr) : RO P (Go.load a) := fun w v w' e => by
  unfold Go.load at e
  simp only [Sem.run] at e
  split at e
  · injection e with _ h; exact h.symm
  · split at e
    · injection e with _ h; exact h.symm
    · cases e
theorem RO.loadCellsFrom (a : Addr) (n : Nat) : ∀ (i : Nat) (acc : Array Value), RO P (Go.loadCellsFrom a i n acc) := by
  induction n with
  | zero => intro i acc; simp only [Go.loadCellsFrom]; exact (NW.pure _).ro
  | succ n ih => intro i acc; simp only [Go.loadCellsFrom]; exact (RO.load _).bind fun _ => ih _ _
theorem RO.loadAt (t : TypeId) (x : Value) : RO P (Instr.loadAt t x) := by
  unfold Instr.loadAt
  refine (NW.sureAddr x).ro.bind fun a => ?_
  unfold Go.loadVar
  refine (NW.isAgg t).ro.bind fun b => ?_
  split
  · refine (NW.sizeOf t).ro.bind fun n => ?_
    unfold Go.loadCells
    exact (RO.loadCellsFrom _ _ _ _).bind fun _ => (NW.pure _).ro
  · exact RO.load _
theorem NW.convertInt (s d : TypeId) (k : IntKind) (n : Int) (K : IntKind) (hd : P.underlying d = some (.int K)) : NW P (Go.convert s d (.int k n)) := by
  unfold Go.convert
  refine (NW.underlying s).bind fun ds => ?_
  intro w a w' e
  obtain ⟨dd, w1, h1, h2⟩ := run_bind_ok e
  have hu : (Go.underlying d).run P w = .ok (.int K) w := by
    unfold Go.underlying
    rw [run_bind_mk (a := P) (w1 := w) rfl]
    simp [hd, Sem.run]
  rw [hu] at h1
  injection h1 with h3 h4
  subst h3 h4
  intro w2
  have hu2 : (Go.underlying d).run P w2 = .ok (.int K) w2 := by
    unfold Go.underlying
    rw [run_bind_mk (a := P) (w1 := w2) rfl]
    simp [hd, Sem.run]
  rw [run_bind_mk hu2]
  cases ds <;> exact (NW.pure _ : NW P (Conv.intToInt K n)) w a w' h2 w2
theorem NW.fieldAt (s : TypeId) (x : Value) (f : Nat) (hf : (match P.underlying s with | some (.struct fs) => (match fs[f]? with | some g => (P.info? g.type).map (·.size) != some 0 | none => false) | _ => false) = true) : NW P (Instr.fieldAt s x f) := by
  unfold Instr.fieldAt
  intro w a w' e
  obtain ⟨d, w1, h1, h2⟩ := run_bind_ok e
  have g1 := NW.underlying s w d w1 h1
  have hd : P.underlying s = some d := by
    unfold Go.underlying at h1
    rw [run_bind_mk (a := P) (w1 := w) rfl] at h1
    split at h1
    · rename_i d' hd'; simp only [Pure.pure, Sem.run] at h1; injection h1 with h3 h4; rw [hd', h3]
    · cases h1
  rw [hd] at hf
  have e1 := NW.ro (NW.underlying s) w d w1 h1
  subst e1
  intro w2
  rw [run_bind_mk (g1 w2)]
  cases d with
  | struct fs =>
    dsimp only at h2 hf ⊢
    cases hff : fs[f]? with
    | none => rw [hff] at hf; cases hf
    | some g =>
      rw [hff] at hf h2
      dsimp only at h2 hf ⊢
      obtain ⟨p, w3, h5, h6⟩ := run_bind_ok h2
      rw [run_bind_mk (NW.sureAddr x _ _ _ h5 w2)]
      have e3 := NW.ro (NW.sureAddr x) _ _ _ h5
      subst e3
      obtain ⟨q, w4, h7, h8⟩ := run_bind_ok h6
      have hq : NW P (Go.fieldPlace p g) := by
        intro u b u' eb
        unfold Go.fieldPlace at eb
        obtain ⟨n, u1, k1, k2⟩ := run_bind_ok eb
        have hn : n ≠ 0 := by
          intro h0
          subst h0
          unfold Go.sizeOf Go.typeInfo at k1
          obtain ⟨i, u2, k3, k4⟩ := run_bind_ok k1
          rw [run_bind_mk (a := P) (w1 := u) rfl] at k3
          simp only [Pure.pure, Sem.run] at k4
          injection k4 with k5 k6
          split at k3
          · rename_i i' hi'
            simp only [Pure.pure, Sem.run] at k3
            injection k3 with k7 k8
            subst k7
            rw [hi'] at hf
            simp [k5] at hf
          · cases k3
        intro u2
        unfold Go.fieldPlace
        rw [run_bind_mk (NW.sizeOf g.type _ _ _ k1 u2)]
        rw [if_neg hn] at k2 ⊢
        exact NW.pure _ _ _ _ k2 u2
      rw [run_bind_mk (hq _ _ _ h7 w2)]
      exact NW.pure _ _ _ _ h8 w2
  | _ => cases hf
end
end Go.Proofs.Ytjfnlgmllhjonaa
