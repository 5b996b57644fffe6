/- same, of each kind of segment (gen_same.py). No condition. -/
import Derived.Test.YthibnhgbgmpjoaaDoorHSegS
import Derived.Test.YthibnhgbgmpjoaaDoorHRsD
import Derived.Test.YthibnhgbgmpjoaaDoorHSegT
import Derived.Test.YthibnhgbgmpjoaaDoorHRsC
namespace Go.Proofs.YthibnhgbgmpjoaaDoor
open Go.RowKit
set_option linter.unusedSimpArgs false
set_option linter.unusedVariables false
set_option maxRecDepth 100000
theorem exec_load_mid {P : Program} {ρ : Operand → Value} {o : Oper} {w : World} (ty : TypeId) (x : Operand) (ho : o.op = .load ty x) (b i : Nat) (hx : ρ x = .pointer (some ⟨b, i, none⟩)) (cs : List Value) (d : TypeDesc) (hc : w.rangeAt b i cs)
    (hu : P.underlying ty = some d) (hd : d.isRow = true) (hi : (P.info? ty).map (·.size) = some cs.length) : (execOp ρ o).run P w = .ok (.value (.agg cs.toArray)) w := by
  unfold execOp
  simp only [ho, hx, Instr.loadAt, Instr.sureAddr, Sem.run_bind, Sem.run_pure, Result.andThen_ok, run_loadVar_mid w b i ty cs d hc hu hd hi]
theorem range_bel {w w' : World} {b i : Nat} {cs : List Value} (h : w.rangeAt b i cs) (hb : Below w.heap.size w w') (hl : b < w.heap.size) : w'.rangeAt b i cs := fun j v hv => (hb.cell (p := ⟨b, i + j, none⟩) hl).trans (h j v hv)
theorem RdC.at1 {α : Type} {c : α → List Value} {q : Nat} {w : World} {A : Option Addr} {l : List α} (h : RdC c q w A l) {i : Nat} (hi : i < l.length) : ∃ g off, A = some ⟨g, off, none⟩ ∧ g < w.heap.size ∧ ∀ j, j < q → w.cell? ⟨g, off + i * q + j, none⟩ = (c l[i])[j]? := by
  obtain ⟨g, off, h1, h2, h3⟩ := h i hi
  exact ⟨g, off, h1, h2, fun j hj => by rw [Nat.add_assoc]; exact h3 j hj⟩
theorem rdc_range {α : Type} {c : α → List Value} {q : Nat} {w : World} {g off i : Nat} {x : α} (hC : CellsOf c q) (h : ∀ j, j < q → w.cell? ⟨g, off + i * q + j, none⟩ = (c x)[j]?) : w.rangeAt g (off + i * q) (c x) := fun j v hv => by
  have hj : j < q := by have := (List.getElem?_eq_some_iff.1 hv).1; rw [hC.len] at this; exact this
  rw [h j hj]; exact hv
/-- A segment as the program has it, wherever its slices lie. -/
def SgR (w : World) (v : Value) : Sg → Prop
  | .plain c b => v = .iface 97 (.agg #[.int .i64 c, .string b])
  | .quants l => ∃ A cp, v = .iface 115 (.agg #[.slice A l.length cp]) ∧ RdC Qt.cells 66 w A l
  | .huffs l => ∃ A cp, v = .iface 119 (.agg #[.slice A l.length cp]) ∧ RdC Hf.cells 19 w A l
  | .frame c h ww l => ∃ A cp, v = .iface 123 (.agg #[.int .i64 c, .int .i64 h, .int .i64 ww, .slice A l.length cp]) ∧ RdC Pt.cells 4 w A l
  | .scan l a b hi lo => ∃ A cp, v = .iface 105 (.agg #[.slice A l.length cp, .int .i64 a, .int .i64 b, .int .i64 hi, .int .i64 lo]) ∧ RdC Pk.cells 3 w A l
  | .rst n => v = .iface 94 (.agg #[.int .i64 n])
/-- The document's segment, wherever its slices lie. -/
def RgR (w : World) (cs : Array Value) : Sg → Prop
  | .plain c b => cs = SC c b nilS nilS 0 0 nilS nilS 0 0 0 0 0
  | .quants l => ∃ A cp, cs = SC 219 ⟨#[]⟩ (.slice A l.length cp) nilS 0 0 nilS nilS 0 0 0 0 0 ∧ RdC Qt.cells 66 w A l
  | .huffs l => ∃ A cp, cs = SC 196 ⟨#[]⟩ nilS (.slice A l.length cp) 0 0 nilS nilS 0 0 0 0 0 ∧ RdC Hf.cells 19 w A l
  | .frame c h ww l => ∃ A cp, cs = SC c ⟨#[]⟩ nilS nilS h ww (.slice A l.length cp) nilS 0 0 0 0 0 ∧ RdC Pt.cells 4 w A l
  | .scan l a b hi lo => ∃ A cp, cs = SC 218 ⟨#[]⟩ nilS nilS 0 0 nilS (.slice A l.length cp) a b hi lo 0 ∧ RdC Pk.cells 3 w A l
  | .rst n => cs = SC 221 ⟨#[]⟩ nilS nilS 0 0 nilS nilS 0 0 0 0 n
theorem SgR.bel {w w' : World} {v : Value} {x : Sg} (h : SgR w v x) (hb : Below w.heap.size w w') : SgR w' v x := by
  cases x with
  | plain c b => exact h
  | quants l => obtain ⟨A, cp, h1, h2⟩ := h; exact ⟨A, cp, h1, h2.bel hb⟩
  | huffs l => obtain ⟨A, cp, h1, h2⟩ := h; exact ⟨A, cp, h1, h2.bel hb⟩
  | frame c hh ww l => obtain ⟨A, cp, h1, h2⟩ := h; exact ⟨A, cp, h1, h2.bel hb⟩
  | scan l a b hi lo => obtain ⟨A, cp, h1, h2⟩ := h; exact ⟨A, cp, h1, h2.bel hb⟩
  | rst n => exact h
theorem RgR.bel {w w' : World} {cs : Array Value} {x : Sg} (h : RgR w cs x) (hb : Below w.heap.size w w') : RgR w' cs x := by
  cases x with
  | plain c b => exact h
  | quants l => obtain ⟨A, cp, h1, h2⟩ := h; exact ⟨A, cp, h1, h2.bel hb⟩
  | huffs l => obtain ⟨A, cp, h1, h2⟩ := h; exact ⟨A, cp, h1, h2.bel hb⟩
  | frame c hh ww l => obtain ⟨A, cp, h1, h2⟩ := h; exact ⟨A, cp, h1, h2.bel hb⟩
  | scan l a b hi lo => obtain ⟨A, cp, h1, h2⟩ := h; exact ⟨A, cp, h1, h2.bel hb⟩
  | rst n => exact h
theorem SgV.r {w : World} {base : Nat} {v : Value} {x : Sg} (h : SgV w base v x) : SgR w v x := by
  cases x with
  | plain c b => exact h
  | quants l => obtain ⟨u, rfl, h2⟩ := h; obtain ⟨A, cp, rfl, _⟩ := h2.form; exact ⟨A, cp, rfl, h2.rd Qt.is⟩
  | huffs l => obtain ⟨u, rfl, h2⟩ := h; obtain ⟨A, cp, rfl, _⟩ := h2.form; exact ⟨A, cp, rfl, h2.rd Hf.is⟩
  | frame c hh ww l => obtain ⟨u, rfl, h2⟩ := h; obtain ⟨A, cp, rfl, _⟩ := h2.form; exact ⟨A, cp, rfl, h2.rd Pt.is⟩
  | scan l a b hi lo => obtain ⟨u, rfl, h2⟩ := h; obtain ⟨A, cp, rfl, _⟩ := h2.form; exact ⟨A, cp, rfl, h2.rd Pk.is⟩
  | rst n => exact h
/-- What stands behind same's beginning: its own copies of both. -/
structure SmI (w : World) (t : TypeId) (cs ys : Array Value) (wr : World) : Prop where
  x : Blk wr w.heap.size 37 cs
  y : Blk wr (w.heap.size + 1) t ys
  be : Below w.heap.size w wr
theorem SmI.bel {w wr w' : World} {t : TypeId} {cs ys : Array Value} (h : SmI w t cs ys wr) (hb : Below wr.heap.size wr w') : SmI w t cs ys w' := ⟨h.x.bel hb, h.y.bel hb, h.be.trans (hb.mono h.be.size)⟩
theorem SmI.mk0 (w : World) (t : TypeId) (cs ys : Array Value) : SmI w t cs ys ((w.alloc (.cells cs 37)).alloc (.cells ys t)) :=
  ⟨(Blk.new w _ _).alloc _, Blk.nw (by rw [World.size_alloc]), ((Below.refl _ _).alloc (Nat.le_refl _) _).alloc ((Below.refl w.heap.size w).alloc (Nat.le_refl _) _).size _⟩
theorem run_equalIn_arr {P : Program} (w : World) {t e : TypeId} {K : IntKind} {n : Nat} {i : TypeInfo} (ht : P.underlying t = some (.array n e)) (he : P.underlying e = some (.int K)) (hce : P.plainKey e = true) (hi : P.info? e = some i) (h1 : P.cellsOf e = 1) (u : Nat → Int) :
    (Op.equalIn 10000 t (.agg (arrN K n u)) (.agg (arrN K n u))).run P w = .ok true w := by
  rw [run_equalIn_array w 9999 _ _ ht hi, h1, eqItems_arr w 9998 he hce u u _ (fun i hi => List.mem_range.1 hi)]
  simp
theorem run_neq_arr {P : Program} (w : World) {t e : TypeId} {K : IntKind} {n : Nat} {i : TypeInfo} (ht : P.underlying t = some (.array n e)) (he : P.underlying e = some (.int K)) (hce : P.plainKey e = true) (hi : P.info? e = some i) (h1 : P.cellsOf e = 1) (u : Nat → Int) :
    (binOp .neq t (.agg (arrN K n u)) (.agg (arrN K n u))).run P w = .ok (.bool false) w := by
  have h := run_eql_arr w ht he hce hi h1 u u
  have e1 : (binOp .neq t (.agg (arrN K n u)) (.agg (arrN K n u))) = (do let x ← Op.equal t (.agg (arrN K n u)) (.agg (arrN K n u)); pure (Value.bool (!x))) := rfl
  have e2 : (binOp .eql t (.agg (arrN K n u)) (.agg (arrN K n u))) = (do let x ← Op.equal t (.agg (arrN K n u)) (.agg (arrN K n u)); pure (Value.bool x)) := rfl
  rw [e1]
  rw [e2] at h
  obtain ⟨b, w1, h2, h3⟩ := run_bind_ok h
  rw [run_bind_mk h2]
  have e3 : (pure (Value.bool b) : Sem Value).run P w1 = .ok (.bool b) w1 := rfl
  rw [e3] at h3
  injection h3 with h4 h5
  subst h5
  injection h4 with h4
  rw [h4]
  show Result.ok (Value.bool (!decide (∀ j, j < n → u j = u j))) w1 = _
  rw [decide_eq_true (fun j _ => rfl)]
  rfl

theorem exec_neq {P : Program} {ρ : Operand → Value} {o : Oper} {w : World} {t u : TypeId} {x y : Operand} {X Y : Array Value} {v : Value} (ho : o.op = .binOp .neq t x y u) (hx : ρ x = .agg X) (hy : ρ y = .agg Y) (hg : P.eqGuardType P.depth t = false)
    (h : (binOp .neq t (.agg X) (.agg Y)).run P w = .ok v w) : (execOp ρ o).run P w = .ok (.value v) w := by
  unfold execOp
  simp only [ho, hx, hy]
  have e : (Go.eqGuard .neq t x y (.agg X) (.agg Y)).run P w = .ok () w := by
    unfold Go.eqGuard
    simp [Sem.run_bind, hg, go_sem]
  rw [Sem.run_bind, Sem.run_bind, e]
  simp only [Result.andThen_ok, h]
  rfl
theorem wpList_load_midG {P : Program} {ops : Array Oper} {rest : List Oper} {op : Oper} {a : Act} {w : World} {Q : Exit → Act → World → Prop} (hw : Region.wanted op (yielded ops a.tmps) = true) (ty : TypeId) (x : Operand) (ho : op.op = .load ty x)
    (b o : Nat) (hx : a.eval x = .pointer (some ⟨b, o, none⟩)) (cs : List Value) (d : TypeDesc) (hc : w.rangeAt b o cs) (hu : P.underlying ty = some d) (hd : d.isRow = true) (hi : (P.info? ty).map (·.size) = some cs.length)
    (h : wpList P ops Q rest (a.put op.dst (.agg cs.toArray)) w) : wpList P ops Q (op :: rest) a w :=
  wpList_step fun K hK => by
    simp only [hw, if_true]
    exact wp_load_mid ty x ho b o hx cs d hc hu hd hi (hK _ _ h)
end Go.Proofs.YthibnhgbgmpjoaaDoor
