/- same, of each kind of segment (gen_same.py). No condition. -/
import Derived.Test.YtdohhhkondokkaaDoorSegS
import Derived.Test.YtdohhhkondokkaaDoorRsD
import Derived.Test.YtdohhhkondokkaaDoorSegT
import Derived.Test.YtdohhhkondokkaaDoorRsC
namespace Go.Proofs.YtdohhhkondokkaaDoor
open Go.RowKit
set_option linter.unusedSimpArgs false
set_option linter.unusedVariables false
set_option maxRecDepth 100000
theorem exec_load_mid {P : Program} {ρ : Operand → Value} {o : Oper} {w : World} (ty : TypeId) (x : Operand) (ho : o.op = .load ty x) (b i : Nat) (hx : ρ x = .pointer (some ⟨b, i, none⟩)) (cs : List Value) (d : TypeDesc) (hc : w.rangeAt b i cs)
    (hu : P.underlying ty = some d) (hd : d.isRow = true) (hi : (P.info? ty).map (·.size) = some cs.length) : (execOp ρ o).run P w = .ok (.value (.agg cs.toArray)) w := by
  unfold execOp
  simp only [ho, hx, Instr.loadAt, Instr.sureAddr, Sem.run_bind, Sem.run_pure, Result.andThen_ok, run_loadVar_mid w b i ty cs d hc hu hd hi]
theorem range_bel {w w' : World} {b i : Nat} {cs : List Value} (h : w.rangeAt b i cs) (hb : Below w.heap.size w w') (hl : b < w.heap.size) : w'.rangeAt b i cs := fun j v hv => (hb.cell (p := ⟨b, i + j, none⟩) hl).trans (h j v hv)
theorem RdC.at1 {α : Type} {c : α → List Value} {q : Nat} {w : World} {A : Option Addr} {l : List α} (h : RdC c q w A l) {i : Nat} (hi : i < l.length) : ∃ g off, A = some ⟨g, off, none⟩ ∧ g < w.heap.size ∧ ∀ j, j < q → w.cell? ⟨g, off + i * q + j, none⟩ = (c l[i])[j]? := by
  obtain ⟨g, off, h1, h2, h3⟩ := h i hi
  exact ⟨g, off, h1, h2, fun j hj => by rw [Nat.add_assoc]; exact h3 j hj⟩
theorem rdc_range {α : Type} {c : α → List Value} {q : Nat} {w : World} {g off i : Nat} {x : α} (hC : CellsOf c q) (h : ∀ j, j < q → w.cell? ⟨g, off + i * q + j, none⟩ = (c x)[j]?) : w.rangeAt g (off + i * q) (c x) := fun j v hv => by
  have hj : j < q := by have := (List.getElem?_eq_some_iff.1 hv).1; rw [hC.len] at this; exact this
  rw [h j hj]; exact hv
/-- A segment as the program has it, wherever its slices lie. -/
def SgR (w : World) (v : Value) : Sg → Prop
  | .plain c b => v = .iface 93 (.agg #[.int .i64 c, .string b])
  | .quants l => ∃ A cp, v = .iface 47 (.agg #[.slice A l.length cp]) ∧ RdC Qt.cells 66 w A l
  | .huffs l => ∃ A cp, v = .iface 55 (.agg #[.slice A l.length cp]) ∧ RdC Hf.cells 19 w A l
  | .frame c h ww l => ∃ A cp, v = .iface 65 (.agg #[.int .i64 c, .int .i64 h, .int .i64 ww, .slice A l.length cp]) ∧ RdC Pt.cells 4 w A l
  | .scan l a b hi lo => ∃ A cp, v = .iface 74 (.agg #[.slice A l.length cp, .int .i64 a, .int .i64 b, .int .i64 hi, .int .i64 lo]) ∧ RdC Pk.cells 3 w A l
  | .rst n => v = .iface 61 (.agg #[.int .i64 n])
/-- The document's segment, wherever its slices lie. -/
def RgR (w : World) (cs : Array Value) : Sg → Prop
  | .plain c b => cs = SC c b nilS nilS 0 0 nilS nilS 0 0 0 0 0
  | .quants l => ∃ A cp, cs = SC 219 ⟨#[]⟩ (.slice A l.length cp) nilS 0 0 nilS nilS 0 0 0 0 0 ∧ RdC Qt.cells 66 w A l
  | .huffs l => ∃ A cp, cs = SC 196 ⟨#[]⟩ nilS (.slice A l.length cp) 0 0 nilS nilS 0 0 0 0 0 ∧ RdC Hf.cells 19 w A l
  | .frame c h ww l => ∃ A cp, cs = SC c ⟨#[]⟩ nilS nilS h ww (.slice A l.length cp) nilS 0 0 0 0 0 ∧ RdC Pt.cells 4 w A l
  | .scan l a b hi lo => ∃ A cp, cs = SC 218 ⟨#[]⟩ nilS nilS 0 0 nilS (.slice A l.length cp) a b hi lo 0 ∧ RdC Pk.cells 3 w A l
  | .rst n => cs = SC 221 ⟨#[]⟩ nilS nilS 0 0 nilS nilS 0 0 0 0 n
theorem SgR.bel {w w' : World} {v : Value} {x : Sg} (h : SgR w v x) (hb : Below w.heap.size w w') : SgR w' v x := by
  cases x with
  | plain c b => exact h
  | quants l => obtain ⟨A, cp, h1, h2⟩ := h; exact ⟨A, cp, h1, h2.bel hb⟩
  | huffs l => obtain ⟨A, cp, h1, h2⟩ := h; exact ⟨A, cp, h1, h2.bel hb⟩
  | frame c hh ww l => obtain ⟨A, cp, h1, h2⟩ := h; exact ⟨A, cp, h1, h2.bel hb⟩
  | scan l a b hi lo => obtain ⟨A, cp, h1, h2⟩ := h; exact ⟨A, cp, h1, h2.bel hb⟩
  | rst n => exact h
theorem RgR.bel {w w' : World} {cs : Array Value} {x : Sg} (h : RgR w cs x) (hb : Below w.heap.size w w') : RgR w' cs x := by
  cases x with
  | plain c b => exact h
  | quants l => obtain ⟨A, cp, h1, h2⟩ := h; exact ⟨A, cp, h1, h2.bel hb⟩
  | huffs l => obtain ⟨A, cp, h1, h2⟩ := h; exact ⟨A, cp, h1, h2.bel hb⟩
  | frame c hh ww l => obtain ⟨A, cp, h1, h2⟩ := h; exact ⟨A, cp, h1, h2.bel hb⟩
  | scan l a b hi lo => obtain ⟨A, cp, h1, h2⟩ := h; exact ⟨A, cp, h1, h2.bel hb⟩
  | rst n => exact h
theorem SgV.r {w : World} {base : Nat} {v : Value} {x : Sg} (h : SgV w base v x) : SgR w v x := by
  cases x with
  | plain c b => exact h
  | quants l => obtain ⟨u, rfl, h2⟩ := h; obtain ⟨A, cp, rfl, _⟩ := h2.form; exact ⟨A, cp, rfl, h2.rd Qt.is⟩
  | huffs l => obtain ⟨u, rfl, h2⟩ := h; obtain ⟨A, cp, rfl, _⟩ := h2.form; exact ⟨A, cp, rfl, h2.rd Hf.is⟩
  | frame c hh ww l => obtain ⟨u, rfl, h2⟩ := h; obtain ⟨A, cp, rfl, _⟩ := h2.form; exact ⟨A, cp, rfl, h2.rd Pt.is⟩
  | scan l a b hi lo => obtain ⟨u, rfl, h2⟩ := h; obtain ⟨A, cp, rfl, _⟩ := h2.form; exact ⟨A, cp, rfl, h2.rd Pk.is⟩
  | rst n => exact h
/-- What stands behind same's beginning: its own copies of both. -/
structure SmI (w : World) (t : TypeId) (cs ys : Array Value) (wr : World) : Prop where
  x : Blk wr w.heap.size 38 cs
  y : Blk wr (w.heap.size + 1) t ys
  be : Below w.heap.size w wr
theorem SmI.bel {w wr w' : World} {t : TypeId} {cs ys : Array Value} (h : SmI w t cs ys wr) (hb : Below wr.heap.size wr w') : SmI w t cs ys w' := ⟨h.x.bel hb, h.y.bel hb, h.be.trans (hb.mono h.be.size)⟩
theorem SmI.mk0 (w : World) (t : TypeId) (cs ys : Array Value) : SmI w t cs ys ((w.alloc (.cells cs 38)).alloc (.cells ys t)) :=
  ⟨(Blk.new w _ _).alloc _, Blk.nw (by rw [World.size_alloc]), ((Below.refl _ _).alloc (Nat.le_refl _) _).alloc ((Below.refl w.heap.size w).alloc (Nat.le_refl _) _).size _⟩
theorem run_equalIn_arr {P : Program} (w : World) {t e : TypeId} {K : IntKind} {n : Nat} {i : TypeInfo} (ht : P.underlying t = some (.array n e)) (he : P.underlying e = some (.int K)) (hce : P.plainKey e = true) (hi : P.info? e = some i) (h1 : P.cellsOf e = 1) (u : Nat → Int) :
    (Op.equalIn 10000 t (.agg (arrN K n u)) (.agg (arrN K n u))).run P w = .ok true w := by
  rw [run_equalIn_array w 9999 _ _ ht hi, h1, eqItems_arr w 9998 he hce u u _ (fun i hi => List.mem_range.1 hi)]
  simp
theorem run_neq_arr {P : Program} (w : World) {t e : TypeId} {K : IntKind} {n : Nat} {i : TypeInfo} (ht : P.underlying t = some (.array n e)) (he : P.underlying e = some (.int K)) (hce : P.plainKey e = true) (hi : P.info? e = some i) (h1 : P.cellsOf e = 1) (u : Nat → Int) :
    (binOp .neq t (.agg (arrN K n u)) (.agg (arrN K n u))).run P w = .ok (.bool false) w := by
  have h := run_eql_arr w ht he hce hi h1 u u
  have e1 : (binOp .neq t (.agg (arrN K n u)) (.agg (arrN K n u))) = (do let x ← Op.equal t (.agg (arrN K n u)) (.agg (arrN K n u)); pure (Value.bool (!x))) := rfl
  have e2 : (binOp .eql t (.agg (arrN K n u)) (.agg (arrN K n u))) = (do let x ← Op.equal t (.agg (arrN K n u)) (.agg (arrN K n u)); pure (Value.bool x)) := rfl
  rw [e1]
  rw [e2] at h
  obtain ⟨b, w1, h2, h3⟩ := run_bind_ok h
  rw [run_bind_mk h2]
  have e3 : (pure (Value.bool b) : Sem Value).run P w1 = .ok (.bool b) w1 := rfl
  rw [e3] at h3
  injection h3 with h4 h5
  subst h5
  injection h4 with h4
  rw [h4]
  show Result.ok (Value.bool (!decide (∀ j, j < n → u j = u j))) w1 = _
  rw [decide_eq_true (fun j _ => rfl)]
  rfl

theorem exec_neq {P : Program} {ρ : Operand → Value} {o : Oper} {w : World} {t u : TypeId} {x y : Operand} {X Y : Array Value} {v : Value} (ho : o.op = .binOp .neq t x y u) (hx : ρ x = .agg X) (hy : ρ y = .agg Y) (hg : P.eqGuardType P.depth t = false)
    (h : (binOp .neq t (.agg X) (.agg Y)).run P w = .ok v w) : (execOp ρ o).run P w = .ok (.value v) w := by
  unfold execOp
  simp only [ho, hx, hy]
  have e : (Go.eqGuard .neq t x y (.agg X) (.agg Y)).run P w = .ok () w := by
    unfold Go.eqGuard
    simp [Sem.run_bind, hg, go_sem]
  rw [Sem.run_bind, Sem.run_bind, e]
  simp only [Result.andThen_ok, h]
  rfl
theorem wpList_load_midG {P : Program} {ops : Array Oper} {rest : List Oper} {op : Oper} {a : Act} {w : World} {Q : Exit → Act → World → Prop} (hw : Region.wanted op (yielded ops a.tmps) = true) (ty : TypeId) (x : Operand) (ho : op.op = .load ty x)
    (b o : Nat) (hx : a.eval x = .pointer (some ⟨b, o, none⟩)) (cs : List Value) (d : TypeDesc) (hc : w.rangeAt b o cs) (hu : P.underlying ty = some d) (hd : d.isRow = true) (hi : (P.info? ty).map (·.size) = some cs.length)
    (h : wpList P ops Q rest (a.put op.dst (.agg cs.toArray)) w) : wpList P ops Q (op :: rest) a w :=
  wpList_step fun K hK => by
    simp only [hw, if_true]
    exact wp_load_mid ty x ho b o hx cs d hc hu hd hi (hK _ _ h)
set_option maxHeartbeats 2000000 in
theorem same_plain (c : Int) (s : ByteArray) (w : World) (hc : 224 ≤ c) :
    Calls Tryd.prog 13 #[.iface 93 (.agg #[.int .i64 c, .string s]), .agg (SC c s nilS nilS 0 0 nilS nilS 0 0 0 0 0)] w fun e w' => e = .returned (.bool true) ∧ Below w.heap.size w w' := by
  have HI := Lib.hid (SmI.mk0 w 93 (SC c s nilS nilS 0 0 nilS nilS 0 0 0 0 0) #[.int .i64 c, .string s])
  unfold SC
  go_enter Tryd.func13, Tryd.ntmps13
  go_wp2_with fail
  go_ret
  exact ⟨rfl, HI.out.be⟩
set_option maxHeartbeats 2000000 in
theorem same_restart (n : Int) (w : World) :
    Calls Tryd.prog 13 #[.iface 61 (.agg #[.int .i64 n]), .agg (SC 221 ⟨#[]⟩ nilS nilS 0 0 nilS nilS 0 0 0 0 n)] w fun e w' => e = .returned (.bool true) ∧ Below w.heap.size w w' := by
  have HI := Lib.hid (SmI.mk0 w 61 (SC 221 ⟨#[]⟩ nilS nilS 0 0 nilS nilS 0 0 0 0 n) #[.int .i64 n])
  unfold SC
  go_enter Tryd.func13, Tryd.ntmps13
  go_wp2_with fail
  go_ret
  exact ⟨rfl, HI.out.be⟩
set_option maxHeartbeats 2000000 in
theorem same_quants (l : List Qt) (A : Option Addr) (cp : Nat) (B : Option Addr) (cp2 : Nat) (w : World) (hA : RdC Qt.cells 66 w A l) (hB : RdC Qt.cells 66 w B l) (hl : l.length ≤ 1000000) :
    Calls Tryd.prog 13 #[.iface 47 (.agg #[.slice A l.length cp]), .agg (SC 219 ⟨#[]⟩ (.slice B l.length cp2) nilS 0 0 nilS nilS 0 0 0 0 0)] w fun e w' => e = .returned (.bool true) ∧ Below w.heap.size w w' := by
  have HI := Lib.hid (SmI.mk0 w 47 (SC 219 ⟨#[]⟩ (.slice B l.length cp2) nilS 0 0 nilS nilS 0 0 0 0 0) #[.slice A l.length cp])
  unfold SC
  go_enter Tryd.func13, Tryd.ntmps13
  have HA := Lib.hid hA; have HB := Lib.hid hB; clear hA hB
  go_wp2_with fail
  go_loopw [7] (fun i wr => ∃ k : Nat, k ≤ l.length ∧ i = .int .i64 k ∧ Hid (SmI w 47 (SC 219 ⟨#[]⟩ (.slice B l.length cp2) nilS 0 0 nilS nilS 0 0 0 0 0) #[.slice A l.length cp] wr)) (fun i _ => l.length - (intOf i).toNat)
  case atStart => exact ⟨0, by omega, rfl, HI⟩
  case round =>
    obtain ⟨k, hk, rfl, HIk⟩ := hrel
    clear HI
    have e1 : wr.cell? ⟨w.heap.size, 2, none⟩ = some (.slice B l.length cp2) := HIk.out.x.cell 2
    have e2 : wr.cell? ⟨w.heap.size + 1, 0, none⟩ = some (.slice A l.length cp) := HIk.out.y.cell 0
    by_cases hkl : k < l.length
    case neg =>
      obtain rfl : k = l.length := by omega
      go_wp2_with fail
      go_ret
      exact ⟨rfl, HIk.out.be⟩
    case pos =>
    obtain ⟨ga, oa, rfl, hga, hca⟩ := (HA.out.bel HIk.out.be).at1 hkl
    obtain ⟨gb, ob, rfl, hgb, hcb⟩ := (HB.out.bel HIk.out.be).at1 hkl
    obtain ⟨p, hp⟩ : ∃ p, p = l[k] := ⟨_, rfl⟩
    rw [← hp] at hca hcb
    clear hp
    have HRA := Lib.hid (rdc_range Qt.is hca); have HRB := Lib.hid (rdc_range Qt.is hcb)
    have a0 : wr.cell? ⟨ga, oa + k * 66, none⟩ = some (.int .i64 p.at_) := hca 0 (by decide)
    have a1 : wr.cell? ⟨ga, oa + k * 66 + 1, none⟩ = some (.bool p.wide) := hca 1 (by decide)
    have b0 : wr.cell? ⟨gb, ob + k * 66, none⟩ = some (.int .i64 p.at_) := hcb 0 (by decide)
    have b1 : wr.cell? ⟨gb, ob + k * 66 + 1, none⟩ = some (.bool p.wide) := hcb 1 (by decide)
    have ra : wr.rangeAt ga (oa + k * 66 + 2) (arrN .u16 64 p.q).toList := fun j v hv => by
      have := HRA.out (2 + j) v (by show ([Value.int .i64 p.at_, Value.bool p.wide] ++ (arrN .u16 64 p.q).toList)[2 + j]? = _; rw [List.getElem?_append_right (by simp)]; simpa using hv)
      rwa [← Nat.add_assoc] at this
    have rb : wr.rangeAt gb (ob + k * 66 + 2) (arrN .u16 64 p.q).toList := fun j v hv => by
      have := HRB.out (2 + j) v (by show ([Value.int .i64 p.at_, Value.bool p.wide] ++ (arrN .u16 64 p.q).toList)[2 + j]? = _; rw [List.getElem?_append_right (by simp)]; simpa using hv)
      rwa [← Nat.add_assoc] at this
    obtain ⟨inf, hinf⟩ := Option.isSome_iff_exists.1 (show (Tryd.prog.info? 48).isSome = true by kernel_rfl)
    have hne := fun w' : World => run_neq_arr (P := Tryd.prog) w' Tryd.underlying49 Tryd.underlying48 (by kernel_rfl) hinf (by kernel_rfl) p.q
    obtain ⟨at_, hat⟩ : ∃ x, x = p.at_ := ⟨_, rfl⟩
    obtain ⟨wd_, hwd_⟩ : ∃ x, x = p.wide := ⟨_, rfl⟩
    obtain ⟨zz, hzz⟩ : ∃ zz, zz = (arrN .u16 64 p.q).toList := ⟨_, rfl⟩
    have hz2 : arrN .u16 64 p.q = zz.toArray := by rw [hzz, Array.toArray_toList]
    have hzl : zz.length = 64 := by rw [hzz, Array.length_toList, arrN_size]
    rw [← hat] at a0 b0; rw [← hwd_] at a1 b1; rw [← hzz] at ra rb; rw [hz2] at hne
    have HNE := Lib.hid hne; have HZL := Lib.hid hzl; have HXA := Lib.hid ra; have HXB := Lib.hid rb
    clear hinf hne hzl hz2 hzz hat hwd_ hca hcb ra rb HRA HRB
    go_upto_region 12 with fail
    have He1 := Lib.hid e1; have He2 := Lib.hid e2; have Ha0 := Lib.hid a0; have Ha1 := Lib.hid a1; have Hb0 := Lib.hid b0; have Hb1 := Lib.hid b1
    clear e1 e2 a0 a1 b0 b1
    refine region_plan (.run [0, 1, 2, 3, 4, 5, 6, 7, 8, 9, 10, 11, 12, 13, 14, 15, 16, 17, 18, 19, 20, 21, 22, 23, 24, 25, 26, 27, 28, 29, 30, 31, 32, 33] (.held 34 (.run [35, 36, 37, 38, 39] (.held 40 (.held 41 (.run [42] .fin)))))) (fun w' => w' = wr.drew) (by kernel_rfl) rfl ?_
    intro wd hwd
    have hbd : Below wr.heap.size wr wd := hwd ▸ (Below.refl _ wr).drew
    have HId := Lib.hid (HIk.out.bel hbd)
    have HYA := Lib.hid (range_bel HXA.out hbd hga)
    have HYB := Lib.hid (range_bel HXB.out hbd hgb)
    have e1 : wd.cell? ⟨w.heap.size, 2, none⟩ = some (.slice (some ⟨gb, ob, none⟩) l.length cp2) := (hbd.cell (p := ⟨w.heap.size, 2, none⟩) HIk.out.x.lt).trans He1.out
    have e2 : wd.cell? ⟨w.heap.size + 1, 0, none⟩ = some (.slice (some ⟨ga, oa, none⟩) l.length cp) := (hbd.cell (p := ⟨w.heap.size + 1, 0, none⟩) HIk.out.y.lt).trans He2.out
    have a0 : wd.cell? ⟨ga, oa + k * 66, none⟩ = some (.int .i64 at_) := (hbd.cell (p := ⟨ga, oa + k * 66, none⟩) hga).trans Ha0.out
    have a1 : wd.cell? ⟨ga, oa + k * 66 + 1, none⟩ = some (.bool wd_) := (hbd.cell (p := ⟨ga, oa + k * 66 + 1, none⟩) hga).trans Ha1.out
    have b0 : wd.cell? ⟨gb, ob + k * 66, none⟩ = some (.int .i64 at_) := (hbd.cell (p := ⟨gb, ob + k * 66, none⟩) hgb).trans Hb0.out
    have b1 : wd.cell? ⟨gb, ob + k * 66 + 1, none⟩ = some (.bool wd_) := (hbd.cell (p := ⟨gb, ob + k * 66 + 1, none⟩) hgb).trans Hb1.out
    have HBD := Lib.hid hbd
    clear hbd
    have HWD := Lib.hid hwd; clear hwd
    refine plan_run fun m hm => ?_
    simp only [pickO, List.filterMap_cons, List.filterMap_nil, List.getElem?_toArray, List.getElem?_cons_zero, List.getElem?_cons_succ] at hm
    subst hm
    go_wp2_with fail
    refine ⟨rfl, by rfl, ?_⟩
    refine plan_held (o := ⟨some 98, _, _, _, _, _⟩) (v := .agg zz.toArray) rfl (by rfl) (fun w' hS => ?_) ?_
    · rw [hS, ← HWD.out]; exact exec_load_mid 49 (.tmp 97) rfl ga (oa + k * 66 + 2) rfl zz _ HYA.out Tryd.underlying49 rfl (by rw [HZL.out]; kernel_rfl)
    try simp only [Act.put, List.setIfInBounds_toArray, List.set_cons_zero, List.set_cons_succ]
    refine plan_run fun m hm => ?_
    simp only [pickO, List.filterMap_cons, List.filterMap_nil, List.getElem?_toArray, List.getElem?_cons_zero, List.getElem?_cons_succ] at hm
    subst hm
    go_wp2_with fail
    refine ⟨rfl, by rfl, ?_⟩
    refine plan_held (o := ⟨some 104, _, _, _, _, _⟩) (v := .agg zz.toArray) rfl (by rfl) (fun w' hS => ?_) ?_
    · rw [hS, ← HWD.out]; exact exec_load_mid 49 (.tmp 103) rfl gb (ob + k * 66 + 2) rfl zz _ HYB.out Tryd.underlying49 rfl (by rw [HZL.out]; kernel_rfl)
    try simp only [Act.put, List.setIfInBounds_toArray, List.set_cons_zero, List.set_cons_succ]
    refine plan_held (o := ⟨some 105, _, _, _, _, _⟩) (v := .bool false) rfl (by rfl) (fun w' hS => ?_) ?_
    · exact exec_neq rfl rfl rfl (by kernel_rfl) (HNE.out w')
    try simp only [Act.put, List.setIfInBounds_toArray, List.set_cons_zero, List.set_cons_succ]
    refine plan_run fun m hm => ?_
    simp only [pickO, List.filterMap_cons, List.filterMap_nil, List.getElem?_toArray, List.getElem?_cons_zero, List.getElem?_cons_succ] at hm
    subst hm
    go_wp2_with fail
    refine ⟨rfl, by rfl, ?_⟩
    refine plan_fin ?_
    go_wp2_with fail
    go_roundw
    case rel => exact ⟨k + 1, by omega, by go_num, HId⟩
    case measure => simp [intOf]; omega

set_option maxHeartbeats 2000000 in
theorem same_huffs (l : List Hf) (A : Option Addr) (cp : Nat) (B : Option Addr) (cp2 : Nat) (w : World) (hA : RdC Hf.cells 19 w A l) (hB : RdC Hf.cells 19 w B l) (hl : l.length ≤ 1000000) :
    Calls Tryd.prog 13 #[.iface 55 (.agg #[.slice A l.length cp]), .agg (SC 196 ⟨#[]⟩ nilS (.slice B l.length cp2) 0 0 nilS nilS 0 0 0 0 0)] w fun e w' => e = .returned (.bool true) ∧ Below w.heap.size w w' := by
  have HI := Lib.hid (SmI.mk0 w 55 (SC 196 ⟨#[]⟩ nilS (.slice B l.length cp2) 0 0 nilS nilS 0 0 0 0 0) #[.slice A l.length cp])
  unfold SC
  go_enter Tryd.func13, Tryd.ntmps13
  have HA := Lib.hid hA; have HB := Lib.hid hB; clear hA hB
  go_wp2_with fail
  go_loopw [9] (fun i wr => ∃ k : Nat, k ≤ l.length ∧ i = .int .i64 k ∧ Hid (SmI w 55 (SC 196 ⟨#[]⟩ nilS (.slice B l.length cp2) 0 0 nilS nilS 0 0 0 0 0) #[.slice A l.length cp] wr)) (fun i _ => l.length - (intOf i).toNat)
  case atStart => exact ⟨0, by omega, rfl, HI⟩
  case round =>
    obtain ⟨k, hk, rfl, HIk⟩ := hrel
    clear HI
    have e1 : wr.cell? ⟨w.heap.size, 3, none⟩ = some (.slice B l.length cp2) := HIk.out.x.cell 3
    have e2 : wr.cell? ⟨w.heap.size + 1, 0, none⟩ = some (.slice A l.length cp) := HIk.out.y.cell 0
    by_cases hkl : k < l.length
    case neg =>
      obtain rfl : k = l.length := by omega
      go_wp2_with fail
      go_ret
      exact ⟨rfl, HIk.out.be⟩
    case pos =>
    obtain ⟨ga, oa, rfl, hga, hca⟩ := (HA.out.bel HIk.out.be).at1 hkl
    obtain ⟨gb, ob, rfl, hgb, hcb⟩ := (HB.out.bel HIk.out.be).at1 hkl
    obtain ⟨p, hp⟩ : ∃ p, p = l[k] := ⟨_, rfl⟩
    rw [← hp] at hca hcb
    clear hp
    have HRA := Lib.hid (rdc_range Hf.is hca); have HRB := Lib.hid (rdc_range Hf.is hcb)
    obtain ⟨pc, hpc⟩ : ∃ pc, pc = p.cells := ⟨_, rfl⟩
    have hpl : pc.length = 19 := by rw [hpc]; exact Hf.is.len p
    have hp1 : pc.toArray.all (·.oneCell') = true := by rw [hpc]; exact all_oneCell_toArray (Hf.is.one p)
    rw [← hpc] at HRA HRB
    have HPL := Lib.hid hpl; have HP1 := Lib.hid hp1; have HPC := Lib.hid hpc; have E1 := Lib.hid e1; have E2 := Lib.hid e2
    clear hpl hp1 hpc hca hcb
    go_upto_region 22 with fail
    clear e1 e2
    go_cut [10, 11] (fun a b wx => ∃ g1 g2 : Nat, a = .pointer (some ⟨g1, 0, none⟩) ∧ b = .pointer (some ⟨g2, 0, none⟩) ∧ Hid (Blk wx g1 59 pc.toArray ∧ Blk wx g2 58 pc.toArray ∧ Below wr.heap.size wr wx))
    case first =>
      refine region_plan (.run [0] (.held 1 (.run [2, 3] (.held 4 (.run [5] (.held 6 (.run [7, 8] (.held 9 (.two 10 11 (.ev 11 (.ev 12 (.ev 13 .fin))) (.ev 10 (.ev 12 (.ev 13 .fin)))))))))))) (fun w' => Hid (Below wr.heap.size wr w')) (by kernel_rfl) (Lib.hid (Below.refl _ wr).drew) ?_
      intro wd hwd
      have HBD : Hid (Below wr.heap.size wr wd) := Lib.hid (hwd ▸ (Below.refl _ wr).drew)
      clear hwd
      refine plan_run fun m hm => ?_
      simp only [pickO, List.filterMap_cons, List.filterMap_nil, List.getElem?_toArray, List.getElem?_cons_zero, List.getElem?_cons_succ] at hm
      subst hm
      go_wp2_with fail
      refine ⟨rfl, by rfl, ?_⟩
      refine plan_held (o := ⟨some 130, _, _, _, _, _⟩) (v := .slice (some ⟨ga, oa, none⟩) l.length cp) rfl (by rfl) (fun w' hS => ?_) ?_
      · have hS' := hS.out; have u1 := (hS'.cell (p := ⟨w.heap.size, 3, none⟩) HIk.out.x.lt).trans E1.out; have u2 := (hS'.cell (p := ⟨w.heap.size + 1, 0, none⟩) HIk.out.y.lt).trans E2.out; go_simp
      try simp only [Act.put, List.setIfInBounds_toArray, List.set_cons_zero, List.set_cons_succ]
      refine plan_run fun m hm => ?_
      simp only [pickO, List.filterMap_cons, List.filterMap_nil, List.getElem?_toArray, List.getElem?_cons_zero, List.getElem?_cons_succ] at hm
      subst hm
      go_wp2_with fail
      refine ⟨rfl, by rfl, ?_⟩
      refine plan_held (o := ⟨some 133, _, _, _, _, _⟩) (v := .agg pc.toArray) rfl (by rfl) (fun w' hS => ?_) ?_
      · have hS' := hS.out; have u1 := (hS'.cell (p := ⟨w.heap.size, 3, none⟩) HIk.out.x.lt).trans E1.out; have u2 := (hS'.cell (p := ⟨w.heap.size + 1, 0, none⟩) HIk.out.y.lt).trans E2.out; exact exec_load_mid 59 (.tmp 132) rfl ga (oa + k * 19) rfl pc _ (range_bel HRA.out hS' hga) Tryd.underlying59 rfl (by rw [HPL.out]; kernel_rfl)
      try simp only [Act.put, List.setIfInBounds_toArray, List.set_cons_zero, List.set_cons_succ]
      refine plan_run fun m hm => ?_
      simp only [pickO, List.filterMap_cons, List.filterMap_nil, List.getElem?_toArray, List.getElem?_cons_zero, List.getElem?_cons_succ] at hm
      subst hm
      go_wp2_with fail
      refine ⟨rfl, by rfl, ?_⟩
      refine plan_held (o := ⟨some 135, _, _, _, _, _⟩) (v := .slice (some ⟨gb, ob, none⟩) l.length cp2) rfl (by rfl) (fun w' hS => ?_) ?_
      · have hS' := hS.out; have u1 := (hS'.cell (p := ⟨w.heap.size, 3, none⟩) HIk.out.x.lt).trans E1.out; have u2 := (hS'.cell (p := ⟨w.heap.size + 1, 0, none⟩) HIk.out.y.lt).trans E2.out; go_simp
      try simp only [Act.put, List.setIfInBounds_toArray, List.set_cons_zero, List.set_cons_succ]
      refine plan_run fun m hm => ?_
      simp only [pickO, List.filterMap_cons, List.filterMap_nil, List.getElem?_toArray, List.getElem?_cons_zero, List.getElem?_cons_succ] at hm
      subst hm
      go_wp2_with fail
      refine ⟨rfl, by rfl, ?_⟩
      refine plan_held (o := ⟨some 138, _, _, _, _, _⟩) (v := .agg pc.toArray) rfl (by rfl) (fun w' hS => ?_) ?_
      · have hS' := hS.out; have u1 := (hS'.cell (p := ⟨w.heap.size, 3, none⟩) HIk.out.x.lt).trans E1.out; have u2 := (hS'.cell (p := ⟨w.heap.size + 1, 0, none⟩) HIk.out.y.lt).trans E2.out; exact exec_load_mid 58 (.tmp 137) rfl gb (ob + k * 19) rfl pc _ (range_bel HRB.out hS' hgb) Tryd.underlying58 rfl (by rw [HPL.out]; kernel_rfl)
      try simp only [Act.put, List.setIfInBounds_toArray, List.set_cons_zero, List.set_cons_succ]
      refine plan_two (fun m hm => ?_) (fun m hm => ?_)
      · simp only [pickO, List.filterMap_cons, List.filterMap_nil, List.getElem?_toArray, List.getElem?_cons_zero, List.getElem?_cons_succ] at hm
        subst hm
        go_wp2_with fail
        refine ⟨rfl, Lib.hid (HBD.out.alloc HBD.out.size _), ?_⟩
        try simp only [Act.put, List.setIfInBounds_toArray, List.set_cons_zero, List.set_cons_succ]
        refine plan_ev fun m hm => ?_
        simp only [pickO, List.filterMap_cons, List.filterMap_nil, List.getElem?_toArray, List.getElem?_cons_zero, List.getElem?_cons_succ] at hm
        subst hm
        go_wp2_with fail
        refine ⟨rfl, Lib.hid ((HBD.out.alloc HBD.out.size _).alloc (Nat.le_trans HBD.out.size (by rw [World.size_alloc]; omega)) _), ?_⟩
        try simp only [Act.put, List.setIfInBounds_toArray, List.set_cons_zero, List.set_cons_succ]
        refine plan_ev fun m hm => ?_
        simp only [pickO, List.filterMap_cons, List.filterMap_nil, List.getElem?_toArray, List.getElem?_cons_zero, List.getElem?_cons_succ] at hm
        subst hm
        refine wpList_store_far rfl 59 (.tmp 10) _ rfl wd.heap.size _ #[.int .i64 0, .int .i64 0, .int .u8 0, .int .u8 0, .int .u8 0, .int .u8 0, .int .u8 0, .int .u8 0, .int .u8 0, .int .u8 0, .int .u8 0, .int .u8 0, .int .u8 0, .int .u8 0, .int .u8 0, .int .u8 0, .int .u8 0, .int .u8 0, .string ByteArray.empty] 59 rfl rfl ((Blk.new wd 59 #[.int .i64 0, .int .i64 0, .int .u8 0, .int .u8 0, .int .u8 0, .int .u8 0, .int .u8 0, .int .u8 0, .int .u8 0, .int .u8 0, .int .u8 0, .int .u8 0, .int .u8 0, .int .u8 0, .int .u8 0, .int .u8 0, .int .u8 0, .int .u8 0, .string ByteArray.empty]).alloc _) (by show _ = some pc.length; rw [HPL.out]; kernel_rfl) (by show _ = pc.length; rw [HPL.out]; rfl) HP1.out ?_; intro wz12 hz1 hz2 hz3 hz4 hz5; have HZ12 := Lib.hid hz1; have HY12 := Lib.hid hz2; have HX12 := Lib.hid hz3; clear hz1 hz2 hz3 hz4 hz5
        refine ⟨rfl, Lib.hid (HX12.out _ _ (by have := HBD.out.size; omega) ((HBD.out.alloc HBD.out.size _).alloc (Nat.le_trans HBD.out.size (by rw [World.size_alloc]; omega)) _)), ?_⟩
        try simp only [Act.put, List.setIfInBounds_toArray, List.set_cons_zero, List.set_cons_succ]
        refine plan_ev fun m hm => ?_
        simp only [pickO, List.filterMap_cons, List.filterMap_nil, List.getElem?_toArray, List.getElem?_cons_zero, List.getElem?_cons_succ] at hm
        subst hm
        refine wpList_store_far rfl 58 (.tmp 11) _ rfl (wd.heap.size + 1) _ #[.int .i64 0, .int .i64 0, .int .u8 0, .int .u8 0, .int .u8 0, .int .u8 0, .int .u8 0, .int .u8 0, .int .u8 0, .int .u8 0, .int .u8 0, .int .u8 0, .int .u8 0, .int .u8 0, .int .u8 0, .int .u8 0, .int .u8 0, .int .u8 0, .string ByteArray.empty] 58 rfl rfl (HY12.out _ _ _ (by omega) (Blk.nw (by rw [World.size_alloc]))) (by show _ = some pc.length; rw [HPL.out]; kernel_rfl) (by show _ = pc.length; rw [HPL.out]; rfl) HP1.out ?_; intro wz13 hz1 hz2 hz3 hz4 hz5; have HZ13 := Lib.hid hz1; have HY13 := Lib.hid hz2; have HX13 := Lib.hid hz3; clear hz1 hz2 hz3 hz4 hz5
        refine ⟨rfl, Lib.hid (HX13.out _ _ (by have := HBD.out.size; omega) (HX12.out _ _ (by have := HBD.out.size; omega) ((HBD.out.alloc HBD.out.size _).alloc (Nat.le_trans HBD.out.size (by rw [World.size_alloc]; omega)) _))), ?_⟩
        try simp only [Act.put, List.setIfInBounds_toArray, List.set_cons_zero, List.set_cons_succ]
        refine plan_fin ?_
        go_wp2_with fail
        go_meet
        case rel => exact ⟨wd.heap.size, wd.heap.size + 1, rfl, rfl, Lib.hid ⟨HY13.out _ _ _ (by omega) HZ12.out, HZ13.out, HX13.out _ _ (by have := HBD.out.size; omega) (HX12.out _ _ (by have := HBD.out.size; omega) ((HBD.out.alloc HBD.out.size _).alloc (Nat.le_trans HBD.out.size (by rw [World.size_alloc]; omega)) _))⟩⟩
      · simp only [pickO, List.filterMap_cons, List.filterMap_nil, List.getElem?_toArray, List.getElem?_cons_zero, List.getElem?_cons_succ] at hm
        subst hm
        go_wp2_with fail
        refine ⟨rfl, Lib.hid (HBD.out.alloc HBD.out.size _), ?_⟩
        try simp only [Act.put, List.setIfInBounds_toArray, List.set_cons_zero, List.set_cons_succ]
        refine plan_ev fun m hm => ?_
        simp only [pickO, List.filterMap_cons, List.filterMap_nil, List.getElem?_toArray, List.getElem?_cons_zero, List.getElem?_cons_succ] at hm
        subst hm
        go_wp2_with fail
        refine ⟨rfl, Lib.hid ((HBD.out.alloc HBD.out.size _).alloc (Nat.le_trans HBD.out.size (by rw [World.size_alloc]; omega)) _), ?_⟩
        try simp only [Act.put, List.setIfInBounds_toArray, List.set_cons_zero, List.set_cons_succ]
        refine plan_ev fun m hm => ?_
        simp only [pickO, List.filterMap_cons, List.filterMap_nil, List.getElem?_toArray, List.getElem?_cons_zero, List.getElem?_cons_succ] at hm
        subst hm
        refine wpList_store_far rfl 59 (.tmp 10) _ rfl (wd.heap.size + 1) _ #[.int .i64 0, .int .i64 0, .int .u8 0, .int .u8 0, .int .u8 0, .int .u8 0, .int .u8 0, .int .u8 0, .int .u8 0, .int .u8 0, .int .u8 0, .int .u8 0, .int .u8 0, .int .u8 0, .int .u8 0, .int .u8 0, .int .u8 0, .int .u8 0, .string ByteArray.empty] 59 rfl rfl (Blk.nw (by rw [World.size_alloc])) (by show _ = some pc.length; rw [HPL.out]; kernel_rfl) (by show _ = pc.length; rw [HPL.out]; rfl) HP1.out ?_; intro wz12 hz1 hz2 hz3 hz4 hz5; have HZ12 := Lib.hid hz1; have HY12 := Lib.hid hz2; have HX12 := Lib.hid hz3; clear hz1 hz2 hz3 hz4 hz5
        refine ⟨rfl, Lib.hid (HX12.out _ _ (by have := HBD.out.size; omega) ((HBD.out.alloc HBD.out.size _).alloc (Nat.le_trans HBD.out.size (by rw [World.size_alloc]; omega)) _)), ?_⟩
        try simp only [Act.put, List.setIfInBounds_toArray, List.set_cons_zero, List.set_cons_succ]
        refine plan_ev fun m hm => ?_
        simp only [pickO, List.filterMap_cons, List.filterMap_nil, List.getElem?_toArray, List.getElem?_cons_zero, List.getElem?_cons_succ] at hm
        subst hm
        refine wpList_store_far rfl 58 (.tmp 11) _ rfl wd.heap.size _ #[.int .i64 0, .int .i64 0, .int .u8 0, .int .u8 0, .int .u8 0, .int .u8 0, .int .u8 0, .int .u8 0, .int .u8 0, .int .u8 0, .int .u8 0, .int .u8 0, .int .u8 0, .int .u8 0, .int .u8 0, .int .u8 0, .int .u8 0, .int .u8 0, .string ByteArray.empty] 58 rfl rfl (HY12.out _ _ _ (by omega) ((Blk.new wd 58 #[.int .i64 0, .int .i64 0, .int .u8 0, .int .u8 0, .int .u8 0, .int .u8 0, .int .u8 0, .int .u8 0, .int .u8 0, .int .u8 0, .int .u8 0, .int .u8 0, .int .u8 0, .int .u8 0, .int .u8 0, .int .u8 0, .int .u8 0, .int .u8 0, .string ByteArray.empty]).alloc _)) (by show _ = some pc.length; rw [HPL.out]; kernel_rfl) (by show _ = pc.length; rw [HPL.out]; rfl) HP1.out ?_; intro wz13 hz1 hz2 hz3 hz4 hz5; have HZ13 := Lib.hid hz1; have HY13 := Lib.hid hz2; have HX13 := Lib.hid hz3; clear hz1 hz2 hz3 hz4 hz5
        refine ⟨rfl, Lib.hid (HX13.out _ _ (by have := HBD.out.size; omega) (HX12.out _ _ (by have := HBD.out.size; omega) ((HBD.out.alloc HBD.out.size _).alloc (Nat.le_trans HBD.out.size (by rw [World.size_alloc]; omega)) _))), ?_⟩
        try simp only [Act.put, List.setIfInBounds_toArray, List.set_cons_zero, List.set_cons_succ]
        refine plan_fin ?_
        go_wp2_with fail
        go_meet
        case rel => exact ⟨wd.heap.size + 1, wd.heap.size, rfl, rfl, Lib.hid ⟨HY13.out _ _ _ (by omega) HZ12.out, HZ13.out, HX13.out _ _ (by have := HBD.out.size; omega) (HX12.out _ _ (by have := HBD.out.size; omega) ((HBD.out.alloc HBD.out.size _).alloc (Nat.le_trans HBD.out.size (by rw [World.size_alloc]; omega)) _))⟩⟩
    case rest =>
    obtain ⟨g1, g2, rfl, rfl, HM⟩ := hcut
    obtain ⟨w5, rfl⟩ : ∃ w5, w5 = wc := ⟨_, rfl⟩
    have HM1 := HM.out.1; have HM2 := HM.out.2.1
    rw [HPC.out] at HM1 HM2
    have HI5 := Lib.hid (HIk.out.bel HM.out.2.2)
    have c0 : w5.cell? ⟨g1, 0, none⟩ = some (.int .i64 p.cls) := HM1.cell 0
    have d0 : w5.cell? ⟨g2, 0, none⟩ = some (.int .i64 p.cls) := HM2.cell 0
    have c1 : w5.cell? ⟨g1, 1, none⟩ = some (.int .i64 p.at_) := HM1.cell 1
    have d1 : w5.cell? ⟨g2, 1, none⟩ = some (.int .i64 p.at_) := HM2.cell 1
    have c3 : w5.cell? ⟨g1, 18, none⟩ = some (.string p.sym) := hfCellS HM1
    have d3 : w5.cell? ⟨g2, 18, none⟩ = some (.string p.sym) := by
      rw [HM2.cell, show p.cells.toArray = (([Value.int .i64 p.cls, Value.int .i64 p.at_] ++ (arrN .u8 16 p.cnt).toList) ++ [Value.string p.sym]).toArray from rfl, List.getElem?_toArray, List.getElem?_append_right (by simp [arrN_size])]
      simp [arrN_size]
    have ra := hfRange HM1; have rb := hfRange' HM2
    obtain ⟨inf, hinf⟩ := Option.isSome_iff_exists.1 (show (Tryd.prog.info? 5).isSome = true by kernel_rfl)
    have hne := fun w' : World => run_equalIn_arr (P := Tryd.prog) w' Tryd.underlying56 Tryd.underlying5 (by kernel_rfl) hinf (by kernel_rfl) p.cnt
    obtain ⟨zz, hzz⟩ : ∃ zz, zz = (arrN .u8 16 p.cnt).toList := ⟨_, rfl⟩
    have hz2 : arrN .u8 16 p.cnt = zz.toArray := by rw [hzz, Array.toArray_toList]
    have hzl : zz.length = 16 := by rw [hzz, Array.length_toList, arrN_size]
    rw [← hzz] at ra rb; rw [hz2] at hne
    obtain ⟨sy, hsy⟩ : ∃ sy, sy = p.sym := ⟨_, rfl⟩
    rw [← hsy] at c3 d3
    have hne5 := hne w5
    have HZL := Lib.hid hzl; have HXA := Lib.hid ra; have HXB := Lib.hid rb
    clear hinf hzl hz2 hzz ra rb hsy hne
    obtain ⟨v0, hv0⟩ : ∃ x, x = p.cls := ⟨_, rfl⟩
    rw [← hv0] at c0 d0
    obtain ⟨v1, hv1⟩ : ∃ x, x = p.at_ := ⟨_, rfl⟩
    rw [← hv1] at c1 d1
    clear HM1 HM2 hv0 hv1
    go_wp2_with (first | (refine wpList_load_midG (by rfl) 56 _ rfl g1 2 rfl zz _ HXA.out Tryd.underlying56 rfl (by rw [HZL.out]; kernel_rfl) ?_) | (refine wpList_load_midG (by rfl) 56 _ rfl g2 2 rfl zz _ HXB.out Tryd.underlying56 rfl (by rw [HZL.out]; kernel_rfl) ?_))
    go_roundw
    case rel => exact ⟨k + 1, by omega, by go_num, HI5⟩
    case measure => simp [intOf]; omega
set_option maxHeartbeats 2000000 in
theorem same_frame (c h ww : Int) (l : List Pt) (A : Option Addr) (cp : Nat) (B : Option Addr) (cp2 : Nat) (w : World) (hA : RdC Pt.cells 4 w A l) (hB : RdC Pt.cells 4 w B l) (hl : l.length ≤ 1000000) (hc : c ≤ 194) :
    Calls Tryd.prog 13 #[.iface 65 (.agg #[.int .i64 c, .int .i64 h, .int .i64 ww, .slice A l.length cp]), .agg (SC c ⟨#[]⟩ nilS nilS h ww (.slice B l.length cp2) nilS 0 0 0 0 0)] w fun e w' => e = .returned (.bool true) ∧ Below w.heap.size w w' := by
  have HI := Lib.hid (SmI.mk0 w 65 (SC c ⟨#[]⟩ nilS nilS h ww (.slice B l.length cp2) nilS 0 0 0 0 0) #[.int .i64 c, .int .i64 h, .int .i64 ww, .slice A l.length cp])
  unfold SC
  go_enter Tryd.func13, Tryd.ntmps13
  have HA := Lib.hid hA; have HB := Lib.hid hB; clear hA hB
  go_wp2_with fail
  go_loopw [13] (fun i wr => ∃ k : Nat, k ≤ l.length ∧ i = .int .i64 k ∧ Hid (SmI w 65 (SC c ⟨#[]⟩ nilS nilS h ww (.slice B l.length cp2) nilS 0 0 0 0 0) #[.int .i64 c, .int .i64 h, .int .i64 ww, .slice A l.length cp] wr)) (fun i _ => l.length - (intOf i).toNat)
  case atStart => exact ⟨0, by omega, rfl, HI⟩
  case round =>
    obtain ⟨k, hk, rfl, HIk⟩ := hrel
    clear HI
    have e1 : wr.cell? ⟨w.heap.size, 6, none⟩ = some (.slice B l.length cp2) := HIk.out.x.cell 6
    have e2 : wr.cell? ⟨w.heap.size + 1, 3, none⟩ = some (.slice A l.length cp) := HIk.out.y.cell 3
    by_cases hkl : k < l.length
    case neg =>
      obtain rfl : k = l.length := by omega
      go_wp2_with fail
      go_ret
      exact ⟨rfl, HIk.out.be⟩
    case pos =>
    obtain ⟨ga, oa, rfl, hga, hca⟩ := (HA.out.bel HIk.out.be).at1 hkl
    obtain ⟨gb, ob, rfl, hgb, hcb⟩ := (HB.out.bel HIk.out.be).at1 hkl
    obtain ⟨p, hp⟩ : ∃ p, p = l[k] := ⟨_, rfl⟩
    rw [← hp] at hca hcb
    clear hp
    have HRA := Lib.hid (rdc_range Pt.is hca); have HRB := Lib.hid (rdc_range Pt.is hcb)
    obtain ⟨pc, hpc⟩ : ∃ pc, pc = p.cells := ⟨_, rfl⟩
    have hpl : pc.length = 4 := by rw [hpc]; exact Pt.is.len p
    have hp1 : pc.toArray.all (·.oneCell') = true := by rw [hpc]; exact all_oneCell_toArray (Pt.is.one p)
    rw [← hpc] at HRA HRB
    have HPL := Lib.hid hpl; have HP1 := Lib.hid hp1; have HPC := Lib.hid hpc; have E1 := Lib.hid e1; have E2 := Lib.hid e2
    clear hpl hp1 hpc hca hcb
    go_upto_region 33 with fail
    clear e1 e2
    go_cut [14, 15] (fun a b wx => ∃ g1 g2 : Nat, a = .pointer (some ⟨g1, 0, none⟩) ∧ b = .pointer (some ⟨g2, 0, none⟩) ∧ Hid (Blk wx g1 68 pc.toArray ∧ Blk wx g2 67 pc.toArray ∧ Below wr.heap.size wr wx))
    case first =>
      refine region_plan (.run [0] (.held 1 (.run [2, 3] (.held 4 (.run [5] (.held 6 (.run [7, 8] (.held 9 (.two 10 11 (.ev 11 (.ev 12 (.ev 13 .fin))) (.ev 10 (.ev 12 (.ev 13 .fin)))))))))))) (fun w' => Hid (Below wr.heap.size wr w')) (by kernel_rfl) (Lib.hid (Below.refl _ wr).drew) ?_
      intro wd hwd
      have HBD : Hid (Below wr.heap.size wr wd) := Lib.hid (hwd ▸ (Below.refl _ wr).drew)
      clear hwd
      refine plan_run fun m hm => ?_
      simp only [pickO, List.filterMap_cons, List.filterMap_nil, List.getElem?_toArray, List.getElem?_cons_zero, List.getElem?_cons_succ] at hm
      subst hm
      go_wp2_with fail
      refine ⟨rfl, by rfl, ?_⟩
      refine plan_held (o := ⟨some 209, _, _, _, _, _⟩) (v := .slice (some ⟨ga, oa, none⟩) l.length cp) rfl (by rfl) (fun w' hS => ?_) ?_
      · have hS' := hS.out; have u1 := (hS'.cell (p := ⟨w.heap.size, 6, none⟩) HIk.out.x.lt).trans E1.out; have u2 := (hS'.cell (p := ⟨w.heap.size + 1, 3, none⟩) HIk.out.y.lt).trans E2.out; go_simp
      try simp only [Act.put, List.setIfInBounds_toArray, List.set_cons_zero, List.set_cons_succ]
      refine plan_run fun m hm => ?_
      simp only [pickO, List.filterMap_cons, List.filterMap_nil, List.getElem?_toArray, List.getElem?_cons_zero, List.getElem?_cons_succ] at hm
      subst hm
      go_wp2_with fail
      refine ⟨rfl, by rfl, ?_⟩
      refine plan_held (o := ⟨some 212, _, _, _, _, _⟩) (v := .agg pc.toArray) rfl (by rfl) (fun w' hS => ?_) ?_
      · have hS' := hS.out; have u1 := (hS'.cell (p := ⟨w.heap.size, 6, none⟩) HIk.out.x.lt).trans E1.out; have u2 := (hS'.cell (p := ⟨w.heap.size + 1, 3, none⟩) HIk.out.y.lt).trans E2.out; exact exec_load_mid 68 (.tmp 211) rfl ga (oa + k * 4) rfl pc _ (range_bel HRA.out hS' hga) Tryd.underlying68 rfl (by rw [HPL.out]; kernel_rfl)
      try simp only [Act.put, List.setIfInBounds_toArray, List.set_cons_zero, List.set_cons_succ]
      refine plan_run fun m hm => ?_
      simp only [pickO, List.filterMap_cons, List.filterMap_nil, List.getElem?_toArray, List.getElem?_cons_zero, List.getElem?_cons_succ] at hm
      subst hm
      go_wp2_with fail
      refine ⟨rfl, by rfl, ?_⟩
      refine plan_held (o := ⟨some 214, _, _, _, _, _⟩) (v := .slice (some ⟨gb, ob, none⟩) l.length cp2) rfl (by rfl) (fun w' hS => ?_) ?_
      · have hS' := hS.out; have u1 := (hS'.cell (p := ⟨w.heap.size, 6, none⟩) HIk.out.x.lt).trans E1.out; have u2 := (hS'.cell (p := ⟨w.heap.size + 1, 3, none⟩) HIk.out.y.lt).trans E2.out; go_simp
      try simp only [Act.put, List.setIfInBounds_toArray, List.set_cons_zero, List.set_cons_succ]
      refine plan_run fun m hm => ?_
      simp only [pickO, List.filterMap_cons, List.filterMap_nil, List.getElem?_toArray, List.getElem?_cons_zero, List.getElem?_cons_succ] at hm
      subst hm
      go_wp2_with fail
      refine ⟨rfl, by rfl, ?_⟩
      refine plan_held (o := ⟨some 217, _, _, _, _, _⟩) (v := .agg pc.toArray) rfl (by rfl) (fun w' hS => ?_) ?_
      · have hS' := hS.out; have u1 := (hS'.cell (p := ⟨w.heap.size, 6, none⟩) HIk.out.x.lt).trans E1.out; have u2 := (hS'.cell (p := ⟨w.heap.size + 1, 3, none⟩) HIk.out.y.lt).trans E2.out; exact exec_load_mid 67 (.tmp 216) rfl gb (ob + k * 4) rfl pc _ (range_bel HRB.out hS' hgb) Tryd.underlying67 rfl (by rw [HPL.out]; kernel_rfl)
      try simp only [Act.put, List.setIfInBounds_toArray, List.set_cons_zero, List.set_cons_succ]
      refine plan_two (fun m hm => ?_) (fun m hm => ?_)
      · simp only [pickO, List.filterMap_cons, List.filterMap_nil, List.getElem?_toArray, List.getElem?_cons_zero, List.getElem?_cons_succ] at hm
        subst hm
        go_wp2_with fail
        refine ⟨rfl, Lib.hid (HBD.out.alloc HBD.out.size _), ?_⟩
        try simp only [Act.put, List.setIfInBounds_toArray, List.set_cons_zero, List.set_cons_succ]
        refine plan_ev fun m hm => ?_
        simp only [pickO, List.filterMap_cons, List.filterMap_nil, List.getElem?_toArray, List.getElem?_cons_zero, List.getElem?_cons_succ] at hm
        subst hm
        go_wp2_with fail
        refine ⟨rfl, Lib.hid ((HBD.out.alloc HBD.out.size _).alloc (Nat.le_trans HBD.out.size (by rw [World.size_alloc]; omega)) _), ?_⟩
        try simp only [Act.put, List.setIfInBounds_toArray, List.set_cons_zero, List.set_cons_succ]
        refine plan_ev fun m hm => ?_
        simp only [pickO, List.filterMap_cons, List.filterMap_nil, List.getElem?_toArray, List.getElem?_cons_zero, List.getElem?_cons_succ] at hm
        subst hm
        refine wpList_store_far rfl 68 (.tmp 14) _ rfl wd.heap.size _ #[.int .i64 0, .int .i64 0, .int .i64 0, .int .i64 0] 68 rfl rfl ((Blk.new wd 68 #[.int .i64 0, .int .i64 0, .int .i64 0, .int .i64 0]).alloc _) (by show _ = some pc.length; rw [HPL.out]; kernel_rfl) (by show _ = pc.length; rw [HPL.out]; rfl) HP1.out ?_; intro wz12 hz1 hz2 hz3 hz4 hz5; have HZ12 := Lib.hid hz1; have HY12 := Lib.hid hz2; have HX12 := Lib.hid hz3; clear hz1 hz2 hz3 hz4 hz5
        refine ⟨rfl, Lib.hid (HX12.out _ _ (by have := HBD.out.size; omega) ((HBD.out.alloc HBD.out.size _).alloc (Nat.le_trans HBD.out.size (by rw [World.size_alloc]; omega)) _)), ?_⟩
        try simp only [Act.put, List.setIfInBounds_toArray, List.set_cons_zero, List.set_cons_succ]
        refine plan_ev fun m hm => ?_
        simp only [pickO, List.filterMap_cons, List.filterMap_nil, List.getElem?_toArray, List.getElem?_cons_zero, List.getElem?_cons_succ] at hm
        subst hm
        refine wpList_store_far rfl 67 (.tmp 15) _ rfl (wd.heap.size + 1) _ #[.int .i64 0, .int .i64 0, .int .i64 0, .int .i64 0] 67 rfl rfl (HY12.out _ _ _ (by omega) (Blk.nw (by rw [World.size_alloc]))) (by show _ = some pc.length; rw [HPL.out]; kernel_rfl) (by show _ = pc.length; rw [HPL.out]; rfl) HP1.out ?_; intro wz13 hz1 hz2 hz3 hz4 hz5; have HZ13 := Lib.hid hz1; have HY13 := Lib.hid hz2; have HX13 := Lib.hid hz3; clear hz1 hz2 hz3 hz4 hz5
        refine ⟨rfl, Lib.hid (HX13.out _ _ (by have := HBD.out.size; omega) (HX12.out _ _ (by have := HBD.out.size; omega) ((HBD.out.alloc HBD.out.size _).alloc (Nat.le_trans HBD.out.size (by rw [World.size_alloc]; omega)) _))), ?_⟩
        try simp only [Act.put, List.setIfInBounds_toArray, List.set_cons_zero, List.set_cons_succ]
        refine plan_fin ?_
        go_wp2_with fail
        go_meet
        case rel => exact ⟨wd.heap.size, wd.heap.size + 1, rfl, rfl, Lib.hid ⟨HY13.out _ _ _ (by omega) HZ12.out, HZ13.out, HX13.out _ _ (by have := HBD.out.size; omega) (HX12.out _ _ (by have := HBD.out.size; omega) ((HBD.out.alloc HBD.out.size _).alloc (Nat.le_trans HBD.out.size (by rw [World.size_alloc]; omega)) _))⟩⟩
      · simp only [pickO, List.filterMap_cons, List.filterMap_nil, List.getElem?_toArray, List.getElem?_cons_zero, List.getElem?_cons_succ] at hm
        subst hm
        go_wp2_with fail
        refine ⟨rfl, Lib.hid (HBD.out.alloc HBD.out.size _), ?_⟩
        try simp only [Act.put, List.setIfInBounds_toArray, List.set_cons_zero, List.set_cons_succ]
        refine plan_ev fun m hm => ?_
        simp only [pickO, List.filterMap_cons, List.filterMap_nil, List.getElem?_toArray, List.getElem?_cons_zero, List.getElem?_cons_succ] at hm
        subst hm
        go_wp2_with fail
        refine ⟨rfl, Lib.hid ((HBD.out.alloc HBD.out.size _).alloc (Nat.le_trans HBD.out.size (by rw [World.size_alloc]; omega)) _), ?_⟩
        try simp only [Act.put, List.setIfInBounds_toArray, List.set_cons_zero, List.set_cons_succ]
        refine plan_ev fun m hm => ?_
        simp only [pickO, List.filterMap_cons, List.filterMap_nil, List.getElem?_toArray, List.getElem?_cons_zero, List.getElem?_cons_succ] at hm
        subst hm
        refine wpList_store_far rfl 68 (.tmp 14) _ rfl (wd.heap.size + 1) _ #[.int .i64 0, .int .i64 0, .int .i64 0, .int .i64 0] 68 rfl rfl (Blk.nw (by rw [World.size_alloc])) (by show _ = some pc.length; rw [HPL.out]; kernel_rfl) (by show _ = pc.length; rw [HPL.out]; rfl) HP1.out ?_; intro wz12 hz1 hz2 hz3 hz4 hz5; have HZ12 := Lib.hid hz1; have HY12 := Lib.hid hz2; have HX12 := Lib.hid hz3; clear hz1 hz2 hz3 hz4 hz5
        refine ⟨rfl, Lib.hid (HX12.out _ _ (by have := HBD.out.size; omega) ((HBD.out.alloc HBD.out.size _).alloc (Nat.le_trans HBD.out.size (by rw [World.size_alloc]; omega)) _)), ?_⟩
        try simp only [Act.put, List.setIfInBounds_toArray, List.set_cons_zero, List.set_cons_succ]
        refine plan_ev fun m hm => ?_
        simp only [pickO, List.filterMap_cons, List.filterMap_nil, List.getElem?_toArray, List.getElem?_cons_zero, List.getElem?_cons_succ] at hm
        subst hm
        refine wpList_store_far rfl 67 (.tmp 15) _ rfl wd.heap.size _ #[.int .i64 0, .int .i64 0, .int .i64 0, .int .i64 0] 67 rfl rfl (HY12.out _ _ _ (by omega) ((Blk.new wd 67 #[.int .i64 0, .int .i64 0, .int .i64 0, .int .i64 0]).alloc _)) (by show _ = some pc.length; rw [HPL.out]; kernel_rfl) (by show _ = pc.length; rw [HPL.out]; rfl) HP1.out ?_; intro wz13 hz1 hz2 hz3 hz4 hz5; have HZ13 := Lib.hid hz1; have HY13 := Lib.hid hz2; have HX13 := Lib.hid hz3; clear hz1 hz2 hz3 hz4 hz5
        refine ⟨rfl, Lib.hid (HX13.out _ _ (by have := HBD.out.size; omega) (HX12.out _ _ (by have := HBD.out.size; omega) ((HBD.out.alloc HBD.out.size _).alloc (Nat.le_trans HBD.out.size (by rw [World.size_alloc]; omega)) _))), ?_⟩
        try simp only [Act.put, List.setIfInBounds_toArray, List.set_cons_zero, List.set_cons_succ]
        refine plan_fin ?_
        go_wp2_with fail
        go_meet
        case rel => exact ⟨wd.heap.size + 1, wd.heap.size, rfl, rfl, Lib.hid ⟨HY13.out _ _ _ (by omega) HZ12.out, HZ13.out, HX13.out _ _ (by have := HBD.out.size; omega) (HX12.out _ _ (by have := HBD.out.size; omega) ((HBD.out.alloc HBD.out.size _).alloc (Nat.le_trans HBD.out.size (by rw [World.size_alloc]; omega)) _))⟩⟩
    case rest =>
    obtain ⟨g1, g2, rfl, rfl, HM⟩ := hcut
    obtain ⟨w5, rfl⟩ : ∃ w5, w5 = wc := ⟨_, rfl⟩
    have HM1 := HM.out.1; have HM2 := HM.out.2.1
    rw [HPC.out] at HM1 HM2
    have HI5 := Lib.hid (HIk.out.bel HM.out.2.2)
    have c0 : w5.cell? ⟨g1, 0, none⟩ = some (.int .i64 p.id) := HM1.cell 0
    have d0 : w5.cell? ⟨g2, 0, none⟩ = some (.int .i64 p.id) := HM2.cell 0
    have c1 : w5.cell? ⟨g1, 1, none⟩ = some (.int .i64 p.h) := HM1.cell 1
    have d1 : w5.cell? ⟨g2, 1, none⟩ = some (.int .i64 p.h) := HM2.cell 1
    have c2 : w5.cell? ⟨g1, 2, none⟩ = some (.int .i64 p.v) := HM1.cell 2
    have d2 : w5.cell? ⟨g2, 2, none⟩ = some (.int .i64 p.v) := HM2.cell 2
    have c3 : w5.cell? ⟨g1, 3, none⟩ = some (.int .i64 p.q) := HM1.cell 3
    have d3 : w5.cell? ⟨g2, 3, none⟩ = some (.int .i64 p.q) := HM2.cell 3
    obtain ⟨v0, hv0⟩ : ∃ x, x = p.id := ⟨_, rfl⟩
    rw [← hv0] at c0 d0
    obtain ⟨v1, hv1⟩ : ∃ x, x = p.h := ⟨_, rfl⟩
    rw [← hv1] at c1 d1
    obtain ⟨v2, hv2⟩ : ∃ x, x = p.v := ⟨_, rfl⟩
    rw [← hv2] at c2 d2
    obtain ⟨v3, hv3⟩ : ∃ x, x = p.q := ⟨_, rfl⟩
    rw [← hv3] at c3 d3
    clear HM1 HM2 hv0 hv1 hv2 hv3
    go_wp2_with fail
    go_roundw
    case rel => exact ⟨k + 1, by omega, by go_num, HI5⟩
    case measure => simp [intOf]; omega
set_option maxHeartbeats 2000000 in
theorem same_scan (a b hi lo : Int) (l : List Pk) (A : Option Addr) (cp : Nat) (B : Option Addr) (cp2 : Nat) (w : World) (hA : RdC Pk.cells 3 w A l) (hB : RdC Pk.cells 3 w B l) (hl : l.length ≤ 1000000) :
    Calls Tryd.prog 13 #[.iface 74 (.agg #[.slice A l.length cp, .int .i64 a, .int .i64 b, .int .i64 hi, .int .i64 lo]), .agg (SC 218 ⟨#[]⟩ nilS nilS 0 0 nilS (.slice B l.length cp2) a b hi lo 0)] w fun e w' => e = .returned (.bool true) ∧ Below w.heap.size w w' := by
  have HI := Lib.hid (SmI.mk0 w 74 (SC 218 ⟨#[]⟩ nilS nilS 0 0 nilS (.slice B l.length cp2) a b hi lo 0) #[.slice A l.length cp, .int .i64 a, .int .i64 b, .int .i64 hi, .int .i64 lo])
  unfold SC
  go_enter Tryd.func13, Tryd.ntmps13
  have HA := Lib.hid hA; have HB := Lib.hid hB; clear hA hB
  go_wp2_with fail
  go_loopw [17] (fun i wr => ∃ k : Nat, k ≤ l.length ∧ i = .int .i64 k ∧ Hid (SmI w 74 (SC 218 ⟨#[]⟩ nilS nilS 0 0 nilS (.slice B l.length cp2) a b hi lo 0) #[.slice A l.length cp, .int .i64 a, .int .i64 b, .int .i64 hi, .int .i64 lo] wr)) (fun i _ => l.length - (intOf i).toNat)
  case atStart => exact ⟨0, by omega, rfl, HI⟩
  case round =>
    obtain ⟨k, hk, rfl, HIk⟩ := hrel
    clear HI
    have e1 : wr.cell? ⟨w.heap.size, 7, none⟩ = some (.slice B l.length cp2) := HIk.out.x.cell 7
    have e2 : wr.cell? ⟨w.heap.size + 1, 0, none⟩ = some (.slice A l.length cp) := HIk.out.y.cell 0
    by_cases hkl : k < l.length
    case neg =>
      obtain rfl : k = l.length := by omega
      go_wp2_with fail
      go_ret
      exact ⟨rfl, HIk.out.be⟩
    case pos =>
    obtain ⟨ga, oa, rfl, hga, hca⟩ := (HA.out.bel HIk.out.be).at1 hkl
    obtain ⟨gb, ob, rfl, hgb, hcb⟩ := (HB.out.bel HIk.out.be).at1 hkl
    obtain ⟨p, hp⟩ : ∃ p, p = l[k] := ⟨_, rfl⟩
    rw [← hp] at hca hcb
    clear hp
    have HRA := Lib.hid (rdc_range Pk.is hca); have HRB := Lib.hid (rdc_range Pk.is hcb)
    obtain ⟨pc, hpc⟩ : ∃ pc, pc = p.cells := ⟨_, rfl⟩
    have hpl : pc.length = 3 := by rw [hpc]; exact Pk.is.len p
    have hp1 : pc.toArray.all (·.oneCell') = true := by rw [hpc]; exact all_oneCell_toArray (Pk.is.one p)
    rw [← hpc] at HRA HRB
    have HPL := Lib.hid hpl; have HP1 := Lib.hid hp1; have HPC := Lib.hid hpc; have E1 := Lib.hid e1; have E2 := Lib.hid e2
    clear hpl hp1 hpc hca hcb
    go_upto_region 44 with fail
    clear e1 e2
    go_cut [18, 19] (fun a b wx => ∃ g1 g2 : Nat, a = .pointer (some ⟨g1, 0, none⟩) ∧ b = .pointer (some ⟨g2, 0, none⟩) ∧ Hid (Blk wx g1 111 pc.toArray ∧ Blk wx g2 112 pc.toArray ∧ Below wr.heap.size wr wx))
    case first =>
      refine region_plan (.run [0] (.held 1 (.run [2, 3] (.held 4 (.run [5] (.held 6 (.run [7, 8] (.held 9 (.two 10 11 (.ev 11 (.ev 12 (.ev 13 .fin))) (.ev 10 (.ev 12 (.ev 13 .fin)))))))))))) (fun w' => Hid (Below wr.heap.size wr w')) (by kernel_rfl) (Lib.hid (Below.refl _ wr).drew) ?_
      intro wd hwd
      have HBD : Hid (Below wr.heap.size wr wd) := Lib.hid (hwd ▸ (Below.refl _ wr).drew)
      clear hwd
      refine plan_run fun m hm => ?_
      simp only [pickO, List.filterMap_cons, List.filterMap_nil, List.getElem?_toArray, List.getElem?_cons_zero, List.getElem?_cons_succ] at hm
      subst hm
      go_wp2_with fail
      refine ⟨rfl, by rfl, ?_⟩
      refine plan_held (o := ⟨some 295, _, _, _, _, _⟩) (v := .slice (some ⟨ga, oa, none⟩) l.length cp) rfl (by rfl) (fun w' hS => ?_) ?_
      · have hS' := hS.out; have u1 := (hS'.cell (p := ⟨w.heap.size, 7, none⟩) HIk.out.x.lt).trans E1.out; have u2 := (hS'.cell (p := ⟨w.heap.size + 1, 0, none⟩) HIk.out.y.lt).trans E2.out; go_simp
      try simp only [Act.put, List.setIfInBounds_toArray, List.set_cons_zero, List.set_cons_succ]
      refine plan_run fun m hm => ?_
      simp only [pickO, List.filterMap_cons, List.filterMap_nil, List.getElem?_toArray, List.getElem?_cons_zero, List.getElem?_cons_succ] at hm
      subst hm
      go_wp2_with fail
      refine ⟨rfl, by rfl, ?_⟩
      refine plan_held (o := ⟨some 298, _, _, _, _, _⟩) (v := .agg pc.toArray) rfl (by rfl) (fun w' hS => ?_) ?_
      · have hS' := hS.out; have u1 := (hS'.cell (p := ⟨w.heap.size, 7, none⟩) HIk.out.x.lt).trans E1.out; have u2 := (hS'.cell (p := ⟨w.heap.size + 1, 0, none⟩) HIk.out.y.lt).trans E2.out; exact exec_load_mid 111 (.tmp 297) rfl ga (oa + k * 3) rfl pc _ (range_bel HRA.out hS' hga) Tryd.underlying111 rfl (by rw [HPL.out]; kernel_rfl)
      try simp only [Act.put, List.setIfInBounds_toArray, List.set_cons_zero, List.set_cons_succ]
      refine plan_run fun m hm => ?_
      simp only [pickO, List.filterMap_cons, List.filterMap_nil, List.getElem?_toArray, List.getElem?_cons_zero, List.getElem?_cons_succ] at hm
      subst hm
      go_wp2_with fail
      refine ⟨rfl, by rfl, ?_⟩
      refine plan_held (o := ⟨some 300, _, _, _, _, _⟩) (v := .slice (some ⟨gb, ob, none⟩) l.length cp2) rfl (by rfl) (fun w' hS => ?_) ?_
      · have hS' := hS.out; have u1 := (hS'.cell (p := ⟨w.heap.size, 7, none⟩) HIk.out.x.lt).trans E1.out; have u2 := (hS'.cell (p := ⟨w.heap.size + 1, 0, none⟩) HIk.out.y.lt).trans E2.out; go_simp
      try simp only [Act.put, List.setIfInBounds_toArray, List.set_cons_zero, List.set_cons_succ]
      refine plan_run fun m hm => ?_
      simp only [pickO, List.filterMap_cons, List.filterMap_nil, List.getElem?_toArray, List.getElem?_cons_zero, List.getElem?_cons_succ] at hm
      subst hm
      go_wp2_with fail
      refine ⟨rfl, by rfl, ?_⟩
      refine plan_held (o := ⟨some 303, _, _, _, _, _⟩) (v := .agg pc.toArray) rfl (by rfl) (fun w' hS => ?_) ?_
      · have hS' := hS.out; have u1 := (hS'.cell (p := ⟨w.heap.size, 7, none⟩) HIk.out.x.lt).trans E1.out; have u2 := (hS'.cell (p := ⟨w.heap.size + 1, 0, none⟩) HIk.out.y.lt).trans E2.out; exact exec_load_mid 112 (.tmp 302) rfl gb (ob + k * 3) rfl pc _ (range_bel HRB.out hS' hgb) Tryd.underlying112 rfl (by rw [HPL.out]; kernel_rfl)
      try simp only [Act.put, List.setIfInBounds_toArray, List.set_cons_zero, List.set_cons_succ]
      refine plan_two (fun m hm => ?_) (fun m hm => ?_)
      · simp only [pickO, List.filterMap_cons, List.filterMap_nil, List.getElem?_toArray, List.getElem?_cons_zero, List.getElem?_cons_succ] at hm
        subst hm
        go_wp2_with fail
        refine ⟨rfl, Lib.hid (HBD.out.alloc HBD.out.size _), ?_⟩
        try simp only [Act.put, List.setIfInBounds_toArray, List.set_cons_zero, List.set_cons_succ]
        refine plan_ev fun m hm => ?_
        simp only [pickO, List.filterMap_cons, List.filterMap_nil, List.getElem?_toArray, List.getElem?_cons_zero, List.getElem?_cons_succ] at hm
        subst hm
        go_wp2_with fail
        refine ⟨rfl, Lib.hid ((HBD.out.alloc HBD.out.size _).alloc (Nat.le_trans HBD.out.size (by rw [World.size_alloc]; omega)) _), ?_⟩
        try simp only [Act.put, List.setIfInBounds_toArray, List.set_cons_zero, List.set_cons_succ]
        refine plan_ev fun m hm => ?_
        simp only [pickO, List.filterMap_cons, List.filterMap_nil, List.getElem?_toArray, List.getElem?_cons_zero, List.getElem?_cons_succ] at hm
        subst hm
        refine wpList_store_far rfl 111 (.tmp 18) _ rfl wd.heap.size _ #[.int .i64 0, .int .i64 0, .int .i64 0] 111 rfl rfl ((Blk.new wd 111 #[.int .i64 0, .int .i64 0, .int .i64 0]).alloc _) (by show _ = some pc.length; rw [HPL.out]; kernel_rfl) (by show _ = pc.length; rw [HPL.out]; rfl) HP1.out ?_; intro wz12 hz1 hz2 hz3 hz4 hz5; have HZ12 := Lib.hid hz1; have HY12 := Lib.hid hz2; have HX12 := Lib.hid hz3; clear hz1 hz2 hz3 hz4 hz5
        refine ⟨rfl, Lib.hid (HX12.out _ _ (by have := HBD.out.size; omega) ((HBD.out.alloc HBD.out.size _).alloc (Nat.le_trans HBD.out.size (by rw [World.size_alloc]; omega)) _)), ?_⟩
        try simp only [Act.put, List.setIfInBounds_toArray, List.set_cons_zero, List.set_cons_succ]
        refine plan_ev fun m hm => ?_
        simp only [pickO, List.filterMap_cons, List.filterMap_nil, List.getElem?_toArray, List.getElem?_cons_zero, List.getElem?_cons_succ] at hm
        subst hm
        refine wpList_store_far rfl 112 (.tmp 19) _ rfl (wd.heap.size + 1) _ #[.int .i64 0, .int .i64 0, .int .i64 0] 112 rfl rfl (HY12.out _ _ _ (by omega) (Blk.nw (by rw [World.size_alloc]))) (by show _ = some pc.length; rw [HPL.out]; kernel_rfl) (by show _ = pc.length; rw [HPL.out]; rfl) HP1.out ?_; intro wz13 hz1 hz2 hz3 hz4 hz5; have HZ13 := Lib.hid hz1; have HY13 := Lib.hid hz2; have HX13 := Lib.hid hz3; clear hz1 hz2 hz3 hz4 hz5
        refine ⟨rfl, Lib.hid (HX13.out _ _ (by have := HBD.out.size; omega) (HX12.out _ _ (by have := HBD.out.size; omega) ((HBD.out.alloc HBD.out.size _).alloc (Nat.le_trans HBD.out.size (by rw [World.size_alloc]; omega)) _))), ?_⟩
        try simp only [Act.put, List.setIfInBounds_toArray, List.set_cons_zero, List.set_cons_succ]
        refine plan_fin ?_
        go_wp2_with fail
        go_meet
        case rel => exact ⟨wd.heap.size, wd.heap.size + 1, rfl, rfl, Lib.hid ⟨HY13.out _ _ _ (by omega) HZ12.out, HZ13.out, HX13.out _ _ (by have := HBD.out.size; omega) (HX12.out _ _ (by have := HBD.out.size; omega) ((HBD.out.alloc HBD.out.size _).alloc (Nat.le_trans HBD.out.size (by rw [World.size_alloc]; omega)) _))⟩⟩
      · simp only [pickO, List.filterMap_cons, List.filterMap_nil, List.getElem?_toArray, List.getElem?_cons_zero, List.getElem?_cons_succ] at hm
        subst hm
        go_wp2_with fail
        refine ⟨rfl, Lib.hid (HBD.out.alloc HBD.out.size _), ?_⟩
        try simp only [Act.put, List.setIfInBounds_toArray, List.set_cons_zero, List.set_cons_succ]
        refine plan_ev fun m hm => ?_
        simp only [pickO, List.filterMap_cons, List.filterMap_nil, List.getElem?_toArray, List.getElem?_cons_zero, List.getElem?_cons_succ] at hm
        subst hm
        go_wp2_with fail
        refine ⟨rfl, Lib.hid ((HBD.out.alloc HBD.out.size _).alloc (Nat.le_trans HBD.out.size (by rw [World.size_alloc]; omega)) _), ?_⟩
        try simp only [Act.put, List.setIfInBounds_toArray, List.set_cons_zero, List.set_cons_succ]
        refine plan_ev fun m hm => ?_
        simp only [pickO, List.filterMap_cons, List.filterMap_nil, List.getElem?_toArray, List.getElem?_cons_zero, List.getElem?_cons_succ] at hm
        subst hm
        refine wpList_store_far rfl 111 (.tmp 18) _ rfl (wd.heap.size + 1) _ #[.int .i64 0, .int .i64 0, .int .i64 0] 111 rfl rfl (Blk.nw (by rw [World.size_alloc])) (by show _ = some pc.length; rw [HPL.out]; kernel_rfl) (by show _ = pc.length; rw [HPL.out]; rfl) HP1.out ?_; intro wz12 hz1 hz2 hz3 hz4 hz5; have HZ12 := Lib.hid hz1; have HY12 := Lib.hid hz2; have HX12 := Lib.hid hz3; clear hz1 hz2 hz3 hz4 hz5
        refine ⟨rfl, Lib.hid (HX12.out _ _ (by have := HBD.out.size; omega) ((HBD.out.alloc HBD.out.size _).alloc (Nat.le_trans HBD.out.size (by rw [World.size_alloc]; omega)) _)), ?_⟩
        try simp only [Act.put, List.setIfInBounds_toArray, List.set_cons_zero, List.set_cons_succ]
        refine plan_ev fun m hm => ?_
        simp only [pickO, List.filterMap_cons, List.filterMap_nil, List.getElem?_toArray, List.getElem?_cons_zero, List.getElem?_cons_succ] at hm
        subst hm
        refine wpList_store_far rfl 112 (.tmp 19) _ rfl wd.heap.size _ #[.int .i64 0, .int .i64 0, .int .i64 0] 112 rfl rfl (HY12.out _ _ _ (by omega) ((Blk.new wd 112 #[.int .i64 0, .int .i64 0, .int .i64 0]).alloc _)) (by show _ = some pc.length; rw [HPL.out]; kernel_rfl) (by show _ = pc.length; rw [HPL.out]; rfl) HP1.out ?_; intro wz13 hz1 hz2 hz3 hz4 hz5; have HZ13 := Lib.hid hz1; have HY13 := Lib.hid hz2; have HX13 := Lib.hid hz3; clear hz1 hz2 hz3 hz4 hz5
        refine ⟨rfl, Lib.hid (HX13.out _ _ (by have := HBD.out.size; omega) (HX12.out _ _ (by have := HBD.out.size; omega) ((HBD.out.alloc HBD.out.size _).alloc (Nat.le_trans HBD.out.size (by rw [World.size_alloc]; omega)) _))), ?_⟩
        try simp only [Act.put, List.setIfInBounds_toArray, List.set_cons_zero, List.set_cons_succ]
        refine plan_fin ?_
        go_wp2_with fail
        go_meet
        case rel => exact ⟨wd.heap.size + 1, wd.heap.size, rfl, rfl, Lib.hid ⟨HY13.out _ _ _ (by omega) HZ12.out, HZ13.out, HX13.out _ _ (by have := HBD.out.size; omega) (HX12.out _ _ (by have := HBD.out.size; omega) ((HBD.out.alloc HBD.out.size _).alloc (Nat.le_trans HBD.out.size (by rw [World.size_alloc]; omega)) _))⟩⟩
    case rest =>
    obtain ⟨g1, g2, rfl, rfl, HM⟩ := hcut
    obtain ⟨w5, rfl⟩ : ∃ w5, w5 = wc := ⟨_, rfl⟩
    have HM1 := HM.out.1; have HM2 := HM.out.2.1
    rw [HPC.out] at HM1 HM2
    have HI5 := Lib.hid (HIk.out.bel HM.out.2.2)
    have c0 : w5.cell? ⟨g1, 0, none⟩ = some (.int .i64 p.id) := HM1.cell 0
    have d0 : w5.cell? ⟨g2, 0, none⟩ = some (.int .i64 p.id) := HM2.cell 0
    have c1 : w5.cell? ⟨g1, 1, none⟩ = some (.int .i64 p.dc) := HM1.cell 1
    have d1 : w5.cell? ⟨g2, 1, none⟩ = some (.int .i64 p.dc) := HM2.cell 1
    have c2 : w5.cell? ⟨g1, 2, none⟩ = some (.int .i64 p.ac) := HM1.cell 2
    have d2 : w5.cell? ⟨g2, 2, none⟩ = some (.int .i64 p.ac) := HM2.cell 2
    obtain ⟨v0, hv0⟩ : ∃ x, x = p.id := ⟨_, rfl⟩
    rw [← hv0] at c0 d0
    obtain ⟨v1, hv1⟩ : ∃ x, x = p.dc := ⟨_, rfl⟩
    rw [← hv1] at c1 d1
    obtain ⟨v2, hv2⟩ : ∃ x, x = p.ac := ⟨_, rfl⟩
    rw [← hv2] at c2 d2
    clear HM1 HM2 hv0 hv1 hv2
    go_wp2_with fail
    go_roundw
    case rel => exact ⟨k + 1, by omega, by go_num, HI5⟩
    case measure => simp [intOf]; omega
theorem same_any {w : World} {v : Value} {cs : Array Value} {x : Sg} (h1 : SgR w v x) (h2 : RgR w cs x) (hx : x.ok) (hb : sgB x = false) :
    Calls Tryd.prog 13 #[v, .agg cs] w fun e w' => e = .returned (.bool true) ∧ Below w.heap.size w w' := by
  cases x with
  | plain c b => cases h1; cases h2; exact same_plain c b w (by simp only [sgB, decide_eq_false_iff_not] at hb; omega)
  | quants l => obtain ⟨A, cp, rfl, hA⟩ := h1; obtain ⟨B, cp2, rfl, hB⟩ := h2; exact same_quants l A cp B cp2 w hA hB hx.2
  | huffs l => obtain ⟨A, cp, rfl, hA⟩ := h1; obtain ⟨B, cp2, rfl, hB⟩ := h2; exact same_huffs l A cp B cp2 w hA hB hx.2
  | frame c hh ww l => obtain ⟨A, cp, rfl, hA⟩ := h1; obtain ⟨B, cp2, rfl, hB⟩ := h2; exact same_frame c hh ww l A cp B cp2 w hA hB hx (by simp only [sgB, Bool.or_eq_false_iff, decide_eq_false_iff_not] at hb; omega)
  | scan l a b hi lo => obtain ⟨A, cp, rfl, hA⟩ := h1; obtain ⟨B, cp2, rfl, hB⟩ := h2; exact same_scan a b hi lo l A cp B cp2 w hA hB hx
  | rst n => cases h1; cases h2; exact same_restart n w
end Go.Proofs.YtdohhhkondokkaaDoor
