/- unit and own: the closures they make (gen_frm.py). No condition. -/
import Derived.Test.YtjfnlgmllhjonaaFrL
import Derived.Test.YtjfnlgmllhjonaaSeqE
namespace Go.Proofs.Ytjfnlgmllhjonaa
open Go.RowKit
set_option linter.unusedSimpArgs false
set_option linter.unusedVariables false
set_option maxRecDepth 100000
theorem exec_load_mid9 {P : Program} {ρ : Operand → Value} {o : Oper} {w : World} (ty : TypeId) (x : Operand) (ho : o.op = .load ty x) (b i : Nat) (hx : ρ x = .pointer (some ⟨b, i, none⟩)) (cs : List Value) (d : TypeDesc) (hc : w.rangeAt b i cs)
    (hu : P.underlying ty = some d) (hd : d.isRow = true) (hi : (P.info? ty).map (·.size) = some cs.length) : (execOp ρ o).run P w = .ok (.value (.agg cs.toArray)) w := by
  unfold execOp
  simp only [ho, hx, Instr.loadAt, Instr.sureAddr, Sem.run_bind, Sem.run_pure, Result.andThen_ok, run_loadVar_mid w b i ty cs d hc hu hd hi]
theorem unit_clo (w : World) (G : Nat) (C : Option Addr) (m cc : Nat) (n : Int) :
    Calls Try.prog 26 #[.pointer (some ⟨G, 0, none⟩), .slice C m cc, .int .i64 n] w fun e w' => ∃ b1 b2 b3, e = .returned (.func (.func 31) #[] #[.pointer (some ⟨b1, 0, none⟩), .pointer (some ⟨b2, 0, none⟩), .pointer (some ⟨b3, 0, none⟩)]) ∧ w.heap.size ≤ b1 ∧ w.heap.size ≤ b2 ∧ w.heap.size ≤ b3 ∧ Blk w' b1 3 #[.int .i64 n] ∧ Blk w' b2 24 #[.pointer (some ⟨G, 0, none⟩)] ∧ Blk w' b3 45 #[.slice C m cc] ∧ Below w.heap.size w w' := by
  go_enter Try.func26, Try.ntmps26
  go_wp2_with fail
  go_ret
  exact ⟨w.heap.size + 2, w.heap.size, w.heap.size + 1, rfl, by omega, by omega, by omega, Blk.nw (by simp), ((Blk.new w _ _).alloc _).alloc _, (Blk.nw (by simp)).alloc _, (((Below.refl w.heap.size w).alloc (Nat.le_refl _) _).alloc (by simp) _).alloc (by simp; omega) _⟩
set_option maxHeartbeats 1000000 in
theorem own_clo (w : World) (G : Nat) (pv : Value) (A : Option Addr) (np cg : Nat) (gr : Nat → Nat → Int) (ac dn uw uh tot iu : Int) (H : Blk w G 67 (frC pv (.slice A np cg) ac dn uw uh tot iu)) (hR : RdS w A np 4 gr) (ci : Nat) (hc : ci < np) (n : Int) :
    Calls Try.prog 27 #[.pointer (some ⟨G, 0, none⟩), .int .i64 ci, .int .i64 n] w fun e w' => ∃ b1 b2 b3, e = .returned (.func (.func 32) #[] #[.pointer (some ⟨b1, 0, none⟩), .pointer (some ⟨b2, 0, none⟩), .pointer (some ⟨b3, 0, none⟩)]) ∧ w.heap.size ≤ b1 ∧ w.heap.size ≤ b2 ∧ w.heap.size ≤ b3 ∧ Blk w' b1 3 #[.int .i64 ci] ∧ Blk w' b2 3 #[.int .i64 n] ∧ Blk w' b3 33 #[.int .i64 (gr ci 0), .int .i64 (gr ci 1), .int .i64 (gr ci 2), .int .i64 (gr ci 3)] ∧ Below w.heap.size w w' := by
  obtain ⟨ga, oa, hAe, hga, hq⟩ := hR ci hc
  subst hAe
  obtain ⟨g0, h0⟩ : ∃ z, z = gr ci 0 := ⟨_, rfl⟩
  obtain ⟨g1, h1⟩ : ∃ z, z = gr ci 1 := ⟨_, rfl⟩
  obtain ⟨g2, h2⟩ : ∃ z, z = gr ci 2 := ⟨_, rfl⟩
  obtain ⟨g3, h3⟩ : ∃ z, z = gr ci 3 := ⟨_, rfl⟩
  have hr : w.rangeAt ga (oa + ci * 4) [.int .i64 g0, .int .i64 g1, .int .i64 g2, .int .i64 g3] := fun j v hv => by
    have hj : j < 4 := by have := (List.getElem?_eq_some_iff.1 hv).1; simpa using this
    have hqj := hq j hj
    rw [← Nat.add_assoc] at hqj
    rw [hqj]
    rcases (show j = 0 ∨ j = 1 ∨ j = 2 ∨ j = 3 by omega) with rfl | rfl | rfl | rfl <;> simp at hv <;> subst hv
    · rw [h0]
    · rw [h1]
    · rw [h2]
    · rw [h3]
  rw [← h0, ← h1, ← h2, ← h3]
  have hb0 : Below w.heap.size w ((w.alloc (.cells #[.int .i64 ci] 3)).alloc (.cells #[.int .i64 n] 3)) := ((Below.refl w.heap.size w).alloc (Nat.le_refl _) _).alloc (by simp) _
  have HB0 := Lib.hid hb0
  have HM0 : Hid (Blk ((w.alloc (.cells #[.int .i64 ci] 3)).alloc (.cells #[.int .i64 n] 3)) w.heap.size 3 #[.int .i64 ci] ∧ Blk ((w.alloc (.cells #[.int .i64 ci] 3)).alloc (.cells #[.int .i64 n] 3)) (w.heap.size + 1) 3 #[.int .i64 n] ∧ ((w.alloc (.cells #[.int .i64 ci] 3)).alloc (.cells #[.int .i64 n] 3)).heap.size = w.heap.size + 2) := Lib.hid ⟨(Blk.new w _ _).alloc _, Blk.nw (by simp), by simp⟩
  have HS0 : Hid (((w.alloc (.cells #[.int .i64 ci] 3)).alloc (.cells #[.int .i64 n] 3)).drew.cell? ⟨G, 1, none⟩ = some (.slice (some ⟨ga, oa, none⟩) np cg) ∧ ((w.alloc (.cells #[.int .i64 ci] 3)).alloc (.cells #[.int .i64 n] 3)).drew.cell? ⟨w.heap.size, 0, none⟩ = some (.int .i64 ci) ∧ ((w.alloc (.cells #[.int .i64 ci] 3)).alloc (.cells #[.int .i64 n] 3)).drew.rangeAt ga (oa + ci * 4) [.int .i64 g0, .int .i64 g1, .int .i64 g2, .int .i64 g3]) := Lib.hid ⟨(H.bel hb0).cell 1, HM0.out.1.cell 0, fun j v hv => (hb0.cell (p := ⟨ga, oa + ci * 4 + j, none⟩) hga).trans (hr j v hv)⟩
  have hGl := H.lt
  have HL : Hid ((∀ wd : World, wd.heap.size = w.heap.size + 2 → G < wd.heap.size) ∧ (∀ wd : World, wd.heap.size = w.heap.size + 2 → w.heap.size < wd.heap.size) ∧ (∀ wd : World, wd.heap.size = w.heap.size + 2 → ga < wd.heap.size)) := Lib.hid ⟨fun wd h => by omega, fun wd h => by omega, fun wd h => by omega⟩
  clear H hR hq hr hb0 h0 h1 h2 h3
  go_enter Try.func27, Try.ntmps27
  go_upto_region 1 with fail
  refine region_plan (.run [0, 1, 2] (.held 3 (.held 4 (.run [5] (.held 6 (.ev 7 (.ev 8 .fin))))))) (fun w' => w'.cell? ⟨G, 1, none⟩ = some (.slice (some ⟨ga, oa, none⟩) np cg) ∧ w'.cell? ⟨w.heap.size, 0, none⟩ = some (.int .i64 ci) ∧ w'.rangeAt ga (oa + ci * 4) [.int .i64 g0, .int .i64 g1, .int .i64 g2, .int .i64 g3]) (by kernel_rfl) HS0.out ?_
  intro wd hwd
  have HB1 := Lib.hid (belowD HB0.out hwd)
  have HM1 := Lib.hid (show Blk wd w.heap.size 3 #[.int .i64 ci] ∧ Blk wd (w.heap.size + 1) 3 #[.int .i64 n] ∧ wd.heap.size = w.heap.size + 2 by rw [hwd]; exact HM0.out)
  have HA1 : Hid (Below wd.heap.size wd (wd.alloc (.cells #[.int .i64 0, .int .i64 0, .int .i64 0, .int .i64 0] 33)) ∧ Blk (wd.alloc (.cells #[.int .i64 0, .int .i64 0, .int .i64 0, .int .i64 0] 33)) wd.heap.size 33 #[.int .i64 0, .int .i64 0, .int .i64 0, .int .i64 0]) := Lib.hid ⟨(Below.refl _ _).alloc (Nat.le_refl _) _, Blk.new _ _ _⟩
  have hS2' := HS0.out
  have HSd : Hid (wd.cell? ⟨G, 1, none⟩ = some (.slice (some ⟨ga, oa, none⟩) np cg) ∧ wd.cell? ⟨w.heap.size, 0, none⟩ = some (.int .i64 ci) ∧ wd.rangeAt ga (oa + ci * 4) [.int .i64 g0, .int .i64 g1, .int .i64 g2, .int .i64 g3]) := Lib.hid (by rw [hwd]; exact hS2')
  clear hS2'
  clear hwd
  refine plan_run fun m hm => ?_
  simp only [pickO, List.filterMap_cons, List.filterMap_nil, List.getElem?_toArray, List.getElem?_cons_zero, List.getElem?_cons_succ] at hm
  subst hm
  go_wp2_with fail
  refine ⟨rfl, by rfl, ?_⟩
  refine plan_held (o := ⟨some 11, _, _, _, _, _⟩) (v := .slice (some ⟨ga, oa, none⟩) np cg) rfl (by rfl) (fun w' hS => ?_) ?_
  · obtain ⟨hS1, hS2, hS3⟩ := hS; go_simp
  try simp only [Act.put, List.setIfInBounds_toArray, List.set_cons_zero, List.set_cons_succ]
  refine plan_held (o := ⟨some 12, _, _, _, _, _⟩) (v := .int .i64 ci) rfl (by rfl) (fun w' hS => ?_) ?_
  · obtain ⟨hS1, hS2, hS3⟩ := hS; go_simp
  try simp only [Act.put, List.setIfInBounds_toArray, List.set_cons_zero, List.set_cons_succ]
  refine plan_run fun m hm => ?_
  simp only [pickO, List.filterMap_cons, List.filterMap_nil, List.getElem?_toArray, List.getElem?_cons_zero, List.getElem?_cons_succ] at hm
  subst hm
  go_wp2_with fail
  refine ⟨rfl, by rfl, ?_⟩
  refine plan_held (o := ⟨some 14, _, _, _, _, _⟩) (v := .agg #[.int .i64 g0, .int .i64 g1, .int .i64 g2, .int .i64 g3]) rfl (by rfl) (fun w' hS => ?_) ?_
  · obtain ⟨hS1, hS2, hS3⟩ := hS; exact exec_load_mid9 33 (.tmp 13) rfl ga (oa + ci * 4) rfl [.int .i64 g0, .int .i64 g1, .int .i64 g2, .int .i64 g3] _ hS3 Try.underlying33 rfl (by kernel_rfl)
  try simp only [Act.put, List.setIfInBounds_toArray, List.set_cons_zero, List.set_cons_succ]
  refine plan_ev fun m hm => ?_
  simp only [pickO, List.filterMap_cons, List.filterMap_nil, List.getElem?_toArray, List.getElem?_cons_zero, List.getElem?_cons_succ] at hm
  subst hm
  go_wp2_with fail
  refine ⟨rfl, ⟨(HA1.out.1.cell (p := ⟨G, 1, none⟩) (HL.out.1 _ HM1.out.2.2)).trans HSd.out.1, (HA1.out.1.cell (p := ⟨w.heap.size, 0, none⟩) (HL.out.2.1 _ HM1.out.2.2)).trans HSd.out.2.1, fun j v hv => (HA1.out.1.cell (p := ⟨ga, oa + ci * 4 + j, none⟩) (HL.out.2.2 _ HM1.out.2.2)).trans (HSd.out.2.2 j v hv)⟩, ?_⟩
  try simp only [Act.put, List.setIfInBounds_toArray, List.set_cons_zero, List.set_cons_succ]
  refine plan_ev fun m hm => ?_
  simp only [pickO, List.filterMap_cons, List.filterMap_nil, List.getElem?_toArray, List.getElem?_cons_zero, List.getElem?_cons_succ] at hm
  subst hm
  refine wpList_store_far rfl 33 (.tmp 7) (.tmp 14) rfl wd.heap.size #[.int .i64 g0, .int .i64 g1, .int .i64 g2, .int .i64 g3] #[.int .i64 0, .int .i64 0, .int .i64 0, .int .i64 0] 33 rfl rfl HA1.out.2 (by kernel_rfl) rfl (by simp [Value.oneCell']) ?_
  intro wS hS2 hf hb hsz _
  have HBS := Lib.hid (hb w.heap.size w HB1.out.size (HB1.out.trans (HA1.out.1.mono HB1.out.size)))
  have HBW := Lib.hid (hb wd.heap.size wd (Nat.le_refl _) HA1.out.1)
  have HS2 := Lib.hid hS2
  clear hS2 hf hb hsz
  go_wp2_with fail
  refine ⟨rfl, ⟨(HBW.out.cell (p := ⟨G, 1, none⟩) (HL.out.1 _ HM1.out.2.2)).trans HSd.out.1, (HBW.out.cell (p := ⟨w.heap.size, 0, none⟩) (HL.out.2.1 _ HM1.out.2.2)).trans HSd.out.2.1, fun j v hv => (HBW.out.cell (p := ⟨ga, oa + ci * 4 + j, none⟩) (HL.out.2.2 _ HM1.out.2.2)).trans (HSd.out.2.2 j v hv)⟩, ?_⟩
  try simp only [Act.put, List.setIfInBounds_toArray, List.set_cons_zero, List.set_cons_succ]
  refine plan_fin ?_
  go_wp2_with fail
  go_ret
  exact ⟨w.heap.size, w.heap.size + 1, wd.heap.size, rfl, Nat.le_refl _, by omega, HB1.out.size, HM1.out.1.bel HBW.out, HM1.out.2.1.bel HBW.out, HS2.out, HBS.out⟩
end Go.Proofs.Ytjfnlgmllhjonaa
