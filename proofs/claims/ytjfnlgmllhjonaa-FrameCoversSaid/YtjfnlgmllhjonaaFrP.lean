/- Clone of whole numbers, Count, Scan's maker (gen_frp.py). No condition. -/
import Derived.Test.YtjfnlgmllhjonaaFrO
import Derived.Test.YtjfnlgmllhjonaaFrB
namespace Go.Proofs.Ytjfnlgmllhjonaa
open Go.RowKit
set_option linter.unusedSimpArgs false
set_option linter.unusedVariables false
set_option maxRecDepth 100000
theorem cloneN (w : World) (g off n c : Nat) (f : Nat → Nat) (hn : n ≤ 1000) (hR : RdN w (some ⟨g, off, none⟩) n f) : Calls Try.prog 24 #[.slice (some ⟨g, off, none⟩) n c] w fun e w' => Hid (∃ v', e = .returned v' ∧ OwnS w' w.heap.size 3 1 v' n (fun i _ => (f i : Int)) ∧ Below w.heap.size w w') := by
  have hR2 : RdS w (some ⟨g, off, none⟩) n 1 (fun i _ => (f i : Int)) := fun i hi => by
    obtain ⟨g', off', h1, h2, h3⟩ := hR i hi
    refine ⟨g', off', h1, h2, fun j hj => ?_⟩
    obtain rfl : j = 0 := by omega
    rw [Nat.mul_one, Nat.add_zero]
    exact h3
  have HR := Lib.hid hR2; clear hR hR2
  have hnil : ∀ (W : World), (binOp .eql 45 (.slice (some ⟨g, off, none⟩) n c) (.slice none 0 0)).run Try.prog W = .ok (.bool false) W := fun W => Lib.run_eql_slice_nil W _ _ _ n c 0 0 Try.underlying45
  go_enter Try.func24, Try.ntmps24
  go_wp2_with (first | (at_builtin; refine appS0 (q := 1) (by_ := 8) Try.underlying45 (by kernel_rfl) (by decide) (by decide) rfl (.tmp 5) (.tmp 6) rfl rfl rfl (base := w.heap.size) (World.ownsRow_made w #[] 0 (Nat.le_refl _) (by decide) rfl) (HR.out.bel ((Below.refl _ _).alloc (Nat.le_refl _) _)) (by omega) (by simp) ?_; intro v1 w1 hO1 _ hb1; have HO1 := Lib.hid hO1; have HB1 := Lib.hid (((Below.refl w.heap.size w).alloc (Nat.le_refl _) _).trans hb1); clear hO1 hb1))
  go_ret
  exact Lib.hid ⟨v1, rfl, HO1.out, HB1.out⟩
theorem RdS.rdN {w : World} {n : Nat} {A : Option Addr} {f : Nat → Nat} (h : RdS w A n 1 (fun i _ => (f i : Int))) : RdN w A n f := fun i hi => by
  obtain ⟨g, off, h1, h2, h3⟩ := h i hi
  have := h3 0 (by decide)
  rw [Nat.mul_one, Nat.add_zero] at this
  exact ⟨g, off, h1, h2, this⟩
/-- Components that rise. -/
structure RiseN (np m : Nat) (cN : Nat → Nat) : Prop where
  m0 : 0 < m
  lt : ∀ j, j < m → cN j < np
  up : ∀ j, j + 1 < m → cN j < cN (j + 1)
def lastZ (cN : Nat → Nat) : Nat → Int
  | 0 => -1
  | j + 1 => cN j
set_option maxHeartbeats 1000000 in
theorem count_ok (w : World) (G : Nat) (pv : Value) (Ag C : Option Addr) (np cg m cc : Nat) (gr : Nat → Nat → Int) (cN : Nat → Nat) (ac dn uw uh tot iu : Int) (H : Blk w G 67 (frC pv (.slice Ag np cg) ac dn uw uh tot iu)) (hR : RdS w Ag np 4 gr) (hC : RdN w C m cN) (hU : RiseN np m cN) (hm : m ≤ 1000000) (hnp : np ≤ 1000000)
    (ha : 0 ≤ ac ∧ ac ≤ 1000000) (hd : 0 ≤ dn ∧ dn ≤ 1000000) (hg : 0 ≤ gr (cN 0) 2 ∧ gr (cN 0) 2 ≤ 1000000 ∧ 0 ≤ gr (cN 0) 3 ∧ gr (cN 0) 3 ≤ 1000000) :
    Calls Try.prog 17 #[.pointer (some ⟨G, 0, none⟩), .slice C m cc] w fun e w' => e = .returned (.tuple #[.int .i64 (if m = 1 then gr (cN 0) 2 * gr (cN 0) 3 else ac * dn), .int .i64 0]) ∧ Below w.heap.size w w' := by
  have HC := Lib.hid hC; have HU := Lib.hid hU; have HR := Lib.hid hR; have HH := Lib.hid H; have HGG := Lib.hid hg
  have q1 : w.cell? ⟨G, 1, none⟩ = some (.slice Ag np cg) := H.cell 1
  have q2 : w.cell? ⟨G, 2, none⟩ = some (.int .i64 ac) := H.cell 2
  have q3 : w.cell? ⟨G, 3, none⟩ = some (.int .i64 dn) := H.cell 3
  have hm0 := hU.m0
  have hmd := mul_rng9 ha.1 ha.2 hd.1 hd.2
  have hgd := mul_rng9 hg.1 hg.2.1 hg.2.2.1 hg.2.2.2
  have dm : ((m : Int) == 0) = false := by simp; omega
  obtain ⟨res, hres⟩ : ∃ z, z = (if m = 1 then gr (cN 0) 2 * gr (cN 0) 3 else ac * dn) := ⟨_, rfl⟩
  rw [← hres]
  have HRES := Lib.hid hres
  clear hC hU hR H hg hres
  go_enter Try.func17, Try.ntmps17
  go_wp2_with fail
  clear dm
  go_loopw [6, 19] (fun t6 t19 wr => ∃ j : Nat, j ≤ m ∧ t6 = .int .i64 (lastZ cN j) ∧ t19 = .int .i64 j ∧ wr = w) (fun _ t _ => m - (intOf t).toNat)
  case atStart => exact ⟨0, by omega, rfl, rfl, rfl⟩
  case round =>
    obtain ⟨j, hj, rfl, rfl, rfl⟩ := hrel
    by_cases hjm : j < m
    case pos =>
      obtain ⟨gc, oc, hCe, hgc, qc⟩ := HC.out j hjm
      subst hCe
      have hl := HU.out.lt j hjm
      obtain ⟨c, hc⟩ : ∃ z, z = cN j := ⟨_, rfl⟩
      obtain ⟨z, hz⟩ : ∃ z, z = lastZ cN j := ⟨_, rfl⟩
      have hup : z < (c : Int) := by
        rw [hz, hc]
        cases j with
        | zero => show (-1 : Int) < _; omega
        | succ j => show ((cN j : Nat) : Int) < _; have := HU.out.up j hjm; omega
      have HN : Hid ((c : Int) = lastZ cN (j + 1)) := Lib.hid (by rw [hc]; rfl)
      rw [← hc] at qc hl
      rw [← hz]
      have d1 : decide ((c : Int) ≤ z) = false := by simp; omega
      have d2 : decide ((np : Int) ≤ (c : Int)) = false := by simp; omega
      clear hc hz
      go_wp2_with fail
      go_roundw
      case rel => exact ⟨j + 1, by omega, congrArg (Value.int .i64) HN.out, by go_num, by first | rfl | trivial⟩
      case measure => simp [intOf]; omega
    case neg =>
      obtain rfl : m = j := by omega
      by_cases m1 : m = 1
      case pos =>
        obtain rfl := m1
        obtain ⟨gc, oc, hCe, hgc, qc⟩ := HC.out 0 (by decide)
        obtain ⟨ga, oa, hAe, hga, qa⟩ := HR.out (cN 0) (HU.out.lt 0 (by decide))
        subst hCe hAe
        have hnp0 := HU.out.lt 0 (by decide)
        have hGl := HH.out.lt
        obtain ⟨c0, hc0⟩ : ∃ z, z = cN 0 := ⟨_, rfl⟩
        have hgg := HGG.out
        rw [if_pos rfl] at HRES
        rw [← hc0] at qc qa hnp0 hgd hgg HRES
        obtain ⟨g0, h0⟩ : ∃ z, z = gr c0 0 := ⟨_, rfl⟩
        obtain ⟨g1, h1⟩ : ∃ z, z = gr c0 1 := ⟨_, rfl⟩
        obtain ⟨g2, h2⟩ : ∃ z, z = gr c0 2 := ⟨_, rfl⟩
        obtain ⟨g3, h3⟩ : ∃ z, z = gr c0 3 := ⟨_, rfl⟩
        have hr : wr.rangeAt ga (oa + c0 * 4) [.int .i64 g0, .int .i64 g1, .int .i64 g2, .int .i64 g3] := fun j v hv => by
          have hj : j < 4 := by have := (List.getElem?_eq_some_iff.1 hv).1; simpa using this
          have hqj := qa j hj
          rw [← Nat.add_assoc] at hqj
          rw [hqj]
          rcases (show j = 0 ∨ j = 1 ∨ j = 2 ∨ j = 3 by omega) with rfl | rfl | rfl | rfl <;> simp at hv <;> subst hv
          · rw [h0]
          · rw [h1]
          · rw [h2]
          · rw [h3]
        have HG2 : Hid (g2 = gr c0 2 ∧ g3 = gr c0 3) := Lib.hid ⟨h2, h3⟩
        rw [← h2, ← h3] at hgd hgg HRES
        have HS0 : Hid (wr.drew.cell? ⟨G, 1, none⟩ = some (.slice (some ⟨ga, oa, none⟩) np cg) ∧ wr.drew.cell? ⟨gc, oc, none⟩ = some (.int .i64 c0) ∧ wr.drew.rangeAt ga (oa + c0 * 4) [.int .i64 g0, .int .i64 g1, .int .i64 g2, .int .i64 g3]) := Lib.hid ⟨q1, qc, hr⟩
        have HL0 : Hid (G < wr.heap.size ∧ gc < wr.heap.size ∧ ga < wr.heap.size) := Lib.hid ⟨hGl, hgc, hga⟩
        obtain ⟨w, rfl⟩ : ∃ z : World, z = wr := ⟨_, rfl⟩
        clear q1 q2 q3 qc qa hr h0 h1 h2 h3 hc0 HC HR
        go_upto_region 12 with fail
        refine region_plan (.run [0, 1, 2] (.held 3 (.run [4, 5] (.held 6 (.run [7] (.held 8 (.ev 9 (.ev 10 .fin)))))))) (fun w' => w'.cell? ⟨G, 1, none⟩ = some (.slice (some ⟨ga, oa, none⟩) np cg) ∧ w'.cell? ⟨gc, oc, none⟩ = some (.int .i64 c0) ∧ w'.rangeAt ga (oa + c0 * 4) [.int .i64 g0, .int .i64 g1, .int .i64 g2, .int .i64 g3]) (by kernel_rfl) HS0.out ?_
        intro wd hwd
        have HSd : Hid (wd.cell? ⟨G, 1, none⟩ = some (.slice (some ⟨ga, oa, none⟩) np cg) ∧ wd.cell? ⟨gc, oc, none⟩ = some (.int .i64 c0) ∧ wd.rangeAt ga (oa + c0 * 4) [.int .i64 g0, .int .i64 g1, .int .i64 g2, .int .i64 g3]) := Lib.hid (by rw [hwd]; exact HS0.out)
        have HLT : Hid (G < wd.heap.size ∧ gc < wd.heap.size ∧ ga < wd.heap.size) := Lib.hid (by rw [hwd]; exact HL0.out)
        have HB1 := Lib.hid (show Below w.heap.size w wd from hwd ▸ (Below.refl _ w).drew)
        have HA1 : Hid (Below wd.heap.size wd (wd.alloc (.cells #[.int .i64 0, .int .i64 0, .int .i64 0, .int .i64 0] 33)) ∧ Blk (wd.alloc (.cells #[.int .i64 0, .int .i64 0, .int .i64 0, .int .i64 0] 33)) wd.heap.size 33 #[.int .i64 0, .int .i64 0, .int .i64 0, .int .i64 0]) := Lib.hid ⟨(Below.refl _ _).alloc (Nat.le_refl _) _, Blk.new _ _ _⟩
        clear hwd
        refine plan_run fun m hm => ?_
        simp only [pickO, List.filterMap_cons, List.filterMap_nil, List.getElem?_toArray, List.getElem?_cons_zero, List.getElem?_cons_succ] at hm
        subst hm
        go_wp2_with fail
        refine ⟨rfl, by rfl, ?_⟩
        refine plan_held (o := ⟨some 43, _, _, _, _, _⟩) (v := .slice (some ⟨ga, oa, none⟩) np cg) rfl (by rfl) (fun w' hS => ?_) ?_
        · obtain ⟨hS1, hS2, hS3⟩ := hS; go_simp
        try simp only [Act.put, List.setIfInBounds_toArray, List.set_cons_zero, List.set_cons_succ]
        refine plan_run fun m hm => ?_
        simp only [pickO, List.filterMap_cons, List.filterMap_nil, List.getElem?_toArray, List.getElem?_cons_zero, List.getElem?_cons_succ] at hm
        subst hm
        go_wp2_with fail
        refine ⟨rfl, by rfl, ?_⟩
        refine plan_held (o := ⟨some 46, _, _, _, _, _⟩) (v := .int .i64 c0) rfl (by rfl) (fun w' hS => ?_) ?_
        · obtain ⟨hS1, hS2, hS3⟩ := hS; go_simp
        try simp only [Act.put, List.setIfInBounds_toArray, List.set_cons_zero, List.set_cons_succ]
        refine plan_run fun m hm => ?_
        simp only [pickO, List.filterMap_cons, List.filterMap_nil, List.getElem?_toArray, List.getElem?_cons_zero, List.getElem?_cons_succ] at hm
        subst hm
        go_wp2_with fail
        refine ⟨rfl, by rfl, ?_⟩
        refine plan_held (o := ⟨some 48, _, _, _, _, _⟩) (v := .agg #[.int .i64 g0, .int .i64 g1, .int .i64 g2, .int .i64 g3]) rfl (by rfl) (fun w' hS => ?_) ?_
        · obtain ⟨hS1, hS2, hS3⟩ := hS; exact exec_load_mid9 33 (.tmp 47) rfl ga (oa + c0 * 4) rfl [.int .i64 g0, .int .i64 g1, .int .i64 g2, .int .i64 g3] _ hS3 Try.underlying33 rfl (by kernel_rfl)
        try simp only [Act.put, List.setIfInBounds_toArray, List.set_cons_zero, List.set_cons_succ]
        refine plan_ev fun m hm => ?_
        simp only [pickO, List.filterMap_cons, List.filterMap_nil, List.getElem?_toArray, List.getElem?_cons_zero, List.getElem?_cons_succ] at hm
        subst hm
        go_wp2_with fail
        refine ⟨rfl, ⟨(HA1.out.1.cell (p := ⟨G, 1, none⟩) HLT.out.1).trans HSd.out.1, (HA1.out.1.cell (p := ⟨gc, oc, none⟩) HLT.out.2.1).trans HSd.out.2.1, fun j v hv => (HA1.out.1.cell (p := ⟨ga, oa + c0 * 4 + j, none⟩) HLT.out.2.2).trans (HSd.out.2.2 j v hv)⟩, ?_⟩
        try simp only [Act.put, List.setIfInBounds_toArray, List.set_cons_zero, List.set_cons_succ]
        refine plan_ev fun m hm => ?_
        simp only [pickO, List.filterMap_cons, List.filterMap_nil, List.getElem?_toArray, List.getElem?_cons_zero, List.getElem?_cons_succ] at hm
        subst hm
        refine wpList_store_far rfl 33 (.tmp 9) (.tmp 48) rfl wd.heap.size #[.int .i64 g0, .int .i64 g1, .int .i64 g2, .int .i64 g3] #[.int .i64 0, .int .i64 0, .int .i64 0, .int .i64 0] 33 rfl rfl HA1.out.2 (by kernel_rfl) rfl (by simp [Value.oneCell']) ?_
        intro wS hS2 hf hb hsz _
        have HBS := Lib.hid (hb w.heap.size w HB1.out.size (HB1.out.trans (HA1.out.1.mono HB1.out.size)))
        have HBW := Lib.hid (hb wd.heap.size wd (Nat.le_refl _) HA1.out.1)
        have s2 := hS2.cell 2
        have s3 := hS2.cell 3
        clear hS2 hf hb hsz
        go_wp2_with fail
        refine ⟨rfl, ⟨(HBW.out.cell (p := ⟨G, 1, none⟩) HLT.out.1).trans HSd.out.1, (HBW.out.cell (p := ⟨gc, oc, none⟩) HLT.out.2.1).trans HSd.out.2.1, fun j v hv => (HBW.out.cell (p := ⟨ga, oa + c0 * 4 + j, none⟩) HLT.out.2.2).trans (HSd.out.2.2 j v hv)⟩, ?_⟩
        try simp only [Act.put, List.setIfInBounds_toArray, List.set_cons_zero, List.set_cons_succ]
        refine plan_fin ?_
        go_wp2_with fail
        go_ret2
        exact ⟨by rw [HRES.out]; rfl, HBS.out⟩
      case neg =>
        have d1 : ((m : Int) == 1) = false := by simp; omega
        have HM1 := Lib.hid m1
        obtain ⟨w, rfl⟩ : ∃ z : World, z = wr := ⟨_, rfl⟩
        go_upto_region 14 with fail
        clear q1
        refine region_plan (.run [0, 1, 2, 3, 4, 5, 6, 7, 8, 9, 10] .fin) (fun w' => True) (by kernel_rfl) trivial ?_
        intro wd hwd
        have HB1 := Lib.hid (show Below w.heap.size w wd from hwd ▸ (Below.refl _ w).drew)
        have f2 : wd.cell? ⟨G, 2, none⟩ = some (.int .i64 ac) := by rw [hwd]; exact q2
        have f3 : wd.cell? ⟨G, 3, none⟩ = some (.int .i64 dn) := by rw [hwd]; exact q3
        clear hwd
        refine plan_run fun m hm => ?_
        simp only [pickO, List.filterMap_cons, List.filterMap_nil, List.getElem?_toArray, List.getElem?_cons_zero, List.getElem?_cons_succ] at hm
        subst hm
        go_wp2_with fail
        refine ⟨rfl, by rfl, ?_⟩
        refine plan_fin ?_
        go_wp2_with fail
        go_ret2
        exact ⟨by rw [HRES.out, if_neg HM1.out]; rfl, HB1.out⟩
set_option maxHeartbeats 1000000 in
theorem scan_clo (w : World) (G : Nat) (A Ag C : Option Addr) (np cp cg m cc nN : Nat) (p gr : Nat → Nat → Int) (cN : Nat → Nat) (ac dn uw uh tot iu : Int) (H : Blk w G 67 (frC (.slice A np cp) (.slice Ag np cg) ac dn uw uh tot iu)) (hP : RdS w A np 2 p) (hR : RdS w Ag np 4 gr) (hC : RdN w C m cN) (hU : RiseN np m cN) (hm : m ≤ 1000) (hnp : np ≤ 1000000)
    (ha : 0 ≤ ac ∧ ac ≤ 1000000) (hd : 0 ≤ dn ∧ dn ≤ 1000000) (hg : 0 ≤ gr (cN 0) 2 ∧ gr (cN 0) 2 ≤ 1000000 ∧ 0 ≤ gr (cN 0) 3 ∧ gr (cN 0) 3 ≤ 1000000) (hn : (nN : Int) = if m = 1 then gr (cN 0) 2 * gr (cN 0) 3 else ac * dn) :
    Calls Try.prog 16 #[.pointer (some ⟨G, 0, none⟩), .slice C m cc] w fun e w' => ∃ be bn bf bl C2, e = .returned (.func (.func 25) #[] #[.pointer (some ⟨be, 0, none⟩), .pointer (some ⟨bn, 0, none⟩), .pointer (some ⟨bf, 0, none⟩), .pointer (some ⟨bl, 0, none⟩)]) ∧ w.heap.size ≤ be ∧ w.heap.size ≤ bn ∧ w.heap.size ≤ bf ∧ w.heap.size ≤ bl ∧ (∀ g off, C2 = some ⟨g, off, none⟩ → w.heap.size ≤ g) ∧ ScF w' be bn bf bl G 0 nN ac m C2 A Ag p gr cN ∧ Below w.heap.size w w' := by
  obtain ⟨gc, oc, hCe, hgc, _⟩ := hC 0 hU.m0
  subst hCe
  have HH := Lib.hid H; have HP := Lib.hid hP; have HR := Lib.hid hR; have HU := Lib.hid hU
  have HCL := Lib.hid (fun W (hb : Below w.heap.size w W) => cloneN W gc oc m cc cN hm (hC.bel hb))
  have HCT := Lib.hid (fun W C2 c2 (hb : Below w.heap.size w W) (h2 : RdN W C2 m cN) => count_ok W G _ Ag C2 np cg m c2 gr cN ac dn uw uh tot iu (H.bel hb) (hR.bel hb) h2 hU (by omega) hnp ha hd hg)
  rw [← hn] at HCT
  have hb0 : Below w.heap.size w (w.alloc (.cells #[.pointer (some ⟨G, 0, none⟩)] 24)) := (Below.refl _ _).alloc (Nat.le_refl _) _
  have HB0 := Lib.hid hb0
  have HF0 : Hid (Blk (w.alloc (.cells #[.pointer (some ⟨G, 0, none⟩)] 24)) w.heap.size 24 #[.pointer (some ⟨G, 0, none⟩)]) := Lib.hid (Blk.new _ _ _)
  clear H hP hR hC hU ha hd hg hn hb0
  go_enter Try.func16, Try.ntmps16
  go_upto_region 2 with (go_at_call 24; refine (HCL.out _ HB0.out).mono ?_; rintro ex w2 h2; obtain ⟨v2, rfl, hO2, hb2⟩ := h2.out; clear h2; obtain ⟨C2, c2, rfl, hc2, hr2⟩ := hO2.form; have HO2 := Lib.hid hO2; have HN2 := Lib.hid hr2.rdN; have HB2 := Lib.hid (HB0.out.trans (hb2.mono HB0.out.size)); have HF2 := Lib.hid (HF0.out.bel hb2); clear hO2 hc2 hr2 hb2)
  have hal : Below w2.heap.size w2 (w2.alloc (.cells #[.slice C2 m c2] 45)) := (Below.refl _ _).alloc (Nat.le_refl _) _
  have HB3 := Lib.hid (HB2.out.trans (hal.mono HB2.out.size)); have HF3 := Lib.hid (HF2.out.bel hal); have HN3 := Lib.hid (HN2.out.bel hal)
  have HL3 : Hid (Blk (w2.alloc (.cells #[.slice C2 m c2] 45)) w2.heap.size 45 #[.slice C2 m c2]) := Lib.hid (Blk.new _ _ _)
  obtain ⟨w3, hw3⟩ : ∃ z, z = w2.alloc (.cells #[.slice C2 m c2] 45) := ⟨_, rfl⟩
  rw [← hw3] at HB3 HF3 HN3 HL3 ⊢
  have q2 := HF3.out.cell 0
  have q5 := HL3.out.cell 0
  clear hal hw3
  go_wp2_with (go_at_call 17; refine (HCT.out w3 C2 c2 HB3.out HN3.out).mono ?_; rintro ex w4 ⟨rfl, hb4⟩; have HB4 := Lib.hid hb4; clear hb4 q2 q5)
  go_ret
  have h6 : Below w4.heap.size w4 (w4.alloc (.cells #[.int .i64 nN] 3)) := (Below.refl _ _).alloc (Nat.le_refl _) _
  have h7 : Below w4.heap.size w4 ((w4.alloc (.cells #[.int .i64 nN] 3)).alloc (.cells #[.int .i64 0] 25)) := h6.alloc h6.size _
  have hA := HB4.out.trans (h7.mono HB4.out.size)
  have hW := HB3.out.trans (hA.mono HB3.out.size)
  refine ⟨w4.heap.size + 1, w4.heap.size, w.heap.size, w2.heap.size, C2, rfl, by have := HB3.out.size; have := HB4.out.size; omega, by have := HB3.out.size; have := HB4.out.size; omega, Nat.le_refl _, HB2.out.size, fun g off e => ?_, ⟨Blk.nw (by simp), (Blk.new _ _ _).alloc _, HF3.out.bel hA, ⟨c2, HL3.out.bel hA⟩, ⟨np, cp, cg, dn, uw, uh, tot, iu, HH.out.bel hW, HP.out.bel hW, HR.out.bel hW, HU.out.lt⟩, HN3.out.bel hA⟩, hW⟩
  subst e
  have h1 := (HO2.out.lt g rfl).1
  have h2 := HB0.out.size
  omega
end Go.Proofs.Ytjfnlgmllhjonaa
