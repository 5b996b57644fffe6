/- The document's Scan, of one component (gen_frt.py). No condition. -/
import Derived.Test.YtjfnlgmllhjonaaFrS
import Derived.Test.YtjfnlgmllhjonaaFrQ
import Derived.Test.YtjfnlgmllhjonaaFrK
import Derived.Test.YtjfnlgmllhjonaaFrM
import Derived.Test.YtjfnlgmllhjonaaOwnC
namespace Go.Proofs.Ytjfnlgmllhjonaa
open Go.RowKit
set_option linter.unusedSimpArgs false
set_option linter.unusedVariables false
set_option maxRecDepth 100000
def rsC (x : Int × Spt) : List Value := [.int .i64 x.1, .int .i64 x.2.c, .int .i64 x.2.r, .int .i64 x.2.k]
theorem rsC_ok : CellsOf rsC 4 := ⟨fun x => rfl, fun x u hu => by simp only [rsC, List.mem_cons, List.not_mem_nil, or_false] at hu; rcases hu with rfl | rfl | rfl | rfl <;> rfl⟩
/-- The first r rows, and k blocks of the next. -/
def rowL (c0 oc r k : Nat) : List (Int × Spt) := refL1 c0 oc r ++ (List.range k).map fun (c : Nat) => ((((r * oc + c : Nat)) : Int), (⟨c0, r, c⟩ : Spt))
theorem rowL_zero (c0 oc r : Nat) : rowL c0 oc r 0 = refL1 c0 oc r := by simp [rowL]
theorem rowL_full (c0 oc r : Nat) : rowL c0 oc r oc = refL1 c0 oc (r + 1) := by simp [rowL, refL1, List.range_succ, List.flatMap_append]
theorem rowL_next (c0 oc r k : Nat) : rowL c0 oc r (k + 1) = rowL c0 oc r k ++ [((((r * oc + k : Nat)) : Int), (⟨c0, r, k⟩ : Spt))] := by simp [rowL, List.range_succ]
theorem refL1_len (c0 oc r : Nat) : (refL1 c0 oc r).length = r * oc := by
  induction r with
  | zero => simp [refL1]
  | succ r ih => rw [← rowL_full, rowL, List.length_append, ih, List.length_map, List.length_range, Nat.succ_mul]
theorem rowL_len (c0 oc r k : Nat) : (rowL c0 oc r k).length = r * oc + k := by rw [rowL, List.length_append, refL1_len, List.length_map, List.length_range]
set_option maxHeartbeats 1000000 in
theorem rscan_no (w : World) (uw uh ac dn : Int) (pv : Value) (Ag C : Option Addr) (ng cg m cc : Nat) (f : Nat → Int) (hC : RdZ w C m f) (hm : m ≤ 1000000) (hno : risesB ng m f = false) :
    Calls Try.prog 18 #[.agg (rfC uw uh ac dn pv (.slice Ag ng cg)), .slice C m cc] w fun e w' => e = .returned (.slice none 0 0) ∧ Below w.heap.size w w' := by
  have HF0 : Hid (Below w.heap.size w (w.alloc (.cells (rfC uw uh ac dn pv (.slice Ag ng cg)) 39))) := Lib.hid ((Below.refl _ _).alloc (Nat.le_refl _) _)
  have HR := Lib.hid fun w1 (hb : Below w.heap.size w w1) => rises_walk w1 uw uh ac dn pv Ag C ng cg m cc f (hC.bel hb) hm
  rw [hno] at HR
  clear hC hno
  unfold rfC at *
  go_enter Try.func18, Try.ntmps18
  go_wp2_with (go_at_call 19; refine (HR.out _ HF0.out).mono ?_; rintro e w1 ⟨rfl, hb1⟩; have HB1 := Lib.hid (HF0.out.trans (hb1.mono (by simp))); clear hb1)
  go_ret
  exact ⟨rfl, HB1.out⟩
set_option maxHeartbeats 1000000 in
theorem rscan_one (w : World) (uw uh ac dn : Int) (pv : Value) (Ag C : Option Addr) (ng cg cc : Nat) (f : Nat → Int) (c0 oc ow : Nat) (gr : Nat → Nat → Int) (hC : RdZ w C 1 f) (hf : f 0 = c0) (hr : risesB ng 1 f = true) (hG : RdS w Ag ng 4 gr) (hoc : gr c0 2 = oc) (how : gr c0 3 = ow) (hb1 : oc ≤ 10000) (hb2 : ow ≤ 10000) (hcn : c0 < ng) :
    Calls Try.prog 18 #[.agg (rfC uw uh ac dn pv (.slice Ag ng cg)), .slice C 1 cc] w fun e w' => ∃ v, e = .returned v ∧ OwnC rsC 4 w' w.heap.size 59 v (refL1 c0 oc ow) ∧ Below w.heap.size w w' := by
  obtain ⟨gc, fc, rfl, hgc, hq0⟩ := hC 0 (by omega)
  obtain ⟨ga, oa, rfl, hga, hqg⟩ := hG c0 hcn
  obtain ⟨g0, h0⟩ : ∃ z, z = gr c0 0 := ⟨_, rfl⟩
  obtain ⟨g1, h1⟩ : ∃ z, z = gr c0 1 := ⟨_, rfl⟩
  have HR := Lib.hid fun w1 (hb : Below w.heap.size w w1) => rises_walk w1 uw uh ac dn pv (some ⟨ga, oa, none⟩) (some ⟨gc, fc, none⟩) ng cg 1 cc f (hC.bel hb) (by omega)
  rw [hr] at HR
  have hF : Blk (w.alloc (.cells (rfC uw uh ac dn pv (.slice (some ⟨ga, oa, none⟩) ng cg)) 39)) w.heap.size 39 (rfC uw uh ac dn pv (.slice (some ⟨ga, oa, none⟩) ng cg)) := Blk.new _ _ _
  have hF0 : Below w.heap.size w (w.alloc (.cells (rfC uw uh ac dn pv (.slice (some ⟨ga, oa, none⟩) ng cg)) 39)) := (Below.refl _ _).alloc (Nat.le_refl _) _
  have hrg : w.rangeAt ga (oa + c0 * 4) [.int .i64 g0, .int .i64 g1, .int .i64 oc, .int .i64 ow] := by
    have t0 := hqg 0 (by omega)
    have t1 := hqg 1 (by omega)
    have t2 := hqg 2 (by omega)
    have t3 := hqg 3 (by omega)
    rw [← h0] at t0
    rw [← h1] at t1
    rw [hoc] at t2
    rw [how] at t3
    intro j v hv
    match j, hv with
    | 0, hv => cases hv; exact t0
    | 1, hv => cases hv; exact t1
    | 2, hv => cases hv; exact t2
    | 3, hv => cases hv; exact t3
    | j + 4, hv => cases hv
  rw [hf] at hq0
  have HF0 := Lib.hid hF0
  have HSW : Hid (∀ w1, Below (w.heap.size + 1) (w.alloc (.cells (rfC uw uh ac dn pv (.slice (some ⟨ga, oa, none⟩) ng cg)) 39)) w1 → (w1.cell? ⟨w.heap.size, 5, none⟩ = some (.slice (some ⟨ga, oa, none⟩) ng cg) ∧ w1.cell? ⟨gc, fc, none⟩ = some (.int .i64 c0) ∧ w1.rangeAt ga (oa + c0 * 4) [.int .i64 g0, .int .i64 g1, .int .i64 oc, .int .i64 ow])) := Lib.hid fun w1 hb => ⟨(hb.cell (p := ⟨w.heap.size, 5, none⟩) (Nat.lt_succ_self _)).trans (hF.cell 5), ((hF0.trans (hb.mono (Nat.le_succ _))).cell (p := ⟨gc, fc, none⟩) hgc).trans hq0, fun j v hv => ((hF0.trans (hb.mono (Nat.le_succ _))).cell (p := ⟨ga, oa + c0 * 4 + j, none⟩) hga).trans (hrg j v hv)⟩
  have HQC := Lib.hid hq0
  have HGL := Lib.hid (show gc < w.heap.size ∧ ga < w.heap.size from ⟨hgc, hga⟩)
  clear hC hG hqg hq0 hr hF hF0 hrg hf hoc how h0 h1 hgc hga
  unfold rfC at *
  go_enter Try.func18, Try.ntmps18
  go_upto_region 5 with (go_at_call 19; refine (HR.out _ HF0.out).mono ?_; rintro e w1 ⟨rfl, hb1⟩; have HB1 := Lib.hid (HF0.out.trans (hb1.mono (by simp))); have HS0 := Lib.hid (HSW.out w1 (hb1.mono (by simp))); have HL0 : Hid (w.heap.size < w1.heap.size ∧ gc < w1.heap.size ∧ ga < w1.heap.size) := Lib.hid (by have := hb1.size; simp at this; have := HGL.out; omega); clear hb1)
  refine region_plan (.run [0] (.held 1 (.run [2, 3] (.held 4 (.run [5] (.held 6 (.ev 7 (.ev 8 .fin)))))))) (fun w' => w'.cell? ⟨w.heap.size, 5, none⟩ = some (.slice (some ⟨ga, oa, none⟩) ng cg) ∧ w'.cell? ⟨gc, fc, none⟩ = some (.int .i64 c0) ∧ w'.rangeAt ga (oa + c0 * 4) [.int .i64 g0, .int .i64 g1, .int .i64 oc, .int .i64 ow]) (by kernel_rfl) HS0.out ?_
  intro wd hwd
  have HB2 := Lib.hid (belowD HB1.out hwd)
  have hSd0 := HS0.out
  have HSd : Hid (wd.cell? ⟨w.heap.size, 5, none⟩ = some (.slice (some ⟨ga, oa, none⟩) ng cg) ∧ wd.cell? ⟨gc, fc, none⟩ = some (.int .i64 c0) ∧ wd.rangeAt ga (oa + c0 * 4) [.int .i64 g0, .int .i64 g1, .int .i64 oc, .int .i64 ow]) := Lib.hid (by rw [hwd]; exact hSd0)
  have HL : Hid (w.heap.size < wd.heap.size ∧ gc < wd.heap.size ∧ ga < wd.heap.size) := Lib.hid (by rw [hwd]; exact HL0.out)
  have HA1 : Hid (Below wd.heap.size wd (wd.alloc (.cells #[.int .i64 0, .int .i64 0, .int .i64 0, .int .i64 0] 43)) ∧ Blk (wd.alloc (.cells #[.int .i64 0, .int .i64 0, .int .i64 0, .int .i64 0] 43)) wd.heap.size 43 #[.int .i64 0, .int .i64 0, .int .i64 0, .int .i64 0]) := Lib.hid ⟨(Below.refl _ _).alloc (Nat.le_refl _) _, Blk.new _ _ _⟩
  clear hSd0
  clear hwd
  refine plan_run fun m hm => ?_
  simp only [pickO, List.filterMap_cons, List.filterMap_nil, List.getElem?_toArray, List.getElem?_cons_zero, List.getElem?_cons_succ] at hm
  subst hm
  go_wp2_with fail
  refine ⟨rfl, by rfl, ?_⟩
  refine plan_held (o := ⟨some 23, _, _, _, _, _⟩) (v := .slice (some ⟨ga, oa, none⟩) ng cg) rfl (by rfl) (fun w' hS => ?_) ?_
  · obtain ⟨hS1, hS2, hS3⟩ := hS; go_simp
  try simp only [Act.put, List.setIfInBounds_toArray, List.set_cons_zero, List.set_cons_succ]
  refine plan_run fun m hm => ?_
  simp only [pickO, List.filterMap_cons, List.filterMap_nil, List.getElem?_toArray, List.getElem?_cons_zero, List.getElem?_cons_succ] at hm
  subst hm
  go_wp2_with fail
  refine ⟨rfl, by rfl, ?_⟩
  refine plan_held (o := ⟨some 26, _, _, _, _, _⟩) (v := .int .i64 c0) rfl (by rfl) (fun w' hS => ?_) ?_
  · obtain ⟨hS1, hS2, hS3⟩ := hS; go_simp
  try simp only [Act.put, List.setIfInBounds_toArray, List.set_cons_zero, List.set_cons_succ]
  refine plan_run fun m hm => ?_
  simp only [pickO, List.filterMap_cons, List.filterMap_nil, List.getElem?_toArray, List.getElem?_cons_zero, List.getElem?_cons_succ] at hm
  subst hm
  go_wp2_with fail
  refine ⟨rfl, by rfl, ?_⟩
  refine plan_held (o := ⟨some 28, _, _, _, _, _⟩) (v := .agg #[.int .i64 g0, .int .i64 g1, .int .i64 oc, .int .i64 ow]) rfl (by rfl) (fun w' hS => ?_) ?_
  · obtain ⟨hS1, hS2, hS3⟩ := hS; exact exec_load_mid9 43 (.tmp 27) rfl ga (oa + c0 * 4) rfl [.int .i64 g0, .int .i64 g1, .int .i64 oc, .int .i64 ow] _ hS3 Try.underlying43 rfl (by kernel_rfl)
  try simp only [Act.put, List.setIfInBounds_toArray, List.set_cons_zero, List.set_cons_succ]
  refine plan_ev fun m hm => ?_
  simp only [pickO, List.filterMap_cons, List.filterMap_nil, List.getElem?_toArray, List.getElem?_cons_zero, List.getElem?_cons_succ] at hm
  subst hm
  go_wp2_with fail
  refine ⟨rfl, ⟨(HA1.out.1.cell (p := ⟨w.heap.size, 5, none⟩) HL.out.1).trans HSd.out.1, (HA1.out.1.cell (p := ⟨gc, fc, none⟩) HL.out.2.1).trans HSd.out.2.1, fun j v hv => (HA1.out.1.cell (p := ⟨ga, oa + c0 * 4 + j, none⟩) HL.out.2.2).trans (HSd.out.2.2 j v hv)⟩, ?_⟩
  try simp only [Act.put, List.setIfInBounds_toArray, List.set_cons_zero, List.set_cons_succ]
  refine plan_ev fun m hm => ?_
  simp only [pickO, List.filterMap_cons, List.filterMap_nil, List.getElem?_toArray, List.getElem?_cons_zero, List.getElem?_cons_succ] at hm
  subst hm
  refine wpList_store_far rfl 43 (.tmp 6) (.tmp 28) rfl wd.heap.size #[.int .i64 g0, .int .i64 g1, .int .i64 oc, .int .i64 ow] #[.int .i64 0, .int .i64 0, .int .i64 0, .int .i64 0] 43 rfl rfl HA1.out.2 (by kernel_rfl) rfl (by simp [Value.oneCell']) ?_
  intro wS hS2 hf hb hsz _
  have HBS := Lib.hid (hb w.heap.size w HB2.out.size (HB2.out.trans (HA1.out.1.mono HB2.out.size)))
  have HBW := Lib.hid (hb wd.heap.size wd (Nat.le_refl _) HA1.out.1)
  have HS2 := Lib.hid hS2
  clear hS2 hf hb hsz
  go_wp2_with fail
  refine ⟨rfl, ⟨(HBW.out.cell (p := ⟨w.heap.size, 5, none⟩) HL.out.1).trans HSd.out.1, (HBW.out.cell (p := ⟨gc, fc, none⟩) HL.out.2.1).trans HSd.out.2.1, fun j v hv => (HBW.out.cell (p := ⟨ga, oa + c0 * 4 + j, none⟩) HL.out.2.2).trans (HSd.out.2.2 j v hv)⟩, ?_⟩
  try simp only [Act.put, List.setIfInBounds_toArray, List.set_cons_zero, List.set_cons_succ]
  refine plan_fin ?_
  go_wp2_with fail
  have Hwd.heap.size : Hid (Blk wS wd.heap.size 43 #[.int .i64 g0, .int .i64 g1, .int .i64 oc, .int .i64 ow] ∧ Below w.heap.size w wS) := Lib.hid ⟨HS2.out, HBS.out⟩
  clear HS2 HBS HBW HA1 HSd HL HB2
  go_loopw [5, 7] (fun t5 t7 wr => ∃ r : Nat, r ≤ ow ∧ t7 = .int .i64 r ∧ Hid (OwnC rsC 4 wr w.heap.size 59 t5 (refL1 c0 oc r) ∧ Blk wr wd.heap.size 43 #[.int .i64 g0, .int .i64 g1, .int .i64 oc, .int .i64 ow] ∧ Below w.heap.size w wr)) (fun _ t _ => ow - (intOf t).toNat)
  case atStart => exact ⟨0, by omega, rfl, Lib.hid ⟨OwnC.nil _ _ _, Hwd.heap.size.out.1, Hwd.heap.size.out.2⟩⟩
  case round =>
    obtain ⟨r, hr, rfl, HI⟩ := hrel
    have HO := Lib.hid HI.out.1
    have HU := Lib.hid HI.out.2.1
    have HB := Lib.hid HI.out.2.2
    have u3 : wr.cell? ⟨wd.heap.size, 3, none⟩ = some (.int .i64 ow) := HU.out.cell 3
    clear HI Hwd.heap.size
    by_cases hlt : r < ow
    case neg =>
      obtain rfl : r = ow := by omega
      go_wp2_with fail
      go_ret
      exact ⟨_, rfl, HO.out, HB.out⟩
    case pos =>
    go_wp2_with fail
    go_loopw [5, 8] (fun t5 t8 wr => ∃ k : Nat, k ≤ oc ∧ t8 = .int .i64 k ∧ Hid (OwnC rsC 4 wr w.heap.size 59 t5 (rowL c0 oc r k) ∧ Blk wr wd.heap.size 43 #[.int .i64 g0, .int .i64 g1, .int .i64 oc, .int .i64 ow] ∧ Below w.heap.size w wr)) (fun _ t _ => oc - (intOf t).toNat)
    case atStart => exact ⟨0, by omega, rfl, Lib.hid ⟨by rw [rowL_zero]; exact HO.out, HU.out, HB.out⟩⟩
    case round =>
      obtain ⟨k, hk, rfl, HI⟩ := hrel
      have HO2 := Lib.hid HI.out.1
      have HU2 := Lib.hid HI.out.2.1
      have HB2 := Lib.hid HI.out.2.2
      have u2 : wr.cell? ⟨wd.heap.size, 2, none⟩ = some (.int .i64 oc) := HU2.out.cell 2
      clear HI HO HU HB u3
      by_cases hkt : k < oc
      case neg =>
        obtain rfl : k = oc := by omega
        go_wp2_with fail
        go_roundw
        case rel => exact ⟨r + 1, by omega, by go_num, Lib.hid ⟨by rw [← rowL_full]; exact HO2.out, HU2.out, HB2.out⟩⟩
        case measure => simp [intOf]; omega
      case pos =>
        have q0 : wr.cell? ⟨gc, fc, none⟩ = some (.int .i64 c0) := (HB2.out.cell (p := ⟨gc, fc, none⟩) HGL.out.1).trans HQC.out
        obtain ⟨A, cp, rfl, hcp⟩ := HO2.out.form
        obtain ⟨N, hN⟩ : ∃ z, z = (rowL c0 oc r k).length := ⟨_, rfl⟩
        have hN1 : N = r * oc + k := by rw [hN, rowL_len]
        have hN2 : N ≤ 100010000 := by
          have := Nat.mul_le_mul (show r ≤ 10000 by omega) (show oc ≤ 10000 by omega)
          omega
        have HLE : Hid ((rowL c0 oc r k).length < 1000000000) := Lib.hid (by omega)
        have HNX : Hid (rowL c0 oc r k ++ [((N : Int), (⟨c0, r, k⟩ : Spt))] = rowL c0 oc r (k + 1)) := Lib.hid (by rw [rowL_next, hN1])
        rw [← hN] at HO2 hcp ⊢
        clear hN hN1
        go_wp2_with (first | (at_builtin; refine appC (q := 4) (by_ := 32) (cs := #[.int .i64 (N : Int), .int .i64 (c0 : Int), .int .i64 (r : Int), .int .i64 (k : Int)]) ((N : Int), (⟨c0, r, k⟩ : Spt)) rsC_ok Try.underlying55 (by kernel_rfl) (by decide) (by decide) rfl (.tmp 41) (.tmp 50) rfl rfl rfl rfl HO2.out HLE.out HB2.out.size ?_; intro v9 w9 hO9 hK9 hb9; have HU9 := Lib.hid (hK9 _ _ _ (by decide) HU2.out); have HO9 := Lib.hid (HNX.out ▸ hO9); have HB9 := Lib.hid (HB2.out.trans hb9); clear hO9 hK9 hb9 q0 u2))
        go_roundw
        case rel => exact ⟨k + 1, by omega, by go_num, Lib.hid ⟨HO9.out, HU9.out, HB9.out⟩⟩
        case measure => simp [intOf]; omega
end Go.Proofs.Ytjfnlgmllhjonaa
