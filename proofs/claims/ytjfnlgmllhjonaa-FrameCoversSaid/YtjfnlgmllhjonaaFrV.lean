/- The document's Scan, of several components (gen_fru.py). No condition. -/
import Derived.Test.YtjfnlgmllhjonaaFrT
import Derived.Test.YtjfnlgmllhjonaaFrU
namespace Go.Proofs.Ytjfnlgmllhjonaa
open Go.RowKit
set_option linter.unusedSimpArgs false
set_option linter.unusedVariables false
set_option maxRecDepth 100000
set_option maxHeartbeats 2000000 in
theorem rscan_many (w : World) (uw uh : Int) (ac dn : Nat) (Ap Ag C : Option Addr) (np cp ng cg m cc : Nat) (f : Nat → Int) (cN : Nat → Nat) (p : Nat → Nat → Int) (hC : RdZ w C m f) (hf : ∀ j, j < m → f j = cN j ∧ cN j < np) (hr : risesB ng m f = true) (hm1 : m ≠ 1) (hm : m ≤ 4) (hP : RdS w Ap np 2 p) (hp : ∀ j, j < m → 1 ≤ p (cN j) 0 ∧ p (cN j) 0 ≤ 4 ∧ 1 ≤ p (cN j) 1 ∧ p (cN j) 1 ≤ 4) (hac : ac ≤ 2048) (hdn : dn ≤ 2048) :
    Calls Try.prog 18 #[.agg (rfC uw uh ac dn (.slice Ap np cp) (.slice Ag ng cg)), .slice C m cc] w fun e w' => ∃ v, e = .returned v ∧ OwnC rsC 4 w' w.heap.size 59 v (refLn p cN m ac dn) ∧ Below w.heap.size w w' := by
  have dm : ((m : Int) == 1) = false := by simp; omega
  have HR := Lib.hid fun w1 (hb : Below w.heap.size w w1) => rises_walk w1 uw uh ac dn (.slice Ap np cp) Ag C ng cg m cc f (hC.bel hb) (by omega)
  rw [hr] at HR
  have hF : Blk (w.alloc (.cells (rfC uw uh ac dn (.slice Ap np cp) (.slice Ag ng cg)) 39)) w.heap.size 39 (rfC uw uh ac dn (.slice Ap np cp) (.slice Ag ng cg)) := Blk.new _ _ _
  have HF1 := Lib.hid hF
  have HF0 := Lib.hid (show Below w.heap.size w (w.alloc (.cells (rfC uw uh ac dn (.slice Ap np cp) (.slice Ag ng cg)) 39)) from (Below.refl _ _).alloc (Nat.le_refl _) _)
  have HC := Lib.hid hC; have HFF := Lib.hid hf; have HP := Lib.hid hP; have HPP := Lib.hid hp
  clear hC hf hP hp hr hF
  unfold rfC at *
  go_enter Try.func18, Try.ntmps18
  go_wp2_with (go_at_call 19; refine (HR.out _ HF0.out).mono ?_; rintro e w1 ⟨rfl, hb1⟩; have HB1 := Lib.hid (HF0.out.trans (hb1.mono (by simp))); have HFb := Lib.hid (HF1.out.bel hb1); clear hb1)
  clear dm
  go_loopw [5, 9] (fun t5 t9 wr => ∃ y : Nat, y ≤ dn ∧ t9 = .int .i64 y ∧ Hid (OwnC rsC 4 wr w.heap.size 59 t5 (mL1 p cN m ac y) ∧ Blk wr w.heap.size 39 (rfC uw uh ac dn (.slice Ap np cp) (.slice Ag ng cg)) ∧ Below w.heap.size w wr)) (fun _ t _ => dn - (intOf t).toNat)
  case atStart => exact ⟨0, by omega, rfl, Lib.hid ⟨OwnC.nil _ _ _, HFb.out, HB1.out⟩⟩
  case round =>
    obtain ⟨y, hy, rfl, HI⟩ := hrel
    have HO := Lib.hid HI.out.1
    have HF := Lib.hid HI.out.2.1
    have HB := Lib.hid HI.out.2.2
    have u3 : wr.cell? ⟨w.heap.size, 3, none⟩ = some (.int .i64 dn) := HF.out.cell 3
    clear HI HFb HB1 HF0 HF1 HR
    by_cases hlt : y < dn
    case neg =>
      obtain rfl : y = dn := by omega
      go_wp2_with fail
      go_ret
      exact ⟨_, rfl, by rw [← mL1_all]; exact HO.out, HB.out⟩
    case pos =>
    go_wp2_with fail
    go_loopw [5, 10] (fun t5 t10 wr => ∃ x : Nat, x ≤ ac ∧ t10 = .int .i64 x ∧ Hid (OwnC rsC 4 wr w.heap.size 59 t5 (mL2 p cN m ac y x) ∧ Blk wr w.heap.size 39 (rfC uw uh ac dn (.slice Ap np cp) (.slice Ag ng cg)) ∧ Below w.heap.size w wr)) (fun _ t _ => ac - (intOf t).toNat)
    case atStart => exact ⟨0, by omega, rfl, Lib.hid ⟨by rw [mL2_zero]; exact HO.out, HF.out, HB.out⟩⟩
    case round =>
      clear HO HF HB u3
      obtain ⟨x, hx, rfl, HI⟩ := hrel
      have HO := Lib.hid HI.out.1
      have HF := Lib.hid HI.out.2.1
      have HB := Lib.hid HI.out.2.2
      have u2 : wr.cell? ⟨w.heap.size, 2, none⟩ = some (.int .i64 ac) := HF.out.cell 2
      clear HI
      by_cases hxt : x < ac
      case neg =>
        obtain rfl : x = ac := by omega
        go_wp2_with fail
        go_roundw
        case rel => exact ⟨y + 1, by omega, by go_num, Lib.hid ⟨by rw [← mL2_full]; exact HO.out, HF.out, HB.out⟩⟩
        case measure => simp [intOf]; omega
      case pos =>
      go_wp2_with fail
      go_loopw [5, 11] (fun t5 t11 wr => ∃ i : Nat, i ≤ m ∧ t11 = .int .i64 i ∧ Hid (OwnC rsC 4 wr w.heap.size 59 t5 (mL3 p cN m ac y x i) ∧ Blk wr w.heap.size 39 (rfC uw uh ac dn (.slice Ap np cp) (.slice Ag ng cg)) ∧ Below w.heap.size w wr)) (fun _ t _ => m - (intOf t).toNat)
      case atStart => exact ⟨0, by omega, rfl, Lib.hid ⟨by rw [mL3_zero]; exact HO.out, HF.out, HB.out⟩⟩
      case round =>
        clear HO HF HB u2
        obtain ⟨i, hi, rfl, HI⟩ := hrel
        have HO := Lib.hid HI.out.1
        have HF := Lib.hid HI.out.2.1
        have HB := Lib.hid HI.out.2.2
        clear HI
        by_cases hit : i < m
        case neg =>
          obtain rfl : i = m := by omega
          go_wp2_with fail
          go_roundw
          case rel => exact ⟨x + 1, by omega, by go_num, Lib.hid ⟨by rw [← mL3_full]; exact HO.out, HF.out, HB.out⟩⟩
          case measure => simp [intOf]; omega
        case pos =>
        obtain ⟨gc, fc, hCe, hgc, hq0⟩ := HC.out i hit
        obtain ⟨hfi, hci⟩ := HFF.out i hit
        have hpp := HPP.out i hit
        obtain ⟨c, hc⟩ : ∃ z, z = cN i := ⟨_, rfl⟩
        rw [hfi] at hq0
        rw [← hc] at hq0 hci hpp
        obtain ⟨gp, op, hPe, hgp, hqp⟩ := HP.out c hci
        obtain ⟨H, hH⟩ : ∃ z : Nat, p c 0 = z := ⟨(p c 0).toNat, by omega⟩
        obtain ⟨V, hV⟩ : ∃ z : Nat, p c 1 = z := ⟨(p c 1).toNat, by omega⟩
        have hrg : w.rangeAt gp (op + c * 2) [.int .i64 H, .int .i64 V] := by
          have t0 := hqp 0 (by omega)
          have t1 := hqp 1 (by omega)
          rw [hH] at t0
          rw [hV] at t1
          intro j v hv
          match j, hv with
          | 0, hv => cases hv; exact t0
          | 1, hv => cases hv; exact t1
          | j + 2, hv => cases hv
        subst hCe
        subst hPe
        have HS0 : Hid (wr.cell? ⟨w.heap.size, 4, none⟩ = some (.slice (some ⟨gp, op, none⟩) np cp) ∧ wr.cell? ⟨gc, fc + i, none⟩ = some (.int .i64 c) ∧ wr.rangeAt gp (op + c * 2) [.int .i64 H, .int .i64 V]) := Lib.hid ⟨HF.out.cell 4, (HB.out.cell (p := ⟨gc, fc + i, none⟩) hgc).trans hq0, fun j v hv => (HB.out.cell (p := ⟨gp, op + c * 2 + j, none⟩) hgp).trans (hrg j v hv)⟩
        have HL0 : Hid (w.heap.size < wr.heap.size ∧ gc < wr.heap.size ∧ gp < wr.heap.size) := Lib.hid (by have := HF.out.lt; omega)
        have HGL := Lib.hid (show gc < w.heap.size from hgc)
        have HQC := Lib.hid hq0
        have HCI := Lib.hid hc
        have HHV := Lib.hid (show p c 0 = H ∧ p c 1 = V from ⟨hH, hV⟩)
        have HHB : H ≤ 4 ∧ V ≤ 4 := by omega
        clear hfi hpp hc hq0 hqp hH hV hrg hgp hgc
        go_upto_region 23 with fail
        refine region_plan (.run [0] (.held 1 (.run [2, 3, 4] (.held 5 (.run [6] (.held 7 (.ev 8 (.ev 9 .fin)))))))) (fun w' => w'.cell? ⟨w.heap.size, 4, none⟩ = some (.slice (some ⟨gp, op, none⟩) np cp) ∧ w'.cell? ⟨gc, fc + i, none⟩ = some (.int .i64 c) ∧ w'.rangeAt gp (op + c * 2) [.int .i64 H, .int .i64 V]) (by kernel_rfl) HS0.out ?_
        intro wd hwd
        have HB2 := Lib.hid (belowD HB.out hwd)
        have HO2 := Lib.hid (HO.out.drewE hwd)
        have HF2 := Lib.hid (HF.out.drewE hwd)
        have hSd0 := HS0.out
        have HSd : Hid (wd.cell? ⟨w.heap.size, 4, none⟩ = some (.slice (some ⟨gp, op, none⟩) np cp) ∧ wd.cell? ⟨gc, fc + i, none⟩ = some (.int .i64 c) ∧ wd.rangeAt gp (op + c * 2) [.int .i64 H, .int .i64 V]) := Lib.hid (by rw [hwd]; exact hSd0)
        have HL : Hid (w.heap.size < wd.heap.size ∧ gc < wd.heap.size ∧ gp < wd.heap.size) := Lib.hid (by rw [hwd]; exact HL0.out)
        have HA1 : Hid (Below wd.heap.size wd (wd.alloc (.cells #[.int .i64 0, .int .i64 0] 69)) ∧ Blk (wd.alloc (.cells #[.int .i64 0, .int .i64 0] 69)) wd.heap.size 69 #[.int .i64 0, .int .i64 0]) := Lib.hid ⟨(Below.refl _ _).alloc (Nat.le_refl _) _, Blk.new _ _ _⟩
        clear hSd0
        clear hwd
        refine plan_run fun m hm => ?_
        simp only [pickO, List.filterMap_cons, List.filterMap_nil, List.getElem?_toArray, List.getElem?_cons_zero, List.getElem?_cons_succ] at hm
        subst hm
        go_wp2_with fail
        refine ⟨rfl, by rfl, ?_⟩
        refine plan_held (o := ⟨some 72, _, _, _, _, _⟩) (v := .slice (some ⟨gp, op, none⟩) np cp) rfl (by rfl) (fun w' hS => ?_) ?_
        · obtain ⟨hS1, hS2, hS3⟩ := hS; go_simp
        try simp only [Act.put, List.setIfInBounds_toArray, List.set_cons_zero, List.set_cons_succ]
        refine plan_run fun m hm => ?_
        simp only [pickO, List.filterMap_cons, List.filterMap_nil, List.getElem?_toArray, List.getElem?_cons_zero, List.getElem?_cons_succ] at hm
        subst hm
        go_wp2_with fail
        refine ⟨rfl, by rfl, ?_⟩
        refine plan_held (o := ⟨some 76, _, _, _, _, _⟩) (v := .int .i64 c) rfl (by rfl) (fun w' hS => ?_) ?_
        · obtain ⟨hS1, hS2, hS3⟩ := hS; go_simp
        try simp only [Act.put, List.setIfInBounds_toArray, List.set_cons_zero, List.set_cons_succ]
        refine plan_run fun m hm => ?_
        simp only [pickO, List.filterMap_cons, List.filterMap_nil, List.getElem?_toArray, List.getElem?_cons_zero, List.getElem?_cons_succ] at hm
        subst hm
        go_wp2_with fail
        refine ⟨rfl, by rfl, ?_⟩
        refine plan_held (o := ⟨some 78, _, _, _, _, _⟩) (v := .agg #[.int .i64 H, .int .i64 V]) rfl (by rfl) (fun w' hS => ?_) ?_
        · obtain ⟨hS1, hS2, hS3⟩ := hS; exact exec_load_mid9 69 (.tmp 77) rfl gp (op + c * 2) rfl [.int .i64 H, .int .i64 V] _ hS3 Try.underlying69 rfl (by kernel_rfl)
        try simp only [Act.put, List.setIfInBounds_toArray, List.set_cons_zero, List.set_cons_succ]
        refine plan_ev fun m hm => ?_
        simp only [pickO, List.filterMap_cons, List.filterMap_nil, List.getElem?_toArray, List.getElem?_cons_zero, List.getElem?_cons_succ] at hm
        subst hm
        go_wp2_with fail
        refine ⟨rfl, ⟨(HA1.out.1.cell (p := ⟨w.heap.size, 4, none⟩) HL.out.1).trans HSd.out.1, (HA1.out.1.cell (p := ⟨gc, fc + i, none⟩) HL.out.2.1).trans HSd.out.2.1, fun j v hv => (HA1.out.1.cell (p := ⟨gp, op + c * 2 + j, none⟩) HL.out.2.2).trans (HSd.out.2.2 j v hv)⟩, ?_⟩
        try simp only [Act.put, List.setIfInBounds_toArray, List.set_cons_zero, List.set_cons_succ]
        refine plan_ev fun m hm => ?_
        simp only [pickO, List.filterMap_cons, List.filterMap_nil, List.getElem?_toArray, List.getElem?_cons_zero, List.getElem?_cons_succ] at hm
        subst hm
        refine wpList_store_far rfl 69 (.tmp 12) (.tmp 78) rfl wd.heap.size #[.int .i64 H, .int .i64 V] #[.int .i64 0, .int .i64 0] 69 rfl rfl HA1.out.2 (by kernel_rfl) rfl (by simp [Value.oneCell']) ?_
        intro wS hS2 hf hb hsz _
        have HBS := Lib.hid (hb w.heap.size w HB2.out.size (HB2.out.trans (HA1.out.1.mono HB2.out.size)))
        have HBW := Lib.hid (hb wd.heap.size wd (Nat.le_refl _) HA1.out.1)
        have HS2 := Lib.hid hS2
        clear hS2 hf hb hsz
        go_wp2_with fail
        refine ⟨rfl, ⟨(HBW.out.cell (p := ⟨w.heap.size, 4, none⟩) HL.out.1).trans HSd.out.1, (HBW.out.cell (p := ⟨gc, fc + i, none⟩) HL.out.2.1).trans HSd.out.2.1, fun j v hv => (HBW.out.cell (p := ⟨gp, op + c * 2 + j, none⟩) HL.out.2.2).trans (HSd.out.2.2 j v hv)⟩, ?_⟩
        try simp only [Act.put, List.setIfInBounds_toArray, List.set_cons_zero, List.set_cons_succ]
        refine plan_fin ?_
        go_wp2_with fail
        have HO := Lib.hid (HO2.out.bel HBW.out)
        have HF := Lib.hid (HF2.out.bel HBW.out)
        have HB := Lib.hid HBS.out
        have HU := HS2
        clear HO2 HF2 HB2 HBS HBW HA1 HSd HS0 HL HL0 HS2
        go_loopw [5, 13] (fun t5 t13 wr => ∃ v : Nat, v ≤ V ∧ t13 = .int .i64 v ∧ Hid ((OwnC rsC 4 wr w.heap.size 59 t5 (mL4 p cN m ac y x i v) ∧ Blk wr w.heap.size 39 (rfC uw uh ac dn (.slice (some ⟨gp, op, none⟩) np cp) (.slice Ag ng cg)) ∧ Below w.heap.size w wr) ∧ Blk wr wd.heap.size 69 #[.int .i64 H, .int .i64 V])) (fun _ t _ => V - (intOf t).toNat)
        case atStart => exact ⟨0, by omega, rfl, Lib.hid ⟨⟨by rw [mL4_zero]; exact HO.out, HF.out, HB.out⟩, HU.out⟩⟩
        case round =>
          clear HO HF HB HU
          obtain ⟨v, hv, rfl, HI2⟩ := hrel
          have HI := Lib.hid HI2.out.1
          have HU := Lib.hid HI2.out.2
          have HO := Lib.hid HI.out.1
          have HF := Lib.hid HI.out.2.1
          have HB := Lib.hid HI.out.2.2
          have u1 : wr.cell? ⟨wd.heap.size, 1, none⟩ = some (.int .i64 V) := HU.out.cell 1
          clear HI HI2
          by_cases hvt : v < V
          case neg =>
            obtain rfl : v = V := by omega
            go_wp2_with fail
            go_roundw
            case rel => exact ⟨i + 1, by omega, by go_num, Lib.hid ⟨by rw [← mL4_full, ← HCI.out, HHV.out.2, Int.toNat_natCast]; exact HO.out, HF.out, HB.out⟩⟩
            case measure => simp [intOf]; omega
          case pos =>
          go_wp2_with fail
          go_loopw [5, 14] (fun t5 t14 wr => ∃ h : Nat, h ≤ H ∧ t14 = .int .i64 h ∧ Hid ((OwnC rsC 4 wr w.heap.size 59 t5 (mL5 p cN m ac y x i v h) ∧ Blk wr w.heap.size 39 (rfC uw uh ac dn (.slice (some ⟨gp, op, none⟩) np cp) (.slice Ag ng cg)) ∧ Below w.heap.size w wr) ∧ Blk wr wd.heap.size 69 #[.int .i64 H, .int .i64 V])) (fun _ t _ => H - (intOf t).toNat)
          case atStart => exact ⟨0, by omega, rfl, Lib.hid ⟨⟨by rw [mL5_zero]; exact HO.out, HF.out, HB.out⟩, HU.out⟩⟩
          case round =>
            clear HO HF HB HU u1
            obtain ⟨h, hh, rfl, HI2⟩ := hrel
            have HI := Lib.hid HI2.out.1
            have HU := Lib.hid HI2.out.2
            have HO := Lib.hid HI.out.1
            have HF := Lib.hid HI.out.2.1
            have HB := Lib.hid HI.out.2.2
            have u0 : wr.cell? ⟨wd.heap.size, 0, none⟩ = some (.int .i64 H) := HU.out.cell 0
            clear HI HI2
            by_cases hht : h < H
            case neg =>
              obtain rfl : h = H := by omega
              go_wp2_with fail
              go_roundw
              case rel => exact ⟨v + 1, by omega, by go_num, Lib.hid ⟨⟨by rw [← mL5_full, ← HCI.out, HHV.out.1, Int.toNat_natCast]; exact HO.out, HF.out, HB.out⟩, HU.out⟩⟩
              case measure => simp [intOf]; omega
            case pos =>
            obtain ⟨A, cap, rfl, hcp⟩ := HO.out.form
            obtain ⟨N, hN⟩ : ∃ z, z = (mL5 p cN m ac y x i v h).length := ⟨_, rfl⟩
            have HLE : Hid ((mL5 p cN m ac y x i v h).length < 1000000000) := Lib.hid (by have := mL5_len (h := h) (v := v) (x := x) (y := y) (fun j hj => ⟨(HPP.out j hj).2.1, (HPP.out j hj).2.2.2⟩) hm hac (by omega) (by omega) hit (by omega) (by omega); omega)
            rw [← hN] at HO hcp ⊢
            clear hN
            have b1 : 0 ≤ (y : Int) * (ac : Int) ∧ (y : Int) * (ac : Int) ≤ 4194304 := by
              have := Nat.mul_le_mul (show y ≤ 2048 by omega) (show ac ≤ 2048 by omega)
              rw [← Int.natCast_mul]; omega
            have b2 : 0 ≤ (y : Int) * (V : Int) ∧ (y : Int) * (V : Int) ≤ 8192 := by
              have := Nat.mul_le_mul (show y ≤ 2048 by omega) (show V ≤ 4 by omega)
              rw [← Int.natCast_mul]; omega
            have b3 : 0 ≤ (x : Int) * (H : Int) ∧ (x : Int) * (H : Int) ≤ 8192 := by
              have := Nat.mul_le_mul (show x ≤ 2048 by omega) (show H ≤ 4 by omega)
              rw [← Int.natCast_mul]; omega
            have HNX : Hid (mL5 p cN m ac y x i v h ++ [((y : Int) * (ac : Int) + (x : Int), (⟨(c : Int), (y : Int) * (V : Int) + (v : Int), (x : Int) * (H : Int) + (h : Int)⟩ : Spt))] = mL5 p cN m ac y x i v (h + 1)) := Lib.hid (by rw [mL5_next, ← HCI.out, HHV.out.1, HHV.out.2, Int.natCast_add, Int.natCast_mul])
            go_upto_region 30 with fail
            refine region_plan (.run [0, 1, 2, 3, 4, 5, 6, 7, 8, 9, 10, 11, 12, 13, 14, 15, 16, 17, 18, 19, 20, 21, 22, 23] (.ev 24 (.ev 25 (.run [26] .fin)))) (fun w' => True) (by kernel_rfl) trivial ?_
            intro wd2 hwd
            have HO3 := Lib.hid (HO.out.drewE hwd)
            have HF3 := Lib.hid (HF.out.drewE hwd)
            have HB3 := Lib.hid (belowD HB.out hwd)
            have HU3 := Lib.hid (HU.out.drewE hwd)
            have u0 : wd2.cell? ⟨wd.heap.size, 0, none⟩ = some (.int .i64 H) := HU3.out.cell 0
            have u1 : wd2.cell? ⟨wd.heap.size, 1, none⟩ = some (.int .i64 V) := HU3.out.cell 1
            have u2 : wd2.cell? ⟨w.heap.size, 2, none⟩ = some (.int .i64 ac) := HF3.out.cell 2
            have q0 : wd2.cell? ⟨gc, fc + i, none⟩ = some (.int .i64 c) := (HB3.out.cell (p := ⟨gc, fc + i, none⟩) HGL.out).trans HQC.out
            clear HO HF HB HU
            clear hwd
            refine plan_run fun m hm => ?_
            simp only [pickO, List.filterMap_cons, List.filterMap_nil, List.getElem?_toArray, List.getElem?_cons_zero, List.getElem?_cons_succ] at hm
            subst hm
            go_wp2_with fail
            refine ⟨rfl, by rfl, ?_⟩
            refine plan_ev fun m hm => ?_
            simp only [pickO, List.filterMap_cons, List.filterMap_nil, List.getElem?_toArray, List.getElem?_cons_zero, List.getElem?_cons_succ] at hm
            subst hm
            go_wp2_with fail
            refine ⟨rfl, trivial, ?_⟩
            try simp only [Act.put, List.setIfInBounds_toArray, List.set_cons_zero, List.set_cons_succ]
            refine plan_ev fun m hm => ?_
            simp only [pickO, List.filterMap_cons, List.filterMap_nil, List.getElem?_toArray, List.getElem?_cons_zero, List.getElem?_cons_succ] at hm
            subst hm
            refine appC (q := 4) (by_ := 32) (cs := #[.int .i64 ((y : Int) * (ac : Int) + (x : Int)), .int .i64 (c : Int), .int .i64 ((y : Int) * (V : Int) + (v : Int)), .int .i64 ((x : Int) * (H : Int) + (h : Int))]) ((y : Int) * (ac : Int) + (x : Int), (⟨(c : Int), (y : Int) * (V : Int) + (v : Int), (x : Int) * (H : Int) + (h : Int)⟩ : Spt)) rsC_ok Try.underlying55 (by kernel_rfl) (by decide) (by decide) rfl (.tmp 91) (.tmp 115) rfl rfl rfl rfl HO3.out HLE.out HB3.out.size ?_
            intro v9 w9 hO9 hK9 hb9
            have HU9 := Lib.hid (hK9 _ _ _ (by decide) HU3.out)
            have HF9 := Lib.hid (hK9 _ _ _ (by decide) HF3.out)
            have HO9 := Lib.hid (HNX.out ▸ hO9)
            have HB9 := Lib.hid (HB3.out.trans hb9)
            clear hO9 hK9 hb9 q0 u0 u1 u2 HO3 HF3 HB3 HU3
            refine And.intro rfl (And.intro trivial ?_)
            try simp only [Act.put, List.setIfInBounds_toArray, List.set_cons_zero, List.set_cons_succ]
            refine plan_run fun m hm => ?_
            simp only [pickO, List.filterMap_cons, List.filterMap_nil, List.getElem?_toArray, List.getElem?_cons_zero, List.getElem?_cons_succ] at hm
            subst hm
            go_wp2_with fail
            refine ⟨rfl, by rfl, ?_⟩
            refine plan_fin ?_
            go_wp2_with fail
            go_roundw
            case rel => exact ⟨h + 1, by omega, by go_num, Lib.hid ⟨⟨HO9.out, HF9.out, HB9.out⟩, HU9.out⟩⟩
            case measure => simp [intOf]; omega
end Go.Proofs.Ytjfnlgmllhjonaa
