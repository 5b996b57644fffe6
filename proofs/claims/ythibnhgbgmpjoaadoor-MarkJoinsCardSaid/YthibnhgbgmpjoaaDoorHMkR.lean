/- The document's Joined (gen_mkl4.py). No condition. -/
import Derived.Test.YthibnhgbgmpjoaaDoorHMkQ
import Derived.Test.YthibnhgbgmpjoaaDoorHGK
namespace Go.Proofs.YthibnhgbgmpjoaaDoor
open Go.RowKit
set_option linter.unusedSimpArgs false
set_option linter.unusedVariables false
set_option maxRecDepth 100000
theorem jl_take {m : List Pc} {k : Nat} (h : k < m.length) : catW pcW (m.take (k + 1)) = catW pcW (m.take k) ++ pcW m[k] := by
  rw [take_next m k h, catW_snoc]
set_option maxHeartbeats 2000000 in
theorem joined_walk (w : World) (base : Nat) (A : Option Addr) (cp : Nat) (l : List Rp) (m : List Pc) (hO : OwnC Rp.cells 16 w base 39 (.slice A l.length cp) l) (hP : RpV l m) (hl : l.length ≤ 1000) (hm : ∀ p ∈ m, Ps p) (hz : lenP m ≤ 1000000) :
    Calls Tryd.prog 15 #[.slice A l.length cp] w fun e w' => e = .returned (.string ⟨(joinL m).toArray⟩) ∧ Below w.heap.size w w' := by
  have HO := Lib.hid hO; have HP := Lib.hid hP; have HM0 := Lib.hid hm
  obtain ⟨n, hn⟩ : ∃ n, n = l.length := ⟨_, rfl⟩
  have HN : Hid (n = l.length ∧ n = m.length) := Lib.hid ⟨hn, by rw [hn, hP.1]⟩
  rw [← hn] at hl ⊢
  have HZ := Lib.hid hz
  clear hO hP hm hn hz
  go_enter Tryd.func15, Tryd.ntmps15
  go_wp2_with fail
  go_loopw [3, 4] (fun s i wr => ∃ (k : Nat) (S : ByteArray), k ≤ n ∧ s = .string S ∧ i = .int .i64 k ∧ Hid (S = ⟨([255, 216] ++ catW pcW (m.take k)).toArray⟩ ∧ Below w.heap.size w wr)) (fun _ i _ => n - (intOf i).toNat)
  case atStart => exact ⟨0, _, by omega, rfl, rfl, Lib.hid ⟨by simp [catW], Below.refl _ _⟩⟩
  case round =>
    obtain ⟨k, S, hk, rfl, rfl, HI⟩ := hrel
    have HB := Lib.hid HI.out.2
    have hSz : S.size ≤ 2000000 := by
      have h1 := HZ.out
      have h2 := lenP_take m k
      have h3 : S.size = 2 + (catW pcW (m.take k)).length := by rw [HI.out.1]; simp [ByteArray.size]; omega
      rw [catW_sum] at h3
      omega
    by_cases hkl : k < n
    case neg =>
      obtain rfl : n = k := by omega
      have HF : Hid (S ++ ⟨#[255, 217]⟩ = ⟨(joinL m).toArray⟩) := Lib.hid (by
        have h1 := HI.out.1
        rw [HN.out.2, List.take_length] at h1
        rw [h1]
        apply ByteArray.ext
        simp [joinL, ByteArray.data_append])
      go_wp2_with fail
      go_ret
      exact ⟨by rw [HF.out]; rfl, HB.out⟩
    case pos =>
    have hk1 : k < l.length := by rw [← HN.out.1]; exact hkl
    have hk2 : k < m.length := by rw [← HN.out.2]; exact hkl
    obtain ⟨gb, rfl, hgb1, hgb, hcb⟩ := (HO.out.bel HB.out).at_ Rp.is hk1
    obtain ⟨r1, r2, r3, r4⟩ := HP.out.2 k hk1 hk2
    have hps := HM0.out m[k] (List.getElem_mem hk2)
    obtain ⟨c0, c1, c2⟩ := hps.code
    have hjt : catW pcW (m.take (k + 1)) = catW pcW (m.take k) ++ pcL (sgC m[k].x) m[k].body m[k].data := jl_take hk2
    have hlt : lenP (m.take k) + (4 + m[k].body.size + m[k].data.size) ≤ lenP m := by
      have := lenP_take m (k + 1)
      rw [take_next m k hk2, lenP_snoc] at this
      exact this
    obtain ⟨cc, hcc⟩ : ∃ cc, cc = sgC m[k].x := ⟨_, rfl⟩
    obtain ⟨bb, hbb⟩ : ∃ bb, bb = m[k].body := ⟨_, rfl⟩
    obtain ⟨dd, hdd⟩ : ∃ dd, dd = m[k].data := ⟨_, rfl⟩
    rw [pcL] at hjt
    rw [← hcc] at r4 c0 c1 hjt
    rw [← hbb] at r2 c2 hjt hlt
    rw [← hdd] at r3 hjt hlt
    obtain ⟨N, hN⟩ : ∃ N, N = bb.size + 2 := ⟨_, rfl⟩
    rw [← hN] at hjt
    obtain ⟨M, hM⟩ : ∃ M : ByteArray, M = ⟨([cc, (N : Int) / 256, (N : Int) % 256].map (fun z => UInt8.ofNat z.toNat)).toArray⟩ := ⟨_, rfl⟩
    have hMz : M.size = 3 := by rw [hM]; rfl
    have u1 : wr.cell? ⟨gb, k * 16 + 1, none⟩ = some (.int .i64 cc) := by rw [hcb 1 (by decide)]; exact rp_c1 r4
    have u14 : wr.cell? ⟨gb, k * 16 + 14, none⟩ = some (.string bb) := by rw [hcb 14 (by decide), rp_c14, r2]
    have u15 : wr.cell? ⟨gb, k * 16 + 15, none⟩ = some (.string dd) := by rw [hcb 15 (by decide), rp_c15', r3]
    have HSN : Hid ((⟨([255, 216] ++ catW pcW (m.take (k + 1))).toArray⟩ : ByteArray) = S ++ ⟨#[255]⟩ ++ M ++ bb ++ dd) := Lib.hid (by
      have e1 : ((N : Int) / 256).toNat = N / 256 := by omega
      have e2 : ((N : Int) % 256).toNat = N % 256 := by omega
      rw [hjt, hM, HI.out.1]
      apply ByteArray.ext
      simp [ByteArray.data_append, e1, e2])
    have hNb : N ≤ 65535 := by omega
    have hbz : bb.size ≤ 65533 := by omega
    have hdz : dd.size ≤ 1000000 := by have := HZ.out; omega
    have z1 : (S ++ ⟨#[255]⟩).size ≤ 2000001 := by rw [ByteArray.size_append]; have : (⟨#[255]⟩ : ByteArray).size = 1 := rfl; omega
    have z2 : (S ++ ⟨#[255]⟩ ++ M).size ≤ 2000004 := by rw [ByteArray.size_append]; omega
    have z3 : (S ++ ⟨#[255]⟩ ++ M ++ bb).size ≤ 2100004 := by rw [ByteArray.size_append]; omega
    have H1 := Lib.hid u1; have H14 := Lib.hid u14; have H15 := Lib.hid u15; have HM := Lib.hid hM
    have HNN : Hid ((bb.size : Int) + 2 = N) := Lib.hid (by omega)
    clear hcb r1 r2 r3 r4 hps hjt hlt hcc hbb hdd hM u1 u15
    go_upto_region 5 with fail
    go_cut [5] (fun v wx => v = .int .i64 N ∧ wx = wr)
    case first =>
      go_wp2_with fail
      go_meet
      case rel => exact ⟨congrArg (Value.int .i64) HNN.out, by first | rfl | trivial⟩
    case rest =>
    obtain ⟨rfl, rfl⟩ := hcut
    obtain ⟨wr, rfl⟩ : ∃ wz : World, wz = wc := ⟨_, rfl⟩
    have hbS : Below wr.heap.size wr wr.drew := (Below.refl _ wr).drew
    clear u14 hN HNN
    go_upto_region 6 with fail
    refine region_plan (.run [0, 1, 2, 3, 4, 5, 6, 7, 8, 9, 10, 11, 12, 13, 14, 18, 19, 20, 21] (.held 22 (.run [24, 25, 26, 27] (.held 28 (.ev 15 (.ev 16 (.run [17, 23, 29, 30] .fin))))))) (fun w' => w'.cell? ⟨gb, k * 16 + 14, none⟩ = some (.string bb) ∧ w'.cell? ⟨gb, k * 16 + 15, none⟩ = some (.string dd)) (by kernel_rfl) ⟨(hbS.cell (p := ⟨gb, k * 16 + 14, none⟩) hgb).trans H14.out, (hbS.cell (p := ⟨gb, k * 16 + 15, none⟩) hgb).trans H15.out⟩ ?_
    intro wd hwd
    have hbd : Below wr.heap.size wr wd := hwd ▸ hbS
    have u1 : wd.cell? ⟨gb, k * 16 + 1, none⟩ = some (.int .i64 cc) := (hbd.cell (p := ⟨gb, k * 16 + 1, none⟩) hgb).trans H1.out
    have HBd := Lib.hid (HB.out.trans (hbd.mono HB.out.size))
    have HB0 := Lib.hid hbd
    clear hbd hbS
    clear hwd
    refine plan_run fun m hm => ?_
    simp only [pickO, List.filterMap_cons, List.filterMap_nil, List.getElem?_toArray, List.getElem?_cons_zero, List.getElem?_cons_succ] at hm
    subst hm
    go_wp2_with fail
    refine ⟨rfl, by rfl, ?_⟩
    refine plan_held (o := ⟨some 41, _, _, _, _, _⟩) (v := .string bb) rfl (by rfl) (fun w' hS => ?_) ?_
    · obtain ⟨hS1, hS2⟩ := hS; go_simp
    try simp only [Act.put, List.setIfInBounds_toArray, List.set_cons_zero, List.set_cons_succ]
    refine plan_run fun m hm => ?_
    simp only [pickO, List.filterMap_cons, List.filterMap_nil, List.getElem?_toArray, List.getElem?_cons_zero, List.getElem?_cons_succ] at hm
    subst hm
    go_wp2_with fail
    refine ⟨rfl, by rfl, ?_⟩
    refine plan_held (o := ⟨some 47, _, _, _, _, _⟩) (v := .string dd) rfl (by rfl) (fun w' hS => ?_) ?_
    · obtain ⟨hS1, hS2⟩ := hS; go_simp
    try simp only [Act.put, List.setIfInBounds_toArray, List.set_cons_zero, List.set_cons_succ]
    refine plan_ev fun m hm => ?_
    simp only [pickO, List.filterMap_cons, List.filterMap_nil, List.getElem?_toArray, List.getElem?_cons_zero, List.getElem?_cons_succ] at hm
    subst hm
    clear u1
    go_wp2_with fail
    have hcv : (convert 71 9 (.slice (some ⟨wd.heap.size, 0, none⟩) 3 3)).run Tryd.prog (wd.alloc (.cells #[.int .u8 cc, .int .u8 (((N : Int)) / 256), .int .u8 ((N : Int) % 256)] 5)) = .ok (.string M) (wd.alloc (.cells #[.int .u8 cc, .int .u8 ((N : Int) / 256), .int .u8 ((N : Int) % 256)] 5)) := by rw [HM.out]; exact conv_U (n := 3) (c := 3) (l := [cc, (N : Int) / 256, (N : Int) % 256]) (Blk.new wd 5 #[.int .u8 cc, .int .u8 ((N : Int) / 256), .int .u8 ((N : Int) % 256)]) rfl
    have hal : Below wr.heap.size wr (wd.alloc (.cells #[.int .u8 cc, .int .u8 ((N : Int) / 256), .int .u8 ((N : Int) % 256)] 5)) := HB0.out.alloc HB0.out.size _
    have HBe := Lib.hid (HB.out.trans (hal.mono HB.out.size))
    refine ⟨rfl, ⟨(hal.cell (p := ⟨gb, k * 16 + 14, none⟩) hgb).trans H14.out, (hal.cell (p := ⟨gb, k * 16 + 15, none⟩) hgb).trans H15.out⟩, ?_⟩
    try simp only [Act.put, List.setIfInBounds_toArray, List.set_cons_zero, List.set_cons_succ]
    refine plan_ev fun m hm => ?_
    simp only [pickO, List.filterMap_cons, List.filterMap_nil, List.getElem?_toArray, List.getElem?_cons_zero, List.getElem?_cons_succ] at hm
    subst hm
    go_wp2_with fail
    clear hcv
    refine ⟨rfl, ⟨(hal.cell (p := ⟨gb, k * 16 + 14, none⟩) hgb).trans H14.out, (hal.cell (p := ⟨gb, k * 16 + 15, none⟩) hgb).trans H15.out⟩, ?_⟩
    try simp only [Act.put, List.setIfInBounds_toArray, List.set_cons_zero, List.set_cons_succ]
    refine plan_run fun m hm => ?_
    simp only [pickO, List.filterMap_cons, List.filterMap_nil, List.getElem?_toArray, List.getElem?_cons_zero, List.getElem?_cons_succ] at hm
    subst hm
    go_wp2_with fail
    refine ⟨rfl, by rfl, ?_⟩
    refine plan_fin ?_
    go_wp2_with fail
    go_roundw
    case rel => exact ⟨k + 1, _, by omega, rfl, by go_num, Lib.hid ⟨by rw [HSN.out], HBe.out⟩⟩
    case measure => simp [intOf]; omega
end Go.Proofs.YthibnhgbgmpjoaaDoor
