/- Any bytes' pieces are the document's, or the place and the error. No condition but the card's own: the table holds what the program's text lays. -/
import Derived.Test.YthibnhgbgmpjoaaDoorHGK
import Derived.Test.YthibnhgbgmpjoaaDoorCards
import Derived.Test.YthibnhgbgmpjoaaDoorTie
import Derived.Deep.DeepHandedRow
import Derived.Lib.LaidTab
namespace Go.Proofs.YthibnhgbgmpjoaaDoor
open Go.RowKit
set_option linter.unusedSimpArgs false
set_option linter.unusedVariables false
set_option maxRecDepth 100000
set_option maxHeartbeats 1000000 in
theorem markSplits_big (s : ByteArray) (w : World) (hL : Laid w) (hs : 8000 < s.size) : Calls Tryd.prog 4 #[.string s] w fun e w' => e = .returned (.bool true) ∧ Below w.heap.size w w' := by
  have HL := Lib.hid hL; clear hL
  go_enter Tryd.func4, Tryd.ntmps4
  go_wp2_with (first | (go_at_call 7; have HB0 := Lib.hid HB.out; refine (awake8 _ (HL.out.below HB.out)).mono ?_; rintro ex w2 ⟨rfl, hb2⟩; have HB2 := Lib.hid (HB.out.trans (hb2.mono HB.out.size)); clear hb2) | (go_at_call 7; refine (awake8 _ HL.out).mono ?_; rintro ex w1 ⟨rfl, hb1⟩; have HB := Lib.hid hb1; clear hb1))
  go_ret
  exact ⟨rfl, HB2.out⟩
set_option maxHeartbeats 4000000 in
theorem markSplits_in (s : ByteArray) (w : World) (hL : Laid w) (hs : s.size ≤ 8000) : Calls Tryd.prog 4 #[.string s] w fun e w' => e = .returned (.bool true) ∧ Below w.heap.size w w' := by
  have HL := Lib.hid hL; clear hL
  have HSP := Lib.hid (fun W hL => splitF_walk s W hL)
  have HRS := Lib.hid (fun W => refSplit_walk s W)
  have hml : (spF s).1.length ≤ 8000 := by
    by_cases he : (spF s).2.2 = 0
    · have h1 := spF_good (s := s) (m := (spF s).1) (b := (spF s).2.1) (by rw [← he])
      have h2 := lenP_ge (spF s).1
      omega
    · rw [spF_no he]; simp
  have hg : ∀ p ∈ (spF s).1, Gd p := by
    by_cases he : (spF s).2.2 = 0
    · exact (spF_good (s := s) (m := (spF s).1) (b := (spF s).2.1) (by rw [← he])).2.1
    · rw [spF_no he]; exact fun p hp => by cases hp
  obtain ⟨R, hR⟩ : ∃ R, R = spF s := ⟨_, rfl⟩
  unfold SplitFPost at HSP
  unfold RSplitPost at HRS
  rw [← hR] at HSP HRS hml hg
  obtain ⟨m, b, e⟩ := R
  dsimp only at HSP HRS hml hg
  have HG := Lib.hid hg
  clear hR hg
  have db : ((b : Int) != (b : Int)) = false := by simp
  have de : (e != e) = false := by simp
  go_enter Tryd.func4, Tryd.ntmps4
  go_upto_region 5 with (first | (go_at_call 7; refine (awake8 _ HL.out).mono ?_; rintro ex w1 ⟨rfl, hb1⟩; have HB := Lib.hid hb1; clear hb1) | (go_at_call 8; refine (HSP.out _ (HL.out.below HB.out)).mono ?_; rintro ex w2 ⟨v, l, rfl, hO, hP, hb2⟩; have HO := Lib.hid hO; have HP := Lib.hid hP; have HB2 := Lib.hid (HB.out.trans (hb2.mono HB.out.size)); clear hO hP hb2) | (go_at_call 10; refine (HRS.out _).mono ?_; rintro ex w3 ⟨v2, l2, rfl, hO3, hP3, hb3⟩; have HO2 := Lib.hid (HO.out.bel hb3); have HP2 := Lib.hid (HP.out.bel hb3); have HO3 := Lib.hid hO3; have HP3 := Lib.hid hP3; have HB3 := Lib.hid (HB2.out.trans (hb3.mono HB2.out.size)); clear hO3 hP3 hb3))
  obtain ⟨A, cp, hv, _⟩ := HO2.out.form
  subst hv
  obtain ⟨B, cp2, hv2, _⟩ := HO3.out.form
  subst hv2
  have hl1 : l.length = m.length := HP2.out.1
  have hl2 : l2.length = m.length := HP3.out.1
  rw [hl1, hl2]
  have dl : ((m.length : Int) != (m.length : Int)) = false := by simp
  have HL1 := Lib.hid hl1; have HL2 := Lib.hid hl2
  clear HO HP HB HB2 HSP HRS hl1 hl2
  go_wp2_with fail
  clear db de dl
  go_loopw [9] (fun i wr => ∃ k : Nat, k ≤ m.length ∧ i = .int .i64 k ∧ Hid (Below w3.heap.size w3 wr)) (fun i _ => m.length - (intOf i).toNat)
  case atStart => exact ⟨0, by omega, rfl, Lib.hid (Below.refl _ _)⟩
  case round =>
    obtain ⟨k, hk, rfl, HB⟩ := hrel
    by_cases hkl : k < m.length
    case neg =>
      obtain rfl : k = m.length := by omega
      go_wp2_with fail
      go_ret
      exact ⟨rfl, HB3.out.trans (HB.out.mono HB3.out.size)⟩
    case pos =>
    obtain ⟨hok, hby, hb4, hbx⟩ := gd_bytes (HG.out m[k] (List.getElem_mem hkl))
    have hk1 : k < l.length := by rw [HL1.out]; exact hkl
    have hk2 : k < l2.length := by rw [HL2.out]; exact hkl
    obtain ⟨ga, hgaA, hga1, hga0, hca⟩ := (HO2.out.bel HB.out).at_ Pv.is hk1
    obtain ⟨gb, hgbA, hgb1, hgb0, hcb⟩ := (HO3.out.bel HB.out).at_ Rp.is hk2
    obtain ⟨p1, p2, p3⟩ := HP2.out.2 k hk1 hkl
    obtain ⟨r1, r2, r3, r4⟩ := HP3.out.2 k hk2 hkl
    subst hgaA hgbA
    obtain ⟨x, hx⟩ : ∃ x, x = m[k].x := ⟨_, rfl⟩
    obtain ⟨aa, haa⟩ : ∃ aa, aa = m[k].at_ := ⟨_, rfl⟩
    obtain ⟨bb, hbb⟩ : ∃ bb, bb = m[k].body := ⟨_, rfl⟩
    obtain ⟨dd, hdd⟩ : ∃ dd, dd = m[k].data := ⟨_, rfl⟩
    rw [← hx] at hok hby hb4 hbx p3 r4
    rw [← haa] at p1 r1
    rw [← hbb] at hbx r2
    rw [← hdd] at p2 r3
    have hbyt := bytes_any (HL.out.below (HB3.out.trans (HB.out.mono HB3.out.size))) (p3.bel HB.out) hok
    obtain ⟨cc, hcc⟩ : ∃ cc, cc = sgC x := ⟨_, rfl⟩
    obtain ⟨bs, hbs⟩ : ∃ bs, bs = byS x := ⟨_, rfl⟩
    rw [hby, ← hbs] at hbyt
    rw [← hbs] at hb4 hbx
    rw [← hcc] at r4
    obtain ⟨q, hq⟩ : ∃ q, q = l[k] := ⟨_, rfl⟩
    rw [← hq] at hca p1 p2 p3 hbyt
    obtain ⟨aq, T, y, dq⟩ := q
    dsimp only at p1 p2
    subst p1 p2
    have e0 : wr.cell? ⟨ga, k * 3, none⟩ = some (.int .i64 aq) := hca 0 (by decide)
    have e1 : wr.cell? ⟨ga, k * 3 + 1, none⟩ = some (.iface T y) := hca 1 (by decide)
    have e2 : wr.cell? ⟨ga, k * 3 + 2, none⟩ = some (.string dq) := hca 2 (by decide)
    have u0 : wr.cell? ⟨gb, k * 16, none⟩ = some (.int .i64 aq) := by have := hcb 0 (by decide); rw [rp_c0, r1] at this; exact this
    have u1 : wr.cell? ⟨gb, k * 16 + 1, none⟩ = some (.int .i64 cc) := by rw [hcb 1 (by decide)]; exact rp_c1 r4
    have u14 : wr.cell? ⟨gb, k * 16 + 14, none⟩ = some (.string bb) := by rw [hcb 14 (by decide), rp_c14, r2]
    have u15 : wr.cell? ⟨gb, k * 16 + 15, none⟩ = some (.string dq) := by rw [hcb 15 (by decide), rp_c15', r3]
    have HBY := Lib.hid hbyt; have HV0 := Lib.hid (p3.bel HB.out); have HCC := Lib.hid hcc.symm
    have He0 := Lib.hid e0; have He1 := Lib.hid e1; have He2 := Lib.hid e2; have Hu0 := Lib.hid u0; have Hu1 := Lib.hid u1; have Hu14 := Lib.hid u14; have Hu15 := Lib.hid u15
    clear hok hby hca hcb p3 r1 r2 r3 r4 hx haa hbb hdd hbs hq hcc hbyt e0 e2 u0 u1 u14 u15
    go_upto_region 11 with (go_at_call 11; refine (HBY.out).mono ?_; rintro ex w5 ⟨rfl, hb5⟩; have HB5 := Lib.hid hb5; clear hb5)
    have HBk := Lib.hid (HB.out.trans (HB5.out.mono HB.out.size))
    have hga : ga < w5.heap.size := Nat.lt_of_lt_of_le hga0 HB5.out.size
    have hgb : gb < w5.heap.size := Nat.lt_of_lt_of_le hgb0 HB5.out.size
    have Hf0 : Hid (w5.cell? ⟨ga, k * 3, none⟩ = some (.int .i64 aq)) := Lib.hid ((HB5.out.cell (p := ⟨ga, k * 3, none⟩) hga0).trans He0.out)
    have Hf1 : Hid (w5.cell? ⟨ga, k * 3 + 1, none⟩ = some (.iface T y)) := Lib.hid ((HB5.out.cell (p := ⟨ga, k * 3 + 1, none⟩) hga0).trans He1.out)
    have Hf2 : Hid (w5.cell? ⟨ga, k * 3 + 2, none⟩ = some (.string dq)) := Lib.hid ((HB5.out.cell (p := ⟨ga, k * 3 + 2, none⟩) hga0).trans He2.out)
    have Hr0 : Hid (w5.cell? ⟨gb, k * 16, none⟩ = some (.int .i64 aq)) := Lib.hid ((HB5.out.cell (p := ⟨gb, k * 16, none⟩) hgb0).trans Hu0.out)
    have Hr1 : Hid (w5.cell? ⟨gb, k * 16 + 1, none⟩ = some (.int .i64 cc)) := Lib.hid ((HB5.out.cell (p := ⟨gb, k * 16 + 1, none⟩) hgb0).trans Hu1.out)
    have Hr14 : Hid (w5.cell? ⟨gb, k * 16 + 14, none⟩ = some (.string bb)) := Lib.hid ((HB5.out.cell (p := ⟨gb, k * 16 + 14, none⟩) hgb0).trans Hu14.out)
    have Hr15 : Hid (w5.cell? ⟨gb, k * 16 + 15, none⟩ = some (.string dq)) := Lib.hid ((HB5.out.cell (p := ⟨gb, k * 16 + 15, none⟩) hgb0).trans Hu15.out)
    have HV := Lib.hid (HV0.out.bel HB5.out)
    have hbS : Below w5.heap.size w5 w5.drew := (Below.refl _ w5).drew
    have d4 : decide ((bs.size : Int) < 4) = false := by simp; omega
    have x2 : (cc != cc) = false := by simp
    have x3 : ((aq : Int) != (aq : Int)) = false := by simp
    clear e1 HB He0 He1 He2 Hu0 Hu1 Hu14 Hu15 HV0 HB5 HBY
    obtain ⟨wr, rfl⟩ : ∃ wz : World, wz = w5 := ⟨_, rfl⟩
    obtain ⟨aa, rfl⟩ : ∃ z, z = aq := ⟨_, rfl⟩
    obtain ⟨dd, rfl⟩ : ∃ z, z = dq := ⟨_, rfl⟩
    refine region_plan (.run [0, 1, 2, 3, 4, 5, 6, 7, 8, 9, 10, 11, 12, 13, 14, 15, 16, 17, 18, 19, 20, 21, 22, 23, 24, 25, 26, 27, 28, 29, 30, 31, 32, 33, 35, 36, 37, 38, 39] (.held 40 (.ev 34 (.run [41, 42, 43, 44, 45, 46, 47, 48, 49, 50, 51, 52, 53, 54, 55, 56, 57] .fin)))) (fun w' => w'.cell? ⟨gb, k * 16 + 1, none⟩ = some (.int .i64 cc)) (by kernel_rfl) ((hbS.cell (p := ⟨gb, k * 16 + 1, none⟩) hgb).trans Hr1.out) ?_
    intro wd hwd
    have hbd : Below wr.heap.size wr wd := hwd ▸ hbS
    have HBd := Lib.hid (HBk.out.trans (hbd.mono HBk.out.size))
    have f0 : wd.cell? ⟨ga, k * 3, none⟩ = some (.int .i64 aa) := (hbd.cell (p := ⟨ga, k * 3, none⟩) hga).trans Hf0.out
    have f1 : wd.cell? ⟨ga, k * 3 + 1, none⟩ = some (.iface T y) := (hbd.cell (p := ⟨ga, k * 3 + 1, none⟩) hga).trans Hf1.out
    have f2 : wd.cell? ⟨ga, k * 3 + 2, none⟩ = some (.string dd) := (hbd.cell (p := ⟨ga, k * 3 + 2, none⟩) hga).trans Hf2.out
    have r0 : wd.cell? ⟨gb, k * 16, none⟩ = some (.int .i64 aa) := (hbd.cell (p := ⟨gb, k * 16, none⟩) hgb).trans Hr0.out
    have r15 : wd.cell? ⟨gb, k * 16 + 15, none⟩ = some (.string dd) := (hbd.cell (p := ⟨gb, k * 16 + 15, none⟩) hgb).trans Hr15.out
    have HVd := Lib.hid (HV.out.bel hbd)
    have HBd2 := Lib.hid hbd
    clear hbd hbS
    clear hwd
    refine plan_run fun m hm => ?_
    simp only [pickO, List.filterMap_cons, List.filterMap_nil, List.getElem?_toArray, List.getElem?_cons_zero, List.getElem?_cons_succ] at hm
    subst hm
    go_wp2_with fail
    refine ⟨rfl, by rfl, ?_⟩
    refine plan_held (o := ⟨some 102, _, _, _, _, _⟩) (v := .int .i64 cc) rfl (by rfl) (fun w' hS => ?_) ?_
    · go_simp
    try simp only [Act.put, List.setIfInBounds_toArray, List.set_cons_zero, List.set_cons_succ]
    refine plan_ev fun m hm => ?_
    simp only [pickO, List.filterMap_cons, List.filterMap_nil, List.getElem?_toArray, List.getElem?_cons_zero, List.getElem?_cons_succ] at hm
    subst hm
    refine wpList_code (by rfl) (.tmp 95) rfl rfl HVd.out ?_
    intro w7 hb7
    rw [HCC.out]
    have hbe : Below wr.heap.size wr w7 := HBd2.out.trans (hb7.mono HBd2.out.size)
    have HBe := Lib.hid (HBk.out.trans (hbe.mono HBk.out.size))
    have r14 : w7.cell? ⟨gb, k * 16 + 14, none⟩ = some (.string bb) := (hbe.cell (p := ⟨gb, k * 16 + 14, none⟩) hgb).trans Hr14.out
    have k1 : w7.cell? ⟨gb, k * 16 + 1, none⟩ = some (.int .i64 cc) := (hbe.cell (p := ⟨gb, k * 16 + 1, none⟩) hgb).trans Hr1.out
    clear f0 f1 f2 r0 r15 hb7 hbe
    go_wp2_with fail
    refine ⟨rfl, k1, ?_⟩
    try simp only [Act.put, List.setIfInBounds_toArray, List.set_cons_zero, List.set_cons_succ]
    refine plan_run fun m hm => ?_
    simp only [pickO, List.filterMap_cons, List.filterMap_nil, List.getElem?_toArray, List.getElem?_cons_zero, List.getElem?_cons_succ] at hm
    subst hm
    go_wp2_with fail
    refine ⟨rfl, by rfl, ?_⟩
    refine plan_fin ?_
    go_wp2_with fail
    go_roundw
    case rel => exact ⟨k + 1, by omega, by go_num, HBe⟩
    case measure => simp [intOf]; omega
theorem markSplits_walk (s : ByteArray) (w : World) (hL : Laid w) : Calls Tryd.prog 4 #[.string s] w fun e w' => e = .returned (.bool true) ∧ Below w.heap.size w w' := by
  by_cases hs : 8000 < s.size
  · exact markSplits_big s w hL hs
  · exact markSplits_in s w hL (by omega)
namespace lawMarkSplits
open Go.ChangeShapes Go.WideShapes Go.ChangeAt Go.RowKit
theorem own : ownKnob Tryd.prog.godebug = none := by kernel_rfl
theorem laidOut : laidOutB Tryd.prog = true := by kernel_rfl
theorem gTab0 : Tryd.prog.globalNamed "aquatint/zig.order" = some 0 := by kernel_rfl
theorem gTabType0 : (Tryd.prog.globals[0]?).map (·.type) = some 153 := by kernel_rfl
theorem cellsT : Tryd.prog.cellsOf 153 = 64 := by kernel_rfl
theorem cellsE : Tryd.prog.cellsOf 3 = 1 := by kernel_rfl
theorem table {W : World} (h : laidMetH Tryd.prog Rows.markSplitsRow.laid W) : Lib.TabIs Tryd.prog W "aquatint/zig.order" .i64 (ordL.map fun (n : Nat) => (n : Int)) :=
  Lib.tabIs_of_head (rest := []) gTab0 gTabType0 Tryd.underlying153 Tryd.underlying3 cellsE cellsT h
theorem laid_of {W : World} (h : laidMetH Tryd.prog Rows.markSplitsRow.laid W) : Laid W := by
  have H : ∀ k, k < 64 → W.cell? ⟨0, k, none⟩ = some (.int .i64 (ord k)) := fun k hk => by
    have h1 := (table h).cell gTab0 k (by simpa [ordL] using hk)
    rw [h1]
    have h2 : ord k = ordL[k]'(by simpa [ordL] using hk) := by
      unfold ord
      rw [List.getD_eq_getElem?_getD, List.getElem?_eq_getElem (by simpa [ordL] using hk)]
      rfl
    rw [h2, List.getD_eq_getElem?_getD, List.getElem?_map, List.getElem?_eq_getElem (by simpa [ordL] using hk)]
    rfl
  exact ⟨block_lt_of_cell (H 0 (by omega)), H⟩
open Go.ChangeMaps (open_string shut_string)
theorem contract (H : Type) (enc : TypeId × Value → H) (W : World) (base : Nat) (args : Array Value) (ds gs : List (DataW H)) (before : List MemPlace)
    (hval : ∀ (j : Nat) t v, Tryd.f4.params[j]? = some t → args[j]? = some v → Value.okWide Tryd.prog W .any base t v)
    (hW : DataW.Whole enc Tryd.prog Tryd.f4.params.toList Rows.markSplitsSpec.vars false W args.toList ds gs before) (hL : laidMetH Tryd.prog Rows.markSplitsRow.laid W) (_hsz : (DataW.weightsEach Tryd.prog (Tryd.f4.params.toList ++ (OpenSpec.ofChange Rows.markSplitsSpec).bare.plain.varTypes Tryd.prog) (ds ++ gs)).all (· ≤ reachBytes) = true) :
    Calls Tryd.prog 4 args W fun e W' => ∃ v, e = .returned v ∧ Rows.markSplitsSpec.post enc Tryd.prog Tryd.f4 false true false false W args v W' := by
  have hW' := hW
  obtain ⟨p, q, hA0, hV, hbefore, hfz, hnd⟩ := hW
  obtain ⟨rfl, rfl⟩ := trodVars_none hV
  have hA : DataW.TrodAll enc Tryd.prog W 0 (fun _ => true) true Tryd.f4.params.toList args.toList ds p := hA0
  rw [Tryd.params4] at hA hval
  obtain ⟨v0, vs1, d0, ds1, p0, q0, hargs, rfl, hps, h0, r0⟩ := trodAll_cons hA
  obtain ⟨rfl, rfl, rfl⟩ := trodAll_nil r0
  obtain rfl : args = #[v0] := by cases args; simp_all
  have o0 := hval 0 9 v0 rfl rfl
  clear hA0
  obtain ⟨y, rfl, rfl, rfl, wy⟩ := open_string Tryd.underlying9 o0 h0
  refine (markSplits_walk y W (laid_of hL)).mono fun e W' ⟨he, hb⟩ => ?_
  subst he
  exact ⟨_, rfl, law_post laidOut (by rw [Tryd.params4]; intro t ht; simp only [List.mem_cons, List.not_mem_nil, or_false] at ht; subst ht; exact ⟨by kernel_rfl, of_decide_eq_true (by kernel_rfl)⟩) (by kernel_rfl) Tryd.underlying4 hW' rfl rfl hb⟩
theorem gTab : Tryd.prog.globalNamed "aquatint/zig.order" = some 0 := by kernel_rfl
theorem gTabType : (Tryd.prog.globals[0]?).map (·.type) = some 153 := by kernel_rfl
/-- A world for the witness: the settled one, the table holding what its initialiser lays. -/
noncomputable def laidWorld (os : Os) : World :=
  { World.holding Tryd.prog os ⟨#[], #[], []⟩ with heap := (World.holding Tryd.prog os ⟨#[], #[], []⟩).heap.modify 0 fun
      | .cells _ t frozen => .cells #[.int .i64 0, .int .i64 1, .int .i64 8, .int .i64 16, .int .i64 9, .int .i64 2, .int .i64 3, .int .i64 10, .int .i64 17, .int .i64 24, .int .i64 32, .int .i64 25, .int .i64 18, .int .i64 11, .int .i64 4, .int .i64 5, .int .i64 12, .int .i64 19, .int .i64 26, .int .i64 33, .int .i64 40, .int .i64 48, .int .i64 41, .int .i64 34, .int .i64 27, .int .i64 20, .int .i64 13, .int .i64 6, .int .i64 7, .int .i64 14, .int .i64 21, .int .i64 28, .int .i64 35, .int .i64 42, .int .i64 49, .int .i64 56, .int .i64 57, .int .i64 50, .int .i64 43, .int .i64 36, .int .i64 29, .int .i64 22, .int .i64 15, .int .i64 23, .int .i64 30, .int .i64 37, .int .i64 44, .int .i64 51, .int .i64 58, .int .i64 59, .int .i64 52, .int .i64 45, .int .i64 38, .int .i64 31, .int .i64 39, .int .i64 46, .int .i64 53, .int .i64 60, .int .i64 61, .int .i64 54, .int .i64 47, .int .i64 55, .int .i64 62, .int .i64 63] t frozen
      | o => o }
theorem laid_met (os : Os) : laidMet Tryd.prog Rows.markSplitsRow.laid ((laidWorld os).forCall (fun _ _ => 0) ⟨#[], #[Value.string ⟨#[]⟩], []⟩).memory :=
  laidMet_of_run' 8 (by kernel_rfl) (by kernel_rfl)
theorem reads (os : Os) {H : Type} (enc : TypeId × Value → H) : ∃ places, DataW.whole enc Tryd.prog ((laidWorld os).forCall (fun _ _ => 0) ⟨#[], #[Value.string ⟨#[]⟩], []⟩).memory Tryd.f4.params.toList Rows.markSplitsSpec.vars false #[Value.string ⟨#[]⟩].toList 8 = some ([.lit (.string [])], [], places) :=
  ⟨[], by kernel_rfl⟩
set_option maxRecDepth 100000 in
theorem lifted (os : Os) (started : os.Started) (H : Type) (enc : TypeId × Value → H) (F : Stop.Interp) :
    ReturnsInHanded {} Tryd.checked os 4 .any ((OpenSpec.ofChange Rows.markSplitsSpec).preRow enc Tryd.prog Tryd.f4 Rows.markSplitsRow.domain false Rows.markSplitsRow.laid) (((OpenSpec.ofChange Rows.markSplitsSpec).at F).post enc Tryd.prog Tryd.f4 false true false false) := by
  obtain ⟨places, hx⟩ := reads os enc
  refine returnsInHanded_of_row (C := Tryd.checked) (s := (OpenSpec.ofChange Rows.markSplitsSpec)) own started (by kernel_rfl) Tryd.func4
    (witness_row_at (enc := enc) (C := Tryd.checked) false (laidWorld os) #[Value.string ⟨#[]⟩] rfl (by kernel_rfl) (by kernel_rfl) (by kernel_rfl)
      (OpenSpec.preRow_of_cond 8 hx (by kernel_rfl) (fun k hk => by cases hk) (by kernel_rfl) (laid_met os))) ?_
  intro W base args ds gs before hval hW _ _ hsz hL _ _
  exact contract H enc W base args ds gs before hval hW hL hsz
theorem said : Rows.MarkSplitsSaid :=
  OpenClaim.holds_of_cond 4 Tryd.f4 rfl rfl rfl rfl rfl rfl rfl ⟨rfl, rfl, rfl, rfl, rfl⟩ rfl rfl rfl rfl rfl (by kernel_rfl) Tryd.func4 (by kernel_rfl)
    (of_decide_eq_true (by kernel_rfl)) (by unfold Func.isWrapper; first | (rw [if_pos (by decide +kernel)]; kernel_rfl) | (rw [if_neg (by decide +kernel)]; exact ⟨rfl, rfl⟩))
    (fun os started H enc _ F => by rw [OpenClaim.pre_eq_preRow]; exact lifted os started H enc F)
theorem plain (f : FuncId) (fn : Func) (hf : Tryd.pinned.checked.prog.funcNamed "aquatint/aquatintlaw08.MarkSplits" = some f) (hfn : Tryd.pinned.checked.prog.funcs[f]? = some fn) :
    true = Tryd.pinned.checked.prog.looks [] ∧ ∀ (j : Nat) t, fn.params[j]? = some t → Tryd.pinned.checked.prog.wantsStandIn t = false := by
  obtain rfl : f = 4 := Option.some.inj ((show Tryd.prog.funcNamed "aquatint/aquatintlaw08.MarkSplits" = some 4 by kernel_rfl).symm.trans hf) |>.symm
  obtain rfl : fn = Tryd.f4 := (Option.some.inj (Tryd.func4.symm.trans hfn)).symm
  refine ⟨by kernel_rfl, fun j t ht => ?_⟩
  rw [Tryd.params4] at ht
  have hm := Array.mem_of_getElem? ht
  simp only [List.mem_toArray, List.mem_cons, List.not_mem_nil, or_false] at hm
  subst hm
  exact (show Tryd.prog.wantsStandIn 9 = false by kernel_rfl)
/-- The card. -/
theorem card : Rows.MarkSplitsCardSaid :=
  Claim7.holds_tied_plain_at .later [] _ _ _ _ said (fun _ h => by cases h) (by kernel_rfl) (fun _ h => by cases h) markSplits_row_tie rfl ⟨rfl, rfl⟩ (by kernel_rfl) rfl plain (by kernel_rfl)
#print axioms card
end lawMarkSplits
end Go.Proofs.YthibnhgbgmpjoaaDoor
