/- The metadata of any file's pieces is what stands in it, in order. No condition but the card's own: the table holds what the program's text lays. -/
import Derived.Test.YthibnhgbgmpjoaaDoorHMkH
import Derived.Test.YthibnhgbgmpjoaaDoorHGI
import Derived.Test.YthibnhgbgmpjoaaDoorCards
import Derived.Test.YthibnhgbgmpjoaaDoorTie
import Derived.Deep.DeepHandedRow
import Derived.Lib.LaidTab
namespace Go.Proofs.YthibnhgbgmpjoaaDoor
open Go.RowKit
set_option linter.unusedSimpArgs false
set_option linter.unusedVariables false
set_option maxRecDepth 100000
theorem ex1 : (spF ⟨#[255, 216, 255, 254, 0, 4, 104, 105, 255, 217]⟩).2 = (0, 0) ∧ ((spF ⟨#[255, 216, 255, 254, 0, 4, 104, 105, 255, 217]⟩).1.map Pc.at_) = [2] := by constructor <;> kernel_rfl
theorem ex2 : (spF ⟨#[255, 216, 255, 217, 0]⟩).2 = (4, 4) := by kernel_rfl
set_option maxHeartbeats 1000000 in
theorem awake8 (w : World) (hL : Laid w) : Calls Tryd.prog 7 #[] w fun e w' => e = .returned (.bool true) ∧ Below w.heap.size w w' := by
  have h1 := splitF_walk ⟨#[255, 216, 255, 254, 0, 4, 104, 105, 255, 217]⟩ w hL
  have h2 := fun W hL => splitF_walk ⟨#[255, 216, 255, 217, 0]⟩ W hL
  unfold SplitFPost at h1 h2
  rw [ex1.1] at h1
  rw [ex2] at h2
  have hl : (spF ⟨#[255, 216, 255, 254, 0, 4, 104, 105, 255, 217]⟩).1.length = 1 := by have := congrArg List.length ex1.2; simpa using this
  obtain ⟨m, hm⟩ : ∃ m, m = (spF ⟨#[255, 216, 255, 254, 0, 4, 104, 105, 255, 217]⟩).1 := ⟨_, rfl⟩
  have hat : m.map Pc.at_ = [2] := by rw [hm]; exact ex1.2
  rw [← hm] at h1 hl
  have HS1 := Lib.hid h1; have HS2 := Lib.hid h2; have HL := Lib.hid hL
  clear h1 h2 hm hL
  go_enter Tryd.func7, Tryd.ntmps7
  go_upto_region 3 with (first | (go_at_call 8; refine (HS1.out).mono ?_; rintro ex w1 ⟨v, l, rfl, hO, hP, hb1⟩; have HO1 := Lib.hid hO; have HP1 := Lib.hid hP; have HB1 := Lib.hid hb1; clear hO hP hb1 HS1) | (go_at_call 8; refine (HS2.out _ (HL.out.below HB1.out)).mono ?_; rintro ex w2 ⟨v2, l2, rfl, _, _, hb2⟩; have HB2 := Lib.hid hb2; clear hb2))
  obtain ⟨A, cp, hv, _⟩ := HO1.out.form
  have hll : l.length = 1 := by rw [HP1.out.1]; exact hl
  rw [hll] at hv
  subst hv
  have h2 := HO1.out.bel HB2.out
  rw [← hll] at h2
  obtain ⟨g, rfl, hg1, hg2, hcl⟩ := h2.at_ Pv.is (show 0 < l.length by omega)
  have q0 : w2.cell? ⟨g, 0, none⟩ = some (.int .i64 2) := by
    have h3 := hcl 0 (by decide)
    have h4 := (HP1.out.2 0 (by omega) (by omega)).1
    have h5 : m[0].at_ = 2 := by
      have := congrArg (fun z => z[0]?) hat
      simp only [List.getElem?_map] at this
      rw [List.getElem?_eq_getElem (by omega)] at this
      simpa using this
    rw [Nat.zero_mul] at h3
    rw [h3]
    simp only [Pv.cells]
    rw [h4, h5]
    rfl
  clear h2 hcl hg1 hg2
  go_wp2_with fail
  go_ret
  exact ⟨rfl, HB1.out.trans (HB2.out.mono HB1.out.size)⟩
theorem gd_tag {p : Pc} (h : Gd p) : (sgC p.x < 224 → tgOf p.x = none) ∧ (224 ≤ sgC p.x → tgOf p.x = some (sgC p.x, p.body)) := by
  rcases prG_cases h.e with ⟨h1, l, hG⟩ | ⟨h1, l, hG⟩ | ⟨h1, l, a, b, hi, lo, hG⟩ | ⟨h1, n, hG⟩ | ⟨h0, h1, hh, ww, l, hG⟩ | ⟨h1, h0, hG⟩
  · exact ⟨fun _ => by rw [h.x, hG]; rfl, fun h2 => by omega⟩
  · exact ⟨fun _ => by rw [h.x, hG]; rfl, fun h2 => by omega⟩
  · exact ⟨fun _ => by rw [h.x, hG]; rfl, fun h2 => by omega⟩
  · exact ⟨fun _ => by rw [h.x, hG]; rfl, fun h2 => by omega⟩
  · exact ⟨fun _ => by rw [h.x, hG]; rfl, fun h2 => by omega⟩
  · refine ⟨fun h2 => by omega, fun _ => ?_⟩
    obtain ⟨c, hc⟩ : ∃ c, c = sgC p.x := ⟨_, rfl⟩
    rw [← hc] at hG ⊢
    have hx := h.x
    rw [← hc, hG] at hx
    rw [hx]; rfl
theorem tgs_take {m : List Pc} {k : Nat} (h : k < m.length) : tgs (m.take (k + 1)) = tgs (m.take k) ++ (match tgOf m[k].x with | some t => [t] | none => []) := by
  rw [List.take_succ_eq_append_getElem h, tgs_snoc]
  cases tgOf m[k].x <;> rfl
theorem tgs_pre (m : List Pc) (k : Nat) : ∃ r, tgs m = tgs (m.take k) ++ r := by
  refine ⟨tgs (m.drop k), ?_⟩
  unfold tgs
  rw [← List.filterMap_append, List.take_append_drop]
theorem rp_c1 {p : Rp} {c : Int} (h : p.cs[0]? = some (.int .i64 c)) : (Rp.cells p)[1]? = some (.int .i64 c) := by
  obtain ⟨a, cs, hz, h1, body, data⟩ := p
  obtain ⟨v0, v1, v2, v3, v4, v5, v6, v7, v8, v9, v10, v11, v12, rfl⟩ := arr13 hz
  exact h
theorem rp_c14 (p : Rp) : (Rp.cells p)[14]? = some (.string p.body) := by
  obtain ⟨a, cs, hz, h1, body, data⟩ := p
  obtain ⟨v0, v1, v2, v3, v4, v5, v6, v7, v8, v9, v10, v11, v12, rfl⟩ := arr13 hz
  rfl
theorem markTags_big (s : ByteArray) (w : World) (hL : Laid w) (hs : 8000 < s.size) : Calls Tryd.prog 3 #[.string s] w fun e w' => e = .returned (.bool true) ∧ Below w.heap.size w w' := by
  have HL := Lib.hid hL; clear hL
  go_enter Tryd.func3, Tryd.ntmps3
  go_wp2_with (first | (go_at_call 7; have HB0 := Lib.hid HB.out; refine (awake8 _ (HL.out.below HB.out)).mono ?_; rintro ex w2 ⟨rfl, hb2⟩; have HB2 := Lib.hid (HB.out.trans (hb2.mono HB.out.size)); clear hb2) | (go_at_call 7; refine (awake8 _ HL.out).mono ?_; rintro ex w1 ⟨rfl, hb1⟩; have HB := Lib.hid hb1; clear hb1))
  go_ret
  exact ⟨rfl, HB2.out⟩
set_option maxHeartbeats 4000000 in
theorem markTags_in (s : ByteArray) (w : World) (hL : Laid w) (hs : s.size ≤ 8000) : Calls Tryd.prog 3 #[.string s] w fun e w' => e = .returned (.bool true) ∧ Below w.heap.size w w' := by
  have HL := Lib.hid hL; clear hL
  have HSP := Lib.hid (fun W hL => splitF_walk s W hL)
  have HRS := Lib.hid (fun W => refSplit_walk s W)
  have hno := spF_no (s := s)
  have hgd := fun m b => spF_good (s := s) (m := m) (b := b)
  obtain ⟨R, hR⟩ : ∃ R, R = spF s := ⟨_, rfl⟩
  unfold SplitFPost at HSP
  unfold RSplitPost at HRS
  rw [← hR] at HSP HRS hno hgd
  obtain ⟨m, b, e⟩ := R
  dsimp only at HSP HRS hno hgd
  clear hR
  by_cases he : e = 0
  case neg =>
    obtain rfl : m = [] := hno he
    have d1 : (e == 0) = false := by simpa using he
    have d2 : (e != 0) = true := by simpa using he
    clear hgd hno he HRS
    go_enter Tryd.func3, Tryd.ntmps3
    go_upto_region 5 with (first | (go_at_call 7; refine (awake8 _ HL.out).mono ?_; rintro ex w1 ⟨rfl, hb1⟩; have HB := Lib.hid hb1; clear hb1) | (go_at_call 8; refine (HSP.out _ (HL.out.below HB.out)).mono ?_; rintro ex w2 ⟨v, l, rfl, hO, hP, hb2⟩; have HO := Lib.hid hO; have HP := Lib.hid hP; have HB2 := Lib.hid (HB.out.trans (hb2.mono HB.out.size)); clear hO hP hb2))
    obtain ⟨A, cp, hv, _⟩ := HO.out.form
    subst hv
    have HT := Lib.hid (tags_walk w2 _ A cp l [] HO.out HP.out (by rw [HP.out.1]; exact Nat.zero_le _))
    go_wp2_with (go_at_call 9; refine (HT.out).mono ?_; rintro ex w3 ⟨v3, rfl, hO3, hb3⟩; obtain ⟨A3, cp3, hv3, _⟩ := hO3.form; subst hv3; have HB3 := Lib.hid (HB2.out.trans (hb3.mono HB2.out.size)); clear hO3 hb3)
    go_ret
    exact ⟨rfl, HB3.out⟩
  case pos =>
  obtain rfl := he
  obtain ⟨hb0, hg, hlen, _⟩ := hgd m b rfl
  have hml : m.length ≤ 8000 := by have := lenP_ge m; omega
  have HG := Lib.hid hg
  clear hgd hno hg hlen hb0
  go_enter Tryd.func3, Tryd.ntmps3
  go_upto_region 7 with (first | (go_at_call 7; refine (awake8 _ HL.out).mono ?_; rintro ex w1 ⟨rfl, hb1⟩; have HB := Lib.hid hb1; clear hb1) | (go_at_call 8; refine (HSP.out _ (HL.out.below HB.out)).mono ?_; rintro ex w2 ⟨v, l, rfl, hO, hP, hb2⟩; have HO := Lib.hid hO; have HP := Lib.hid hP; have HB2 := Lib.hid (HB.out.trans (hb2.mono HB.out.size)); clear hO hP hb2) | (go_at_call 10; refine (HRS.out _).mono ?_; rintro ex w3 ⟨v2, l2, rfl, hO3, hP3, hb3⟩; have HO2 := Lib.hid (HO.out.bel hb3); have HP2 := Lib.hid (HP.out.bel hb3); have HO3 := Lib.hid hO3; have HP3 := Lib.hid hP3; have HB3 := Lib.hid (HB2.out.trans (hb3.mono HB2.out.size)); clear hO3 hP3 hb3))
  obtain ⟨A, cp, hv, _⟩ := HO2.out.form
  subst hv
  obtain ⟨B, cp2, hv2, _⟩ := HO3.out.form
  subst hv2
  have HT := Lib.hid (tags_walk w3 _ A cp l m HO2.out HP2.out (by rw [HP2.out.1]; omega))
  have hl2 : l2.length = m.length := HP3.out.1
  rw [hl2]
  go_upto_region 8 with (go_at_call 9; refine (HT.out).mono ?_; rintro ex w4 ⟨v3, rfl, hO4, hb4⟩; have HO4 := Lib.hid hO4; have HO5 := Lib.hid (HO3.out.bel hb4); have HB4 := Lib.hid (HB3.out.trans (hb4.mono HB3.out.size)); clear hO4 hb4)
  obtain ⟨C, cp3, hv3, _⟩ := HO4.out.form
  subst hv3
  clear HT HO HP HO2 HP2 HO3 HB HB2 HB3 HSP HRS
  obtain ⟨N, hN⟩ : ∃ N, N = (tgs m).length := ⟨_, rfl⟩
  rw [← hN]
  have HN := Lib.hid hN
  clear hN
  go_wp2_with fail
  go_loopw [10, 11] (fun n i wr => ∃ k j : Nat, k ≤ m.length ∧ i = .int .i64 k ∧ n = .int .i64 j ∧ Hid (j = (tgs (m.take k)).length) ∧ Hid (Below w4.heap.size w4 wr)) (fun _ i _ => m.length - (intOf i).toNat)
  case atStart => exact ⟨0, 0, by omega, rfl, rfl, Lib.hid rfl, Lib.hid (Below.refl _ _)⟩
  case round =>
    obtain ⟨k, j, hk, rfl, rfl, HJ, HB⟩ := hrel
    by_cases hkl : k < m.length
    case neg =>
      obtain rfl : k = m.length := by omega
      have HF : Hid (j = N) := Lib.hid (by rw [HJ.out, List.take_length, HN.out])
      go_wp2_with fail
      go_ret
      exact ⟨by rw [HF.out] <;> simp, HB4.out.trans (HB.out.mono HB4.out.size)⟩
    case pos =>
    have hgk := HG.out m[k] (List.getElem_mem hkl)
    obtain ⟨t1, t2⟩ := gd_tag hgk
    have htk := tgs_take hkl
    have hkl2 : k < l2.length := by omega
    obtain ⟨gb, hgbA, hgb1, hgb, hcb⟩ := (HO5.out.bel HB.out).at_ Rp.is hkl2
    obtain ⟨r1, r2, r3, r4⟩ := HP3.out.2 k hkl2 hkl
    subst hgbA
    obtain ⟨cc, hcc⟩ : ∃ cc, cc = sgC m[k].x := ⟨_, rfl⟩
    obtain ⟨bb, hbb⟩ : ∃ bb, bb = m[k].body := ⟨_, rfl⟩
    rw [← hcc] at t1 t2 r4
    rw [← hbb] at t2 r2
    have e2 : wr.cell? ⟨gb, k * 16 + 1, none⟩ = some (.int .i64 cc) := by rw [hcb 1 (by decide)]; exact rp_c1 r4
    have e3 : wr.cell? ⟨gb, k * 16 + 14, none⟩ = some (.string bb) := by rw [hcb 14 (by decide), rp_c14, r2]
    clear hcb r1 r2 r3 r4 hcc hbb hgk
    by_cases h224 : cc < 224
    case pos =>
      have HJ2 : Hid (j = (tgs (m.take (k + 1))).length) := Lib.hid (by rw [htk, t1 h224, HJ.out]; simp)
      clear htk t1 t2
      go_wp2_with fail
      go_roundw
      case rel => exact ⟨k + 1, j, by omega, by go_num, by first | rfl | trivial, HJ2, HB⟩
      case measure => simp [intOf]; omega
    case neg =>
      have ht := t2 (by omega)
      rw [ht] at htk
      obtain ⟨r, hr⟩ := tgs_pre m (k + 1)
      have hjn : j < (tgs m).length := by rw [hr, htk, HJ.out]; simp only [List.length_append, List.length_cons, List.length_nil]; omega
      have hjt : (tgs m)[j] = (cc, bb) := by
        have h1 : (tgs m)[j]? = some (cc, bb) := by
          rw [hr, htk, List.append_assoc, HJ.out, List.getElem?_append_right (Nat.le_refl _)]
          simp
        rw [List.getElem?_eq_getElem hjn] at h1
        exact Option.some.inj h1
      have HJ2 : Hid (j + 1 = (tgs (m.take (k + 1))).length) := Lib.hid (by rw [htk, HJ.out]; simp)
      obtain ⟨ga, hgaA, hga1, hga, hca⟩ := (HO4.out.bel HB.out).at_ tgIs hjn
      subst hgaA
      rw [hjt] at hca
      have e0 : wr.cell? ⟨ga, j * 2, none⟩ = some (.int .i64 cc) := hca 0 (by decide)
      have e1 : wr.cell? ⟨ga, j * 2 + 1, none⟩ = some (.string bb) := hca 1 (by decide)
      have Hf0 := Lib.hid e0; have Hf1 := Lib.hid e1; have Hf2 := Lib.hid e2; have Hf3 := Lib.hid e3
      have hjN : j < N := by rw [HN.out]; exact hjn
      have hN8 : N ≤ 8000 := by have := tgs_len m; rw [HN.out]; omega
      have dN : decide ((N : Int) ≤ (j : Int)) = false := by simp; omega
      have dC : (cc != cc) = false := by simp
      have dN2 : decide (N ≤ j) = false := by simp; omega
      clear htk t1 t2 ht hr hjn hjt hca e0 e1
      go_upto_region 13 with fail
      clear e2 e3
      refine region_plan (.run [0, 1, 2, 3, 4, 5, 6, 7, 8, 9, 10, 11, 12, 13, 14, 15, 16, 17, 18, 19, 20, 21, 22, 23, 24, 25, 26, 27, 28, 29, 30] .fin) (fun w' => True) (by kernel_rfl) trivial ?_
      intro wd hwd
      have hbd : Below wr.heap.size wr wd := hwd ▸ (Below.refl _ wr).drew
      have HBd := Lib.hid (HB.out.trans (hbd.mono HB.out.size))
      have f0 : wd.cell? ⟨ga, j * 2, none⟩ = some (.int .i64 cc) := (hbd.cell (p := ⟨ga, j * 2, none⟩) hga).trans Hf0.out
      have f1 : wd.cell? ⟨ga, j * 2 + 1, none⟩ = some (.string bb) := (hbd.cell (p := ⟨ga, j * 2 + 1, none⟩) hga).trans Hf1.out
      have f2 : wd.cell? ⟨gb, k * 16 + 1, none⟩ = some (.int .i64 cc) := (hbd.cell (p := ⟨gb, k * 16 + 1, none⟩) hgb).trans Hf2.out
      have f3 : wd.cell? ⟨gb, k * 16 + 14, none⟩ = some (.string bb) := (hbd.cell (p := ⟨gb, k * 16 + 14, none⟩) hgb).trans Hf3.out
      clear hbd
      clear hwd
      refine plan_run fun m hm => ?_
      simp only [pickO, List.filterMap_cons, List.filterMap_nil, List.getElem?_toArray, List.getElem?_cons_zero, List.getElem?_cons_succ] at hm
      subst hm
      go_wp2_with fail
      refine ⟨rfl, by rfl, ?_⟩
      refine plan_fin ?_
      go_wp2_with fail
      go_roundw
      case rel => exact ⟨k + 1, j + 1, by omega, by go_num, by go_num, HJ2, HBd⟩
      case measure => simp [intOf]; omega
theorem markTags_walk (s : ByteArray) (w : World) (hL : Laid w) : Calls Tryd.prog 3 #[.string s] w fun e w' => e = .returned (.bool true) ∧ Below w.heap.size w w' := by
  by_cases hs : 8000 < s.size
  · exact markTags_big s w hL hs
  · exact markTags_in s w hL (by omega)
namespace lawMarkTags
open Go.ChangeShapes Go.WideShapes Go.ChangeAt Go.RowKit
theorem own : ownKnob Tryd.prog.godebug = none := by kernel_rfl
theorem laidOut : laidOutB Tryd.prog = true := by kernel_rfl
theorem gTab0 : Tryd.prog.globalNamed "aquatint/zig.order" = some 0 := by kernel_rfl
theorem gTabType0 : (Tryd.prog.globals[0]?).map (·.type) = some 153 := by kernel_rfl
theorem cellsT : Tryd.prog.cellsOf 153 = 64 := by kernel_rfl
theorem cellsE : Tryd.prog.cellsOf 3 = 1 := by kernel_rfl
theorem table {W : World} (h : laidMetH Tryd.prog Rows.markTagsRow.laid W) : Lib.TabIs Tryd.prog W "aquatint/zig.order" .i64 (ordL.map fun (n : Nat) => (n : Int)) :=
  Lib.tabIs_of_head (rest := []) gTab0 gTabType0 Tryd.underlying153 Tryd.underlying3 cellsE cellsT h
theorem laid_of {W : World} (h : laidMetH Tryd.prog Rows.markTagsRow.laid W) : Laid W := by
  have H : ∀ k, k < 64 → W.cell? ⟨0, k, none⟩ = some (.int .i64 (ord k)) := fun k hk => by
    have h1 := (table h).cell gTab0 k (by simpa [ordL] using hk)
    rw [h1]
    have h2 : ord k = ordL[k]'(by simpa [ordL] using hk) := by
      unfold ord
      rw [List.getD_eq_getElem?_getD, List.getElem?_eq_getElem (by simpa [ordL] using hk)]
      rfl
    rw [h2, List.getD_eq_getElem?_getD, List.getElem?_map, List.getElem?_eq_getElem (by simpa [ordL] using hk)]
    rfl
  exact ⟨block_lt_of_cell (H 0 (by omega)), H⟩
open Go.ChangeMaps (open_string shut_string)
theorem contract (H : Type) (enc : TypeId × Value → H) (W : World) (base : Nat) (args : Array Value) (ds gs : List (DataW H)) (before : List MemPlace)
    (hval : ∀ (j : Nat) t v, Tryd.f3.params[j]? = some t → args[j]? = some v → Value.okWide Tryd.prog W .any base t v)
    (hW : DataW.Whole enc Tryd.prog Tryd.f3.params.toList Rows.markTagsSpec.vars false W args.toList ds gs before) (hL : laidMetH Tryd.prog Rows.markTagsRow.laid W) (_hsz : (DataW.weightsEach Tryd.prog (Tryd.f3.params.toList ++ (OpenSpec.ofChange Rows.markTagsSpec).bare.plain.varTypes Tryd.prog) (ds ++ gs)).all (· ≤ reachBytes) = true) :
    Calls Tryd.prog 3 args W fun e W' => ∃ v, e = .returned v ∧ Rows.markTagsSpec.post enc Tryd.prog Tryd.f3 false true false false W args v W' := by
  have hW' := hW
  obtain ⟨p, q, hA0, hV, hbefore, hfz, hnd⟩ := hW
  obtain ⟨rfl, rfl⟩ := trodVars_none hV
  have hA : DataW.TrodAll enc Tryd.prog W 0 (fun _ => true) true Tryd.f3.params.toList args.toList ds p := hA0
  rw [Tryd.params3] at hA hval
  obtain ⟨v0, vs1, d0, ds1, p0, q0, hargs, rfl, hps, h0, r0⟩ := trodAll_cons hA
  obtain ⟨rfl, rfl, rfl⟩ := trodAll_nil r0
  obtain rfl : args = #[v0] := by cases args; simp_all
  have o0 := hval 0 9 v0 rfl rfl
  clear hA0
  obtain ⟨y, rfl, rfl, rfl, wy⟩ := open_string Tryd.underlying9 o0 h0
  refine (markTags_walk y W (laid_of hL)).mono fun e W' ⟨he, hb⟩ => ?_
  subst he
  exact ⟨_, rfl, law_post laidOut (by rw [Tryd.params3]; intro t ht; simp only [List.mem_cons, List.not_mem_nil, or_false] at ht; subst ht; exact ⟨by kernel_rfl, of_decide_eq_true (by kernel_rfl)⟩) (by kernel_rfl) Tryd.underlying4 hW' rfl rfl hb⟩
theorem gTab : Tryd.prog.globalNamed "aquatint/zig.order" = some 0 := by kernel_rfl
theorem gTabType : (Tryd.prog.globals[0]?).map (·.type) = some 153 := by kernel_rfl
/-- A world for the witness: the settled one, the table holding what its initialiser lays. -/
noncomputable def laidWorld (os : Os) : World :=
  { World.holding Tryd.prog os ⟨#[], #[], []⟩ with heap := (World.holding Tryd.prog os ⟨#[], #[], []⟩).heap.modify 0 fun
      | .cells _ t frozen => .cells #[.int .i64 0, .int .i64 1, .int .i64 8, .int .i64 16, .int .i64 9, .int .i64 2, .int .i64 3, .int .i64 10, .int .i64 17, .int .i64 24, .int .i64 32, .int .i64 25, .int .i64 18, .int .i64 11, .int .i64 4, .int .i64 5, .int .i64 12, .int .i64 19, .int .i64 26, .int .i64 33, .int .i64 40, .int .i64 48, .int .i64 41, .int .i64 34, .int .i64 27, .int .i64 20, .int .i64 13, .int .i64 6, .int .i64 7, .int .i64 14, .int .i64 21, .int .i64 28, .int .i64 35, .int .i64 42, .int .i64 49, .int .i64 56, .int .i64 57, .int .i64 50, .int .i64 43, .int .i64 36, .int .i64 29, .int .i64 22, .int .i64 15, .int .i64 23, .int .i64 30, .int .i64 37, .int .i64 44, .int .i64 51, .int .i64 58, .int .i64 59, .int .i64 52, .int .i64 45, .int .i64 38, .int .i64 31, .int .i64 39, .int .i64 46, .int .i64 53, .int .i64 60, .int .i64 61, .int .i64 54, .int .i64 47, .int .i64 55, .int .i64 62, .int .i64 63] t frozen
      | o => o }
theorem laid_met (os : Os) : laidMet Tryd.prog Rows.markTagsRow.laid ((laidWorld os).forCall (fun _ _ => 0) ⟨#[], #[Value.string ⟨#[]⟩], []⟩).memory :=
  laidMet_of_run' 8 (by kernel_rfl) (by kernel_rfl)
theorem reads (os : Os) {H : Type} (enc : TypeId × Value → H) : ∃ places, DataW.whole enc Tryd.prog ((laidWorld os).forCall (fun _ _ => 0) ⟨#[], #[Value.string ⟨#[]⟩], []⟩).memory Tryd.f3.params.toList Rows.markTagsSpec.vars false #[Value.string ⟨#[]⟩].toList 8 = some ([.lit (.string [])], [], places) :=
  ⟨[], by kernel_rfl⟩
set_option maxRecDepth 100000 in
theorem lifted (os : Os) (started : os.Started) (H : Type) (enc : TypeId × Value → H) (F : Stop.Interp) :
    ReturnsInHanded {} Tryd.checked os 3 .any ((OpenSpec.ofChange Rows.markTagsSpec).preRow enc Tryd.prog Tryd.f3 Rows.markTagsRow.domain false Rows.markTagsRow.laid) (((OpenSpec.ofChange Rows.markTagsSpec).at F).post enc Tryd.prog Tryd.f3 false true false false) := by
  obtain ⟨places, hx⟩ := reads os enc
  refine returnsInHanded_of_row (C := Tryd.checked) (s := (OpenSpec.ofChange Rows.markTagsSpec)) own started (by kernel_rfl) Tryd.func3
    (witness_row_at (enc := enc) (C := Tryd.checked) false (laidWorld os) #[Value.string ⟨#[]⟩] rfl (by kernel_rfl) (by kernel_rfl) (by kernel_rfl)
      (OpenSpec.preRow_of_cond 8 hx (by kernel_rfl) (fun k hk => by cases hk) (by kernel_rfl) (laid_met os))) ?_
  intro W base args ds gs before hval hW _ _ hsz hL _ _
  exact contract H enc W base args ds gs before hval hW hL hsz
theorem said : Rows.MarkTagsSaid :=
  OpenClaim.holds_of_cond 3 Tryd.f3 rfl rfl rfl rfl rfl rfl rfl ⟨rfl, rfl, rfl, rfl, rfl⟩ rfl rfl rfl rfl rfl (by kernel_rfl) Tryd.func3 (by kernel_rfl)
    (of_decide_eq_true (by kernel_rfl)) (by unfold Func.isWrapper; first | (rw [if_pos (by decide +kernel)]; kernel_rfl) | (rw [if_neg (by decide +kernel)]; exact ⟨rfl, rfl⟩))
    (fun os started H enc _ F => by rw [OpenClaim.pre_eq_preRow]; exact lifted os started H enc F)
theorem plain (f : FuncId) (fn : Func) (hf : Tryd.pinned.checked.prog.funcNamed "aquatint/aquatintlaw08.MarkTags" = some f) (hfn : Tryd.pinned.checked.prog.funcs[f]? = some fn) :
    true = Tryd.pinned.checked.prog.looks [] ∧ ∀ (j : Nat) t, fn.params[j]? = some t → Tryd.pinned.checked.prog.wantsStandIn t = false := by
  obtain rfl : f = 3 := Option.some.inj ((show Tryd.prog.funcNamed "aquatint/aquatintlaw08.MarkTags" = some 3 by kernel_rfl).symm.trans hf) |>.symm
  obtain rfl : fn = Tryd.f3 := (Option.some.inj (Tryd.func3.symm.trans hfn)).symm
  refine ⟨by kernel_rfl, fun j t ht => ?_⟩
  rw [Tryd.params3] at ht
  have hm := Array.mem_of_getElem? ht
  simp only [List.mem_toArray, List.mem_cons, List.not_mem_nil, or_false] at hm
  subst hm
  exact (show Tryd.prog.wantsStandIn 9 = false by kernel_rfl)
/-- The card. -/
theorem card : Rows.MarkTagsCardSaid :=
  Claim7.holds_tied_plain_at .later [] _ _ _ _ said (fun _ h => by cases h) (by kernel_rfl) (fun _ h => by cases h) markTags_row_tie rfl ⟨rfl, rfl⟩ (by kernel_rfl) rfl plain (by kernel_rfl)
#print axioms card
end lawMarkTags
end Go.Proofs.YthibnhgbgmpjoaaDoor
