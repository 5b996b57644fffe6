/- What was split is joined again, to a file that is no longer and is split alike. No condition but the card's own: the table holds what the program's text lays. -/
import Derived.Test.YthibnhgbgmpjoaaDoorHGK
import Derived.Test.YthibnhgbgmpjoaaDoorHMkP
import Derived.Test.YthibnhgbgmpjoaaDoorCards
import Derived.Test.YthibnhgbgmpjoaaDoorTie
import Derived.Deep.DeepHandedRow
import Derived.Lib.LaidTab
namespace Go.Proofs.YthibnhgbgmpjoaaDoor
open Go.RowKit
set_option linter.unusedSimpArgs false
set_option linter.unusedVariables false
set_option maxRecDepth 100000
set_option maxHeartbeats 1000000 in
theorem markBack_big (s : ByteArray) (w : World) (hL : Laid w) (hs : 8000 < s.size) : Calls Tryd.prog 5 #[.string s] w fun e w' => e = .returned (.bool true) ∧ Below w.heap.size w w' := by
  have HL := Lib.hid hL; clear hL
  go_enter Tryd.func5, Tryd.ntmps5
  go_wp2_with (first | (go_at_call 7; have HB0 := Lib.hid HB.out; refine (awake8 _ (HL.out.below HB.out)).mono ?_; rintro ex w2 ⟨rfl, hb2⟩; have HB2 := Lib.hid (HB.out.trans (hb2.mono HB.out.size)); clear hb2) | (go_at_call 7; refine (awake8 _ HL.out).mono ?_; rintro ex w1 ⟨rfl, hb1⟩; have HB := Lib.hid hb1; clear hb1))
  go_ret
  exact ⟨rfl, HB2.out⟩
set_option maxHeartbeats 2000000 in
theorem same8_walk (w : World) (hL : Laid w) (b1 b2 : Nat) (A B : Option Addr) (ca cb : Nat) (la lb : List Pv) (ma mb : List Pc) (hOa : OwnC Pv.cells 3 w b1 48 (.slice A la.length ca) la) (hPa : PcV w b1 la ma) (hOb : OwnC Pv.cells 3 w b2 48 (.slice B lb.length cb) lb) (hPb : PcV w b2 lb mb)
    (hka : ∀ p ∈ ma, p.x.ok ∧ byE p.x = 0) (hkb : ∀ p ∈ mb, p.x.ok ∧ byE p.x = 0) (hs : jnSame ma mb) (hl : la.length ≤ 100000000) :
    Calls Tryd.prog 13 #[.slice A la.length ca, .slice B lb.length cb] w fun e w' => e = .returned (.bool true) ∧ Below w.heap.size w w' := by
  have HOa := Lib.hid hOa; have HPa := Lib.hid hPa; have HOb := Lib.hid hOb; have HPb := Lib.hid hPb; have HKa := Lib.hid hka; have HKb := Lib.hid hkb; have HS := Lib.hid hs; have HL := Lib.hid hL
  have hl1 : lb.length = la.length := by rw [hPb.1, hPa.1, hs.1]
  obtain ⟨n, hn⟩ : ∃ n, n = la.length := ⟨_, rfl⟩
  rw [hl1]
  rw [← hn] at hl ⊢
  have HN : Hid (n = la.length ∧ n = lb.length ∧ n = ma.length ∧ n = mb.length) := Lib.hid ⟨hn, by omega, by rw [hn, hPa.1], by rw [hn, hPa.1, hs.1]⟩
  clear hOa hPa hOb hPb hka hkb hs hL hl1 hn
  have d1 : ((n : Int) != (n : Int)) = false := by simp
  go_enter Tryd.func13, Tryd.ntmps13
  go_wp2_with fail
  clear d1
  go_loopw [5] (fun i wr => ∃ k : Nat, k ≤ n ∧ i = .int .i64 k ∧ Hid (Below w.heap.size w wr)) (fun i _ => n - (intOf i).toNat)
  case atStart => exact ⟨0, by omega, rfl, Lib.hid (Below.refl _ _)⟩
  case round =>
    obtain ⟨k, hk, rfl, HB⟩ := hrel
    by_cases hkl : k < n
    case neg =>
      obtain rfl : n = k := by omega
      go_wp2_with fail
      go_ret
      exact ⟨rfl, HB.out⟩
    case pos =>
    have hk1 : k < la.length := by rw [← HN.out.1]; exact hkl
    have hk2 : k < lb.length := by rw [← HN.out.2.1]; exact hkl
    have hk3 : k < ma.length := by rw [← HN.out.2.2.1]; exact hkl
    have hk4 : k < mb.length := by rw [← HN.out.2.2.2]; exact hkl
    obtain ⟨ga, rfl, hga1, hga, hca⟩ := (HOa.out.bel HB.out).at_ Pv.is hk1
    obtain ⟨gb, rfl, hgb1, hgb, hcb⟩ := (HOb.out.bel HB.out).at_ Pv.is hk2
    obtain ⟨_, p2, p3⟩ := HPa.out.2 k hk1 hk3
    obtain ⟨_, s2, s3⟩ := HPb.out.2 k hk2 hk4
    obtain ⟨ok1, ok2⟩ := HKa.out ma[k] (List.getElem_mem hk3)
    obtain ⟨ok3, ok4⟩ := HKb.out mb[k] (List.getElem_mem hk4)
    obtain ⟨e1, e2⟩ := HS.out.2 k hk3 hk4
    obtain ⟨bs, hbs⟩ : ∃ bs, bs = byS ma[k].x := ⟨_, rfl⟩
    obtain ⟨dd, hdd⟩ : ∃ dd, dd = ma[k].data := ⟨_, rfl⟩
    obtain ⟨q, hq⟩ : ∃ q, q = la[k] := ⟨_, rfl⟩
    obtain ⟨q5, hq5⟩ : ∃ q, q = lb[k] := ⟨_, rfl⟩
    have hby : ∀ W, Below wr.heap.size wr W → Calls Tryd.prog 11 #[la[k].v] W fun e w' => e = .returned (.tuple #[.string bs, .int .i64 0]) ∧ Below W.heap.size W w' := fun W hW => by
      have := bytes_any ((HL.out.below HB.out).below hW) ((p3.bel HB.out).bel hW) ok1
      rw [ok2, ← hbs] at this; exact this
    have hby5 : ∀ W, Below wr.heap.size wr W → Calls Tryd.prog 11 #[lb[k].v] W fun e w' => e = .returned (.tuple #[.string bs, .int .i64 0]) ∧ Below W.heap.size W w' := fun W hW => by
      have := bytes_any ((HL.out.below HB.out).below hW) ((s3.bel HB.out).bel hW) ok3
      rw [ok4, ← e1, ← hbs] at this; exact this
    rw [← e2] at s2
    rw [← hdd] at p2 s2
    rw [← hq] at hca p2 hby
    rw [← hq5] at hcb s2 hby5
    obtain ⟨pa, T, y, dq⟩ := q
    obtain ⟨pa5, T5, y5, dp⟩ := q5
    dsimp only at p2 s2
    subst p2 s2
    have q1 : wr.cell? ⟨ga, k * 3 + 1, none⟩ = some (.iface T y) := hca 1 (by decide)
    have q2 : wr.cell? ⟨ga, k * 3 + 2, none⟩ = some (.string dp) := hca 2 (by decide)
    have u1 : wr.cell? ⟨gb, k * 3 + 1, none⟩ = some (.iface T5 y5) := hcb 1 (by decide)
    have u2 : wr.cell? ⟨gb, k * 3 + 2, none⟩ = some (.string dp) := hcb 2 (by decide)
    have HBY := Lib.hid hby; have HBY5 := Lib.hid hby5; have HU1 := Lib.hid u1; have HU2 := Lib.hid u2; have HQ2 := Lib.hid q2
    clear hca hcb p3 s3 ok1 ok2 ok3 ok4 e1 e2 hbs hdd hq hq5 hby hby5 u1 u2 q2
    go_upto_region 8 with (first | (go_at_call 11; refine (HBY.out _ (Below.refl _ _)).mono ?_; rintro ex w7 ⟨rfl, hb7⟩; have HB7 := Lib.hid hb7; have u1 : w7.cell? ⟨gb, k * 3 + 1, none⟩ = some (.iface T5 y5) := (HB7.out.cell (p := ⟨gb, k * 3 + 1, none⟩) hgb).trans HU1.out; clear hb7 HBY q1) | (go_at_call 11; refine (HBY5.out _ HB7.out).mono ?_; rintro ex w9 ⟨rfl, hb9⟩; have HB9' := Lib.hid (HB7.out.trans (hb9.mono HB7.out.size)); clear hb9 u1))
    have HB9 := Lib.hid (HB.out.trans (HB9'.out.mono HB.out.size))
    have Ha9 := Lib.hid ((HB9'.out.cell (p := ⟨ga, k * 3 + 2, none⟩) hga).trans HQ2.out)
    have Hb9 := Lib.hid ((HB9'.out.cell (p := ⟨gb, k * 3 + 2, none⟩) hgb).trans HU2.out)
    have hga9 : ga < w9.heap.size := Nat.lt_of_lt_of_le hga HB9'.out.size
    have hgb9 : gb < w9.heap.size := Nat.lt_of_lt_of_le hgb HB9'.out.size
    clear HU1 HU2 HQ2 HB7
    obtain ⟨dd, rfl⟩ : ∃ z, z = dp := ⟨_, rfl⟩
    refine region_plan (.run [0, 1, 2, 3, 4, 5, 6, 7, 8, 9, 10, 11, 12, 13, 14, 15, 16, 17, 18, 19, 20, 21, 22, 23] .fin) (fun w' => True) (by kernel_rfl) trivial ?_
    intro wd hwd
    have hbd : Below w9.heap.size w9 wd := hwd ▸ (Below.refl _ w9).drew
    have HBd := Lib.hid (HB9.out.trans (hbd.mono HB9.out.size))
    have r0 : wd.cell? ⟨ga, k * 3 + 2, none⟩ = some (.string dd) := (hbd.cell (p := ⟨ga, k * 3 + 2, none⟩) hga9).trans Ha9.out
    have r1 : wd.cell? ⟨gb, k * 3 + 2, none⟩ = some (.string dd) := (hbd.cell (p := ⟨gb, k * 3 + 2, none⟩) hgb9).trans Hb9.out
    clear hbd
    clear hwd
    refine plan_run fun m hm => ?_
    simp only [pickO, List.filterMap_cons, List.filterMap_nil, List.getElem?_toArray, List.getElem?_cons_zero, List.getElem?_cons_succ] at hm
    subst hm
    go_wp2_with fail
    refine ⟨rfl, by rfl, ?_⟩
    refine plan_fin ?_
    go_wp2_with fail
    go_roundw
    case rel => exact ⟨k + 1, by omega, by go_num, HBd⟩
    case measure => simp [intOf]; omega
set_option maxHeartbeats 4000000 in
theorem markBack_in (s : ByteArray) (w : World) (hL : Laid w) (hs : s.size ≤ 8000) : Calls Tryd.prog 5 #[.string s] w fun e w' => e = .returned (.bool true) ∧ Below w.heap.size w w' := by
  have HL := Lib.hid hL; clear hL
  have HSP := Lib.hid (fun W hL => splitF_walk s W hL)
  have hno := spF_no (s := s)
  have hle := spF_le s
  have hgd := fun m b => spF_good (s := s) (m := m) (b := b)
  obtain ⟨R, hR⟩ : ∃ R, R = spF s := ⟨_, rfl⟩
  unfold SplitFPost at HSP
  rw [← hR] at HSP hno hgd hle
  obtain ⟨m, b, e⟩ := R
  dsimp only at HSP hno hgd hle
  clear hR
  by_cases he : e = 0
  case neg =>
    obtain rfl : m = [] := hno he
    have d1 : (e == 0) = false := by simpa using he
    have d2 : (e != 0) = true := by simpa using he
    have d3 : decide ((0 : Int) ≤ (b : Int)) = true := by simp
    have d4 : decide ((b : Int) ≤ (s.size : Int)) = true := by simp; omega
    clear hgd hno he
    go_enter Tryd.func5, Tryd.ntmps5
    go_upto_region 4 with (first | (go_at_call 7; refine (awake8 _ HL.out).mono ?_; rintro ex w1 ⟨rfl, hb1⟩; have HB := Lib.hid hb1; clear hb1) | (go_at_call 8; refine (HSP.out _ (HL.out.below HB.out)).mono ?_; rintro ex w2 ⟨v, l, rfl, hO, hP, hb2⟩; have HO := Lib.hid hO; have HP := Lib.hid hP; have HB2 := Lib.hid (HB.out.trans (hb2.mono HB.out.size)); clear hO hP hb2))
    obtain ⟨A, cp, hv, _⟩ := HO.out.form
    have hl0 : l.length = 0 := HP.out.1
    rw [hl0] at hv
    subst hv
    clear hl0
    go_wp2_with fail
    go_ret
    exact ⟨rfl, HB2.out⟩
  case pos =>
  obtain rfl := he
  obtain ⟨hb0, hg, hlen, hz2⟩ := hgd m b rfl
  have hml : m.length ≤ 8000 := by have := lenP_ge m; omega
  obtain ⟨hj1, hj2, m', hj3, hj4⟩ := jn_good hg (by omega)
  have hgm := (spF_good hj3).2.1
  have hsame : jnSame m m' := by
    have h := same_jn hj4
    exact ⟨h.1.symm, fun i h1 h2 => ⟨(h.2 i h2 h1).1.symm, (h.2 i h2 h1).2.symm⟩⟩
  have HK := Lib.hid (gd_ok hg); have HKM := Lib.hid (gd_ok hgm); have HSA := Lib.hid hsame; have HJ1 := Lib.hid hj1
  have hjl : (jnL m).length ≤ 1000000000 := by
    have e : (jnS m).size = (jnL m).length := by unfold jnS; simp [ByteArray.size]
    omega
  have HJL := Lib.hid hjl
  obtain ⟨F, hF⟩ : ∃ F, F = jnS m := ⟨_, rfl⟩
  rw [← hF] at hj2 hj3
  have HF := Lib.hid hF
  have hFz : F.size ≤ s.size := by omega
  have d5 : decide ((F.size : Int) ≤ (s.size : Int)) = true := by simp; omega
  have HSF := Lib.hid (fun W hL => splitF_walk F W hL)
  unfold SplitFPost at HSF
  rw [hj3] at HSF
  dsimp only at HSF
  clear hgd hno hg hlen hb0 hle hz2 hj1 hj2 hj3 hj4 hgm hsame hjl hF
  go_enter Tryd.func5, Tryd.ntmps5
  go_upto_region 6 with (first | (go_at_call 7; refine (awake8 _ HL.out).mono ?_; rintro ex w1 ⟨rfl, hb1⟩; have HB := Lib.hid hb1; clear hb1) | (go_at_call 8; refine (HSP.out _ (HL.out.below HB.out)).mono ?_; rintro ex w2 ⟨v, l, rfl, hO, hP, hb2⟩; have HO := Lib.hid hO; have HP := Lib.hid hP; have HB2 := Lib.hid (HB.out.trans (hb2.mono HB.out.size)); clear hO hP hb2))
  obtain ⟨A, cp, hv, _⟩ := HO.out.form
  subst hv
  have HJ := Lib.hid (join_walk w2 (HL.out.below HB2.out) _ A cp l m HO.out HP.out (by rw [HP.out.1]; omega) HK.out HJL.out)
  unfold JnPost at HJ
  go_upto_region 7 with (go_at_call 12; refine (HJ.out).mono ?_; rintro ex w3 ⟨s3, er, rfl, hc3, hb3⟩; have HC3 := Lib.hid hc3; have HO3 := Lib.hid (HO.out.bel hb3); have HP3 := Lib.hid (HP.out.bel hb3); have HB3 := Lib.hid (HB2.out.trans (hb3.mono HB2.out.size)); clear hc3 hb3)
  obtain ⟨rfl, rfl⟩ : er = 0 ∧ s3 = F := by
    rcases HC3.out with ⟨h1, h2, _⟩ | ⟨_, _, h3⟩
    · exact ⟨h1, by rw [HF.out]; exact h2⟩
    · exact absurd HJ1.out h3
  clear HJ HC3 HO HP HB HB2 HSP
  go_upto_region 8 with (go_at_call 8; refine (HSF.out _ (HL.out.below HB3.out)).mono ?_; rintro ex w4 ⟨v4, l4, rfl, hO4, hP4, hb4⟩; have HO4 := Lib.hid hO4; have HP4 := Lib.hid hP4; have HO5 := Lib.hid (HO3.out.bel hb4); have HP5 := Lib.hid (HP3.out.bel hb4); have HB4 := Lib.hid (HB3.out.trans (hb4.mono HB3.out.size)); clear hO4 hP4 hb4)
  obtain ⟨A4, cp4, hv4, _⟩ := HO4.out.form
  subst hv4
  clear HO3 HP3 HB3 HSF
  have HSM := Lib.hid (same8_walk w4 (HL.out.below HB4.out) _ _ A A4 cp cp4 l l4 m m' HO5.out HP5.out HO4.out HP4.out HK.out HKM.out HSA.out (by rw [HP5.out.1]; omega))
  go_wp2_with (go_at_call 13; refine (HSM.out).mono ?_; rintro ex w5 ⟨rfl, hb5⟩; have HB5 := Lib.hid (HB4.out.trans (hb5.mono HB4.out.size)); clear hb5)
  go_ret
  exact ⟨rfl, HB5.out⟩
theorem markBack_walk (s : ByteArray) (w : World) (hL : Laid w) : Calls Tryd.prog 5 #[.string s] w fun e w' => e = .returned (.bool true) ∧ Below w.heap.size w w' := by
  by_cases hs : 8000 < s.size
  · exact markBack_big s w hL hs
  · exact markBack_in s w hL (by omega)
namespace lawMarkBack
open Go.ChangeShapes Go.WideShapes Go.ChangeAt Go.RowKit
theorem own : ownKnob Tryd.prog.godebug = none := by kernel_rfl
theorem laidOut : laidOutB Tryd.prog = true := by kernel_rfl
theorem gTab0 : Tryd.prog.globalNamed "aquatint/zig.order" = some 0 := by kernel_rfl
theorem gTabType0 : (Tryd.prog.globals[0]?).map (·.type) = some 153 := by kernel_rfl
theorem cellsT : Tryd.prog.cellsOf 153 = 64 := by kernel_rfl
theorem cellsE : Tryd.prog.cellsOf 3 = 1 := by kernel_rfl
theorem table {W : World} (h : laidMetH Tryd.prog Rows.markBackRow.laid W) : Lib.TabIs Tryd.prog W "aquatint/zig.order" .i64 (ordL.map fun (n : Nat) => (n : Int)) :=
  Lib.tabIs_of_head (rest := []) gTab0 gTabType0 Tryd.underlying153 Tryd.underlying3 cellsE cellsT h
theorem laid_of {W : World} (h : laidMetH Tryd.prog Rows.markBackRow.laid W) : Laid W := by
  have H : ∀ k, k < 64 → W.cell? ⟨0, k, none⟩ = some (.int .i64 (ord k)) := fun k hk => by
    have h1 := (table h).cell gTab0 k (by simpa [ordL] using hk)
    rw [h1]
    have h2 : ord k = ordL[k]'(by simpa [ordL] using hk) := by
      unfold ord
      rw [List.getD_eq_getElem?_getD, List.getElem?_eq_getElem (by simpa [ordL] using hk)]
      rfl
    rw [h2, List.getD_eq_getElem?_getD, List.getElem?_map, List.getElem?_eq_getElem (by simpa [ordL] using hk)]
    rfl
  exact ⟨block_lt_of_cell (H 0 (by omega)), H⟩
open Go.ChangeMaps (open_string shut_string)
theorem contract (H : Type) (enc : TypeId × Value → H) (W : World) (base : Nat) (args : Array Value) (ds gs : List (DataW H)) (before : List MemPlace)
    (hval : ∀ (j : Nat) t v, Tryd.f5.params[j]? = some t → args[j]? = some v → Value.okWide Tryd.prog W .any base t v)
    (hW : DataW.Whole enc Tryd.prog Tryd.f5.params.toList Rows.markBackSpec.vars false W args.toList ds gs before) (hL : laidMetH Tryd.prog Rows.markBackRow.laid W) (_hsz : (DataW.weightsEach Tryd.prog (Tryd.f5.params.toList ++ (OpenSpec.ofChange Rows.markBackSpec).bare.plain.varTypes Tryd.prog) (ds ++ gs)).all (· ≤ reachBytes) = true) :
    Calls Tryd.prog 5 args W fun e W' => ∃ v, e = .returned v ∧ Rows.markBackSpec.post enc Tryd.prog Tryd.f5 false true false false W args v W' := by
  have hW' := hW
  obtain ⟨p, q, hA0, hV, hbefore, hfz, hnd⟩ := hW
  obtain ⟨rfl, rfl⟩ := trodVars_none hV
  have hA : DataW.TrodAll enc Tryd.prog W 0 (fun _ => true) true Tryd.f5.params.toList args.toList ds p := hA0
  rw [Tryd.params5] at hA hval
  obtain ⟨v0, vs1, d0, ds1, p0, q0, hargs, rfl, hps, h0, r0⟩ := trodAll_cons hA
  obtain ⟨rfl, rfl, rfl⟩ := trodAll_nil r0
  obtain rfl : args = #[v0] := by cases args; simp_all
  have o0 := hval 0 9 v0 rfl rfl
  clear hA0
  obtain ⟨y, rfl, rfl, rfl, wy⟩ := open_string Tryd.underlying9 o0 h0
  refine (markBack_walk y W (laid_of hL)).mono fun e W' ⟨he, hb⟩ => ?_
  subst he
  exact ⟨_, rfl, law_post laidOut (by rw [Tryd.params5]; intro t ht; simp only [List.mem_cons, List.not_mem_nil, or_false] at ht; subst ht; exact ⟨by kernel_rfl, of_decide_eq_true (by kernel_rfl)⟩) (by kernel_rfl) Tryd.underlying4 hW' rfl rfl hb⟩
theorem gTab : Tryd.prog.globalNamed "aquatint/zig.order" = some 0 := by kernel_rfl
theorem gTabType : (Tryd.prog.globals[0]?).map (·.type) = some 153 := by kernel_rfl
/-- A world for the witness: the settled one, the table holding what its initialiser lays. -/
noncomputable def laidWorld (os : Os) : World :=
  { World.holding Tryd.prog os ⟨#[], #[], []⟩ with heap := (World.holding Tryd.prog os ⟨#[], #[], []⟩).heap.modify 0 fun
      | .cells _ t frozen => .cells #[.int .i64 0, .int .i64 1, .int .i64 8, .int .i64 16, .int .i64 9, .int .i64 2, .int .i64 3, .int .i64 10, .int .i64 17, .int .i64 24, .int .i64 32, .int .i64 25, .int .i64 18, .int .i64 11, .int .i64 4, .int .i64 5, .int .i64 12, .int .i64 19, .int .i64 26, .int .i64 33, .int .i64 40, .int .i64 48, .int .i64 41, .int .i64 34, .int .i64 27, .int .i64 20, .int .i64 13, .int .i64 6, .int .i64 7, .int .i64 14, .int .i64 21, .int .i64 28, .int .i64 35, .int .i64 42, .int .i64 49, .int .i64 56, .int .i64 57, .int .i64 50, .int .i64 43, .int .i64 36, .int .i64 29, .int .i64 22, .int .i64 15, .int .i64 23, .int .i64 30, .int .i64 37, .int .i64 44, .int .i64 51, .int .i64 58, .int .i64 59, .int .i64 52, .int .i64 45, .int .i64 38, .int .i64 31, .int .i64 39, .int .i64 46, .int .i64 53, .int .i64 60, .int .i64 61, .int .i64 54, .int .i64 47, .int .i64 55, .int .i64 62, .int .i64 63] t frozen
      | o => o }
theorem laid_met (os : Os) : laidMet Tryd.prog Rows.markBackRow.laid ((laidWorld os).forCall (fun _ _ => 0) ⟨#[], #[Value.string ⟨#[]⟩], []⟩).memory :=
  laidMet_of_run' 8 (by kernel_rfl) (by kernel_rfl)
theorem reads (os : Os) {H : Type} (enc : TypeId × Value → H) : ∃ places, DataW.whole enc Tryd.prog ((laidWorld os).forCall (fun _ _ => 0) ⟨#[], #[Value.string ⟨#[]⟩], []⟩).memory Tryd.f5.params.toList Rows.markBackSpec.vars false #[Value.string ⟨#[]⟩].toList 8 = some ([.lit (.string [])], [], places) :=
  ⟨[], by kernel_rfl⟩
set_option maxRecDepth 100000 in
theorem lifted (os : Os) (started : os.Started) (H : Type) (enc : TypeId × Value → H) (F : Stop.Interp) :
    ReturnsInHanded {} Tryd.checked os 5 .any ((OpenSpec.ofChange Rows.markBackSpec).preRow enc Tryd.prog Tryd.f5 Rows.markBackRow.domain false Rows.markBackRow.laid) (((OpenSpec.ofChange Rows.markBackSpec).at F).post enc Tryd.prog Tryd.f5 false true false false) := by
  obtain ⟨places, hx⟩ := reads os enc
  refine returnsInHanded_of_row (C := Tryd.checked) (s := (OpenSpec.ofChange Rows.markBackSpec)) own started (by kernel_rfl) Tryd.func5
    (witness_row_at (enc := enc) (C := Tryd.checked) false (laidWorld os) #[Value.string ⟨#[]⟩] rfl (by kernel_rfl) (by kernel_rfl) (by kernel_rfl)
      (OpenSpec.preRow_of_cond 8 hx (by kernel_rfl) (fun k hk => by cases hk) (by kernel_rfl) (laid_met os))) ?_
  intro W base args ds gs before hval hW _ _ hsz hL _ _
  exact contract H enc W base args ds gs before hval hW hL hsz
theorem said : Rows.MarkBackSaid :=
  OpenClaim.holds_of_cond 5 Tryd.f5 rfl rfl rfl rfl rfl rfl rfl ⟨rfl, rfl, rfl, rfl, rfl⟩ rfl rfl rfl rfl rfl (by kernel_rfl) Tryd.func5 (by kernel_rfl)
    (of_decide_eq_true (by kernel_rfl)) (by unfold Func.isWrapper; first | (rw [if_pos (by decide +kernel)]; kernel_rfl) | (rw [if_neg (by decide +kernel)]; exact ⟨rfl, rfl⟩))
    (fun os started H enc _ F => by rw [OpenClaim.pre_eq_preRow]; exact lifted os started H enc F)
theorem plain (f : FuncId) (fn : Func) (hf : Tryd.pinned.checked.prog.funcNamed "aquatint/aquatintlaw08.MarkBack" = some f) (hfn : Tryd.pinned.checked.prog.funcs[f]? = some fn) :
    true = Tryd.pinned.checked.prog.looks [] ∧ ∀ (j : Nat) t, fn.params[j]? = some t → Tryd.pinned.checked.prog.wantsStandIn t = false := by
  obtain rfl : f = 5 := Option.some.inj ((show Tryd.prog.funcNamed "aquatint/aquatintlaw08.MarkBack" = some 5 by kernel_rfl).symm.trans hf) |>.symm
  obtain rfl : fn = Tryd.f5 := (Option.some.inj (Tryd.func5.symm.trans hfn)).symm
  refine ⟨by kernel_rfl, fun j t ht => ?_⟩
  rw [Tryd.params5] at ht
  have hm := Array.mem_of_getElem? ht
  simp only [List.mem_toArray, List.mem_cons, List.not_mem_nil, or_false] at hm
  subst hm
  exact (show Tryd.prog.wantsStandIn 9 = false by kernel_rfl)
/-- The card. -/
theorem card : Rows.MarkBackCardSaid :=
  Claim7.holds_tied_plain_at .later [] _ _ _ _ said (fun _ h => by cases h) (by kernel_rfl) (fun _ h => by cases h) markBack_row_tie rfl ⟨rfl, rfl⟩ (by kernel_rfl) rfl plain (by kernel_rfl)
#print axioms card
end lawMarkBack
end Go.Proofs.YthibnhgbgmpjoaaDoor
