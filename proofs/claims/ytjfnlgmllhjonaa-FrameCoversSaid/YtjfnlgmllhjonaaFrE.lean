/- frame.New, of more than one part. No condition. -/
import Derived.Test.YtjfnlgmllhjonaaFrD
namespace Go.Proofs.Ytjfnlgmllhjonaa
open Go.RowKit
set_option linter.unusedSimpArgs false
set_option linter.unusedVariables false
set_option maxHeartbeats 0 in
set_option maxRecDepth 20000 in
theorem new_okN (a b : Int) (A : Option Addr) (n c : Nat) (f : Nat → Nat → Int) (w : World) (hn : n ≤ 1000) (hR : RdS w A n 2 f) (h0 : rightV a b n f = 0) (h1n : 1 < n) :
    Calls Try.prog 8 #[.int .i64 a, .int .i64 b, .slice A n c] w (NewPost w a b n f) := by
  have h1 := right_walk a b A n c f w hn hR
  have hfv := faultV_right h0
  rw [h0] at h1
  obtain ⟨a0, a1, b0, b1, n0, n4, hf⟩ := right_zero h0
  obtain ⟨g, off, rfl, hg, _⟩ := hR.at2 (i := 0) (by omega)
  obtain ⟨p, hp⟩ : ∃ p, p = pF n f := ⟨_, rfl⟩
  have hpf : ∀ i, i < n → 1 ≤ p i 0 ∧ p i 0 ≤ 4 ∧ 1 ≤ p i 1 ∧ p i 1 ≤ 4 := fun i hi => by
    have := hf i hi
    rw [hp]; unfold pF
    by_cases e : n = 1 <;> simp [e] <;> omega
  rw [← hp] at hfv
  have gn1 : (((n : Nat) : Int) == 1) = false := by simp; omega
  have H1 := Lib.hid h1; have HR := Lib.hid hR; have HF := Lib.hid hpf; have HP := Lib.hid hp; have HFV := Lib.hid hfv; have H1N := Lib.hid h1n
  clear hR h1 h0 hf hp hg hpf hfv
  go_enter Try.func8, Try.ntmps8
  go_wp2_with (first | (go_at_call 20; refine H1.out.mono ?_; rintro e w1 ⟨rfl, hb1⟩; have HB1 := Lib.hid hb1; clear hb1) | (go_at_call 21; refine (clone_ok w1 g off n c f hn (HR.out.bel HB1.out)).mono ?_; intro e w2 hp; obtain ⟨v1, rfl, hO1, hb2⟩ := hp.out; have HO1 := Lib.hid (hO1.mono HB1.out.size); have HB2 := Lib.hid (HB1.out.trans (hb2.mono HB1.out.size)); obtain ⟨A1, c1, rfl, hnc1, hR1⟩ := hO1.form; obtain ⟨g1, rfl⟩ : ∃ g1, A1 = some ⟨g1, 0, none⟩ := ownS_some hO1 (by omega); clear hp hO1 hb2 hR1))

  go_loopw [10, 11, 42] (fun h v i wr => ∃ (k : Nat) (hh vv su : Int), k ≤ n ∧ h = .int .i64 hh ∧ v = .int .i64 vv ∧ i = .int .i64 k ∧ (0 ≤ hh ∧ hh ≤ 4) ∧ (0 ≤ vv ∧ vv ≤ 4) ∧ (0 ≤ su ∧ su ≤ 16 * (k : Int)) ∧ Hid (hh = maxU p 0 k) ∧ Hid (vv = maxU p 1 k) ∧ Hid (su = sumU p k) ∧ Hid (NwI w.heap.size wr w2.heap.size (.slice (some ⟨g1, 0, none⟩) n c1) (.slice none 0 0) n 0 p p 0 0 0 0 0 su) ∧ Hid (Below w.heap.size w wr)) (fun _ _ i _ => n - (intOf i).toNat)
  case atStart =>
    have hal : Below w2.heap.size w2 (w2.alloc (.cells #[.slice (some ⟨g1, 0, none⟩) n c1, .slice none 0 0, .int .i64 0, .int .i64 0, .int .i64 0, .int .i64 0, .int .i64 0, .int .i64 0] 67)) := (Below.refl _ _).alloc (Nat.le_refl _) _
    exact ⟨0, 0, 0, 0, by omega, rfl, rfl, rfl, by omega, by omega, by omega, Lib.hid rfl, Lib.hid rfl, Lib.hid rfl, Lib.hid ⟨Blk.new w2 67 _, (HO1.out.congr fun i hi j hj => by rw [HP.out]; unfold pF; rw [if_neg (by have := H1N.out; omega)]).bel hal, OwnS.nil _ _ _ _ _, HB2.out.size⟩, Lib.hid (HB2.out.trans (hal.mono HB2.out.size))⟩
  case round =>
    obtain ⟨k, hh, vv, su, hk, rfl, rfl, rfl, hhr, hvr, hsr, hhe, hve, hse, HI, hb⟩ := hrel
    by_cases hlt : k < n
    · obtain ⟨A2, c2, e2, hnc2, hR2⟩ := HI.out.po.form
      cases e2
      obtain ⟨g2, off2, e3, hg2, q0, q1⟩ := hR2.at2 hlt
      cases e3
      rw [Nat.zero_add] at q0 q1
      have hfk := HF.out k hlt
      obtain ⟨x, hx⟩ : ∃ x, x = p k 0 := ⟨_, rfl⟩
      obtain ⟨y, hy⟩ : ∃ y, y = p k 1 := ⟨_, rfl⟩
      rw [← hx, ← hy] at hfk
      rw [← hx] at q0
      rw [← hy] at q1
      obtain ⟨hx0, hx1, hy0, hy1⟩ := hfk
      have hxy := mul_rng (x := x) (y := y) (A := 4) (B := 4) (by omega) hx1 (by omega) hy1
      have hal : Below wr.heap.size wr (wr.alloc (.cells #[.int .i64 x, .int .i64 y] 62)) := (Below.refl _ _).alloc (Nat.le_refl _) _
      have HX := Lib.hid hx; have HY := Lib.hid hy
      clear hR2 hx hy hg2 hnc2
      by_cases hmx : hh < x
      all_goals by_cases hmy : vv < y
      all_goals
        go_wp2_with fail
        refine region_plan (.run [0, 1, 2, 3, 4, 5, 6, 7] (.run [8, 9] .fin)) (fun w' => True) (by kernel_rfl) trivial ?_
        intro wd hwd
        have HN1 := Lib.hid ((HI.out.bel hal).drewE hwd)
        have HT1 := Lib.hid ((Blk.new wr 62 #[.int .i64 x, .int .i64 y]).drewE hwd)
        have HB1 := Lib.hid (belowD (hb.out.trans (hal.mono hb.out.size)) hwd)
        have c0 : wd.cell? ⟨wr.heap.size, 0, none⟩ = some (.int .i64 x) := HT1.out.cell 0
        have c1_ : wd.cell? ⟨wr.heap.size, 1, none⟩ = some (.int .i64 y) := HT1.out.cell 1
        clear hwd
        refine plan_run fun m hm => ?_
        simp only [pickO, List.filterMap_cons, List.filterMap_nil, List.getElem?_toArray, List.getElem?_cons_zero, List.getElem?_cons_succ] at hm
        subst hm
        go_wp2_with (first | ((with_reducible show wpList _ _ _ (⟨some 49, _, _, _, _, _⟩ :: _) _ _); refine wpList_max (max hh x) _ _ _ rfl rfl rfl rfl rfl ?_) | ((with_reducible show wpList _ _ _ (⟨some 53, _, _, _, _, _⟩ :: _) _ _); refine wpList_max (max vv y) _ _ _ rfl rfl rfl rfl rfl ?_))
        refine ⟨rfl, by rfl, ?_⟩
        refine plan_run fun m hm => ?_
        simp only [pickO, List.filterMap_cons, List.filterMap_nil, List.getElem?_toArray, List.getElem?_cons_zero, List.getElem?_cons_succ] at hm
        subst hm
        go_wp2_with fail
        refine ⟨rfl, by rfl, ?_⟩
        refine plan_fin ?_
        go_wp2_with fail
        refine region_plan (.run [0, 1, 2, 3, 4, 5, 6, 7, 8, 9, 10, 11] (.ev 12 .fin)) (fun w' => True) (by kernel_rfl) trivial ?_
        intro wd2 hwd
        have HN2 := Lib.hid (HN1.out.drewE hwd)
        have HT2 := Lib.hid (HT1.out.drewE hwd)
        have HB2 := Lib.hid (belowD HB1.out hwd)
        have d0 : wd2.cell? ⟨wr.heap.size, 0, none⟩ = some (.int .i64 x) := HT2.out.cell 0
        have d1 : wd2.cell? ⟨wr.heap.size, 1, none⟩ = some (.int .i64 y) := HT2.out.cell 1
        have d7 : wd2.cell? ⟨w2.heap.size, 7, none⟩ = some (.int .i64 su) := HN2.out.fr.cell 7
        have z7 := HN2.out.fr.frozen 7
        clear hwd
        refine plan_run fun m hm => ?_
        simp only [pickO, List.filterMap_cons, List.filterMap_nil, List.getElem?_toArray, List.getElem?_cons_zero, List.getElem?_cons_succ] at hm
        subst hm
        go_wp2_with fail
        refine ⟨rfl, by rfl, ?_⟩
        refine plan_ev fun m hm => ?_
        simp only [pickO, List.filterMap_cons, List.filterMap_nil, List.getElem?_toArray, List.getElem?_cons_zero, List.getElem?_cons_succ] at hm
        subst hm
        go_wp2_with fail
        refine ⟨rfl, trivial, ?_⟩
        try simp only [Act.put, List.setIfInBounds_toArray, List.set_cons_zero, List.set_cons_succ]
        refine plan_fin ?_
        go_wp2
        have HN3 := Lib.hid (HN2.out.set 7 (.int .i64 (su + x * y)) rfl)
        have HB3 := Lib.hid (HB2.out.setCell (p := ⟨w2.heap.size, 7, none⟩) HI.out.le (.int .i64 (su + x * y)))
        exact ⟨⟨k + 1, _, _, su + x * y, by omega, rfl, rfl, by go_num, by omega, by omega, by omega, Lib.hid (by rw [maxU, ← hhe.out, ← HX.out]; omega), Lib.hid (by rw [maxU, ← hve.out, ← HY.out]; omega), Lib.hid (by rw [sumU, ← hse.out, ← HX.out, ← HY.out]), HN3, HB3⟩, by simp [intOf]; omega⟩
    · obtain rfl : k = n := by omega
      have hh1 : 1 ≤ hh := by
        have := maxU_rng p 0 k (fun i hi => by have := HF.out i hi; omega)
        rw [hhe.out]; omega
      have vv1 : 1 ≤ vv := by
        have := maxU_rng p 1 k (fun i hi => by have := HF.out i hi; omega)
        rw [hve.out]; omega
      have e7 : wr.cell? ⟨w2.heap.size, 7, none⟩ = some (.int .i64 su) := HI.out.fr.cell 7
      have e4 : wr.cell? ⟨w2.heap.size, 4, none⟩ = some (.int .i64 0) := HI.out.fr.cell 4
      have e5 : wr.cell? ⟨w2.heap.size, 5, none⟩ = some (.int .i64 0) := HI.out.fr.cell 5
      have z4 := HI.out.fr.frozen 4
      have z5 := HI.out.fr.frozen 5
      have g1n : decide ((1 : Int) < (k : Int)) = true := by simp; omega
      by_cases hsu : 10 < su
      · have gsu : decide ((10 : Int) < su) = true := by simpa using hsu
        go_wp2
        go_ret2
        refine NewPost.fail (q := 12) ?_ (by decide) rfl hb.out
        rw [HFV.out, if_pos ⟨H1N.out, by rw [← hse.out]; exact hsu⟩]
      · have gsu : decide ((10 : Int) < su) = false := by simpa using hsu
        have HSU : Hid (¬ (1 < k ∧ 10 < sumU p k)) := Lib.hid (by rw [← hse.out]; omega)
        go_wp2_with fail
        refine region_plan (.run [0, 1, 2, 3, 4, 5, 6] (.held 7 (.run [8, 9, 10, 11, 12] (.held 13 (.run [14, 15] (.ev 16 (.run [17, 18] (.ev 19 .fin)))))))) (fun w' => True) (by kernel_rfl) trivial ?_
        intro wd hwd
        have HN3 := Lib.hid (((HI.out.set 4 (.int .i64 (8 * hh)) rfl).set 5 (.int .i64 (8 * vv)) rfl).drewE hwd)
        have HB3 := Lib.hid (belowD ((hb.out.setCell (p := ⟨w2.heap.size, 4, none⟩) HI.out.le (.int .i64 (8 * hh))).setCell (p := ⟨w2.heap.size, 5, none⟩) HI.out.le (.int .i64 (8 * vv))) hwd)
        have f4 : wd.cell? ⟨w2.heap.size, 4, none⟩ = some (.int .i64 (8 * hh)) := HN3.out.fr.cell 4
        have f5 : wd.cell? ⟨w2.heap.size, 5, none⟩ = some (.int .i64 (8 * vv)) := HN3.out.fr.cell 5
        have f2 : wd.cell? ⟨w2.heap.size, 2, none⟩ = some (.int .i64 0) := HN3.out.fr.cell 2
        have f3 : wd.cell? ⟨w2.heap.size, 3, none⟩ = some (.int .i64 0) := HN3.out.fr.cell 3
        have f0 : wd.cell? ⟨w2.heap.size, 0, none⟩ = some (.slice (some ⟨g1, 0, none⟩) k c1) := HN3.out.fr.cell 0
        have z2 := HN3.out.fr.frozen 2
        have z3 := HN3.out.fr.frozen 3
        clear hwd
        refine plan_run fun m hm => ?_
        simp only [pickO, List.filterMap_cons, List.filterMap_nil, List.getElem?_toArray, List.getElem?_cons_zero, List.getElem?_cons_succ] at hm
        subst hm
        go_wp2_with fail
        refine ⟨rfl, by rfl, ?_⟩
        refine plan_pure (v := .int .i64 (upQ a (8 * hh))) #[.int .i64 a, .int .i64 (8 * hh)] rfl (by rfl) Try.func22 (by kernel_rfl) rfl rfl (by simp only [List.map_toArray, List.map_cons, List.map_nil]; rfl) (fun w' hS => up_walk a (8 * hh) (by omega) (by omega) (by omega) (by omega) w') ?_
        try simp only [Act.put, List.setIfInBounds_toArray, List.set_cons_zero, List.set_cons_succ]
        refine plan_run fun m hm => ?_
        simp only [pickO, List.filterMap_cons, List.filterMap_nil, List.getElem?_toArray, List.getElem?_cons_zero, List.getElem?_cons_succ] at hm
        subst hm
        go_wp2_with fail
        refine ⟨rfl, by rfl, ?_⟩
        refine plan_pure (v := .int .i64 (upQ b (8 * vv))) #[.int .i64 b, .int .i64 (8 * vv)] rfl (by rfl) Try.func22 (by kernel_rfl) rfl rfl (by simp only [List.map_toArray, List.map_cons, List.map_nil]; rfl) (fun w' hS => up_walk b (8 * vv) (by omega) (by omega) (by omega) (by omega) w') ?_
        try simp only [Act.put, List.setIfInBounds_toArray, List.set_cons_zero, List.set_cons_succ]
        refine plan_run fun m hm => ?_
        simp only [pickO, List.filterMap_cons, List.filterMap_nil, List.getElem?_toArray, List.getElem?_cons_zero, List.getElem?_cons_succ] at hm
        subst hm
        go_wp2_with fail
        refine ⟨rfl, by rfl, ?_⟩
        refine plan_ev fun m hm => ?_
        simp only [pickO, List.filterMap_cons, List.filterMap_nil, List.getElem?_toArray, List.getElem?_cons_zero, List.getElem?_cons_succ] at hm
        subst hm
        go_wp2_with fail
        refine ⟨rfl, trivial, ?_⟩
        try simp only [Act.put, List.setIfInBounds_toArray, List.set_cons_zero, List.set_cons_succ]
        refine plan_run fun m hm => ?_
        simp only [pickO, List.filterMap_cons, List.filterMap_nil, List.getElem?_toArray, List.getElem?_cons_zero, List.getElem?_cons_succ] at hm
        subst hm
        go_wp2_with fail
        refine ⟨rfl, by rfl, ?_⟩
        refine plan_ev fun m hm => ?_
        simp only [pickO, List.filterMap_cons, List.filterMap_nil, List.getElem?_toArray, List.getElem?_cons_zero, List.getElem?_cons_succ] at hm
        subst hm
        go_wp2_with fail
        refine ⟨rfl, trivial, ?_⟩
        try simp only [Act.put, List.setIfInBounds_toArray, List.set_cons_zero, List.set_cons_succ]
        refine plan_fin ?_
        go_wp2_with fail
        have HN4 := Lib.hid ((HN3.out.set 2 (.int .i64 (upQ a (8 * hh))) rfl).set 3 (.int .i64 (upQ b (8 * vv))) rfl)
        have HB4 := Lib.hid ((HB3.out.setCell (p := ⟨w2.heap.size, 2, none⟩) HI.out.le (.int .i64 (upQ a (8 * hh)))).setCell (p := ⟨w2.heap.size, 3, none⟩) HI.out.le (.int .i64 (upQ b (8 * vv))))

        obtain ⟨ac, hac⟩ : ∃ ac, ac = upQ a (8 * hh) := ⟨_, rfl⟩
        obtain ⟨dn, hdn⟩ : ∃ dn, dn = upQ b (8 * vv) := ⟨_, rfl⟩
        have hacr := upQ_rng (a := a) (b := 8 * hh) (A := 16384) (by omega) (by omega) (by omega)
        have hdnr := upQ_rng (a := b) (b := 8 * vv) (A := 16384) (by omega) (by omega) (by omega)
        rw [← hac] at hacr
        rw [← hdn] at hdnr
        obtain ⟨gr, hgr⟩ : ∃ gr, gr = gridF a b hh vv ac dn p := ⟨_, rfl⟩
        go_loopw [110] (fun i wr => ∃ (j : Nat) (gs : Value) (tt : Int), j ≤ k ∧ i = .int .i64 j ∧ (0 ≤ tt ∧ tt ≤ 4294967296 * (j : Int)) ∧ Hid (tt = sumU gr j) ∧ Hid (NwI w.heap.size wr w2.heap.size (.slice (some ⟨g1, 0, none⟩) k c1) gs k j p gr ac dn (8 * hh) (8 * vv) tt su) ∧ Hid (Below w.heap.size w wr)) (fun i _ => k - (intOf i).toNat)
        case atStart =>
          refine ⟨0, .slice none 0 0, 0, by omega, rfl, by omega, Lib.hid rfl, Lib.hid ?_, HB4⟩
          rw [hac, hdn]
          exact ⟨HN4.out.fr, HN4.out.po, OwnS.nil _ _ _ _ _, HN4.out.le⟩
        have HGR := Lib.hid hgr; have HAC := Lib.hid hac; have HDN := Lib.hid hdn
        clear hgr hac hdn HN4 HB4 f0 f2 f3 f4 f5 z2 z3 z4 z5 e4 e5 e7 HN3 HB3
        case round =>
          obtain ⟨j, gs, tt, hj, rfl, htt, hte, HI, hb⟩ := hrel
          obtain ⟨A3, c3, rfl, hnc3, _⟩ := HI.out.go.form
          by_cases hlt : j < k
          · obtain ⟨A2, c2, e2, hnc2, hR2⟩ := HI.out.po.form
            cases e2
            obtain ⟨g2, off2, e3, hg2, q0, q1⟩ := hR2.at2 hlt
            cases e3
            rw [Nat.zero_add] at q0 q1
            have hfk := HF.out j hlt
            obtain ⟨x, hx⟩ : ∃ x, x = p j 0 := ⟨_, rfl⟩
            obtain ⟨y, hy⟩ : ∃ y, y = p j 1 := ⟨_, rfl⟩
            rw [← hx, ← hy] at hfk
            rw [← hx] at q0
            rw [← hy] at q1
            obtain ⟨hx0, hx1, hy0, hy1⟩ := hfk
            have hax := mul_rng (x := a) (y := x) (A := 16384) (B := 4) (by omega) a1 (by omega) hx1
            have hby := mul_rng (x := b) (y := y) (A := 16384) (B := 4) (by omega) b1 (by omega) hy1
            have hacx := mul_rng (x := ac) (y := x) (A := 16384) (B := 4) hacr.1 hacr.2 (by omega) hx1
            have hdny := mul_rng (x := dn) (y := y) (A := 16384) (B := 4) hdnr.1 hdnr.2 (by omega) hy1
            have hgm := mul_rng (x := ac * x) (y := dn * y) (A := 65536) (B := 65536) hacx.1 (by omega) hdny.1 (by omega)
            have hu1 := upQ_rng (a := a * x) (b := hh) (A := 65536) (by omega) (by omega) (by omega)
            have hu2 := upQ_rng (a := b * y) (b := vv) (A := 65536) (by omega) (by omega) (by omega)
            have hal : Below wr.heap.size wr (wr.alloc (.cells #[.int .i64 x, .int .i64 y] 62)) := (Below.refl _ _).alloc (Nat.le_refl _) _
            have HX := Lib.hid hx; have HY := Lib.hid hy
            clear hR2 hx hy hg2 hnc2
            go_wp2_with fail
            refine region_plan (.run [0, 1, 2] (.held 3 (.run [4] (.held 5 (.run [6, 7, 8, 9] (.held 10 (.run [11] (.held 12 (.run [13, 14, 15] (.held 16 (.run [17, 18] (.held 19 (.held 20 (.run [21, 22] (.held 23 (.run [24, 25] (.held 26 (.held 27 (.run [28] (.ev 29 (.ev 30 .fin))))))))))))))))))))) (fun w' => w'.cell? ⟨w2.heap.size, 2, none⟩ = some (.int .i64 ac) ∧ w'.cell? ⟨w2.heap.size, 3, none⟩ = some (.int .i64 dn) ∧ w'.cell? ⟨wr.heap.size, 0, none⟩ = some (.int .i64 x) ∧ w'.cell? ⟨wr.heap.size, 1, none⟩ = some (.int .i64 y)) (by kernel_rfl) ⟨(HI.out.bel hal).fr.cell 2, (HI.out.bel hal).fr.cell 3, (Blk.new wr 62 #[.int .i64 x, .int .i64 y]).cell 0, (Blk.new wr 62 #[.int .i64 x, .int .i64 y]).cell 1⟩ ?_
            intro wd hwd
            have HN5 := Lib.hid ((HI.out.bel hal).drewE hwd)
            have HT5 := Lib.hid ((Blk.new wr 62 #[.int .i64 x, .int .i64 y]).drewE hwd)
            have HB5 := Lib.hid (belowD (hb.out.trans (hal.mono hb.out.size)) hwd)
            clear hwd
            refine plan_run fun m hm => ?_
            simp only [pickO, List.filterMap_cons, List.filterMap_nil, List.getElem?_toArray, List.getElem?_cons_zero, List.getElem?_cons_succ] at hm
            subst hm
            go_wp2_with fail
            refine ⟨rfl, by rfl, ?_⟩
            refine plan_held (v := .int .i64 ac) rfl (by rfl) (fun w' hS => ?_) ?_
            · obtain ⟨hS1, hS2, hS3, hS4⟩ := hS; go_simp
            try simp only [Act.put, List.setIfInBounds_toArray, List.set_cons_zero, List.set_cons_succ]
            refine plan_run fun m hm => ?_
            simp only [pickO, List.filterMap_cons, List.filterMap_nil, List.getElem?_toArray, List.getElem?_cons_zero, List.getElem?_cons_succ] at hm
            subst hm
            go_wp2_with fail
            refine ⟨rfl, by rfl, ?_⟩
            refine plan_held (v := .int .i64 x) rfl (by rfl) (fun w' hS => ?_) ?_
            · obtain ⟨hS1, hS2, hS3, hS4⟩ := hS; go_simp
            try simp only [Act.put, List.setIfInBounds_toArray, List.set_cons_zero, List.set_cons_succ]
            refine plan_run fun m hm => ?_
            simp only [pickO, List.filterMap_cons, List.filterMap_nil, List.getElem?_toArray, List.getElem?_cons_zero, List.getElem?_cons_succ] at hm
            subst hm
            go_wp2_with fail
            refine ⟨rfl, by rfl, ?_⟩
            refine plan_held (v := .int .i64 dn) rfl (by rfl) (fun w' hS => ?_) ?_
            · obtain ⟨hS1, hS2, hS3, hS4⟩ := hS; go_simp
            try simp only [Act.put, List.setIfInBounds_toArray, List.set_cons_zero, List.set_cons_succ]
            refine plan_run fun m hm => ?_
            simp only [pickO, List.filterMap_cons, List.filterMap_nil, List.getElem?_toArray, List.getElem?_cons_zero, List.getElem?_cons_succ] at hm
            subst hm
            go_wp2_with fail
            refine ⟨rfl, by rfl, ?_⟩
            refine plan_held (v := .int .i64 y) rfl (by rfl) (fun w' hS => ?_) ?_
            · obtain ⟨hS1, hS2, hS3, hS4⟩ := hS; go_simp
            try simp only [Act.put, List.setIfInBounds_toArray, List.set_cons_zero, List.set_cons_succ]
            refine plan_run fun m hm => ?_
            simp only [pickO, List.filterMap_cons, List.filterMap_nil, List.getElem?_toArray, List.getElem?_cons_zero, List.getElem?_cons_succ] at hm
            subst hm
            go_wp2_with fail
            refine ⟨rfl, by rfl, ?_⟩
            refine plan_held (v := .int .i64 x) rfl (by rfl) (fun w' hS => ?_) ?_
            · obtain ⟨hS1, hS2, hS3, hS4⟩ := hS; go_simp
            try simp only [Act.put, List.setIfInBounds_toArray, List.set_cons_zero, List.set_cons_succ]
            refine plan_run fun m hm => ?_
            simp only [pickO, List.filterMap_cons, List.filterMap_nil, List.getElem?_toArray, List.getElem?_cons_zero, List.getElem?_cons_succ] at hm
            subst hm
            go_wp2_with fail
            refine ⟨rfl, by rfl, ?_⟩
            refine plan_pure (v := .int .i64 (upQ (a * x) hh)) #[.int .i64 (a * x), .int .i64 hh] rfl (by rfl) Try.func22 (by kernel_rfl) rfl rfl (by simp only [List.map_toArray, List.map_cons, List.map_nil]; rfl) (fun w' hS => up_walk (a * x) hh (by omega) (by omega) (by omega) (by omega) w') ?_
            try simp only [Act.put, List.setIfInBounds_toArray, List.set_cons_zero, List.set_cons_succ]
            refine plan_pure (v := .int .i64 (upQ (upQ (a * x) hh) 8)) #[.int .i64 (upQ (a * x) hh), .int .i64 8] rfl (by rfl) Try.func22 (by kernel_rfl) rfl rfl (by simp only [List.map_toArray, List.map_cons, List.map_nil]; rfl) (fun w' hS => up_walk (upQ (a * x) hh) 8 (by omega) (by omega) (by omega) (by omega) w') ?_
            try simp only [Act.put, List.setIfInBounds_toArray, List.set_cons_zero, List.set_cons_succ]
            refine plan_run fun m hm => ?_
            simp only [pickO, List.filterMap_cons, List.filterMap_nil, List.getElem?_toArray, List.getElem?_cons_zero, List.getElem?_cons_succ] at hm
            subst hm
            go_wp2_with fail
            refine ⟨rfl, by rfl, ?_⟩
            refine plan_held (v := .int .i64 y) rfl (by rfl) (fun w' hS => ?_) ?_
            · obtain ⟨hS1, hS2, hS3, hS4⟩ := hS; go_simp
            try simp only [Act.put, List.setIfInBounds_toArray, List.set_cons_zero, List.set_cons_succ]
            refine plan_run fun m hm => ?_
            simp only [pickO, List.filterMap_cons, List.filterMap_nil, List.getElem?_toArray, List.getElem?_cons_zero, List.getElem?_cons_succ] at hm
            subst hm
            go_wp2_with fail
            refine ⟨rfl, by rfl, ?_⟩
            refine plan_pure (v := .int .i64 (upQ (b * y) vv)) #[.int .i64 (b * y), .int .i64 vv] rfl (by rfl) Try.func22 (by kernel_rfl) rfl rfl (by simp only [List.map_toArray, List.map_cons, List.map_nil]; rfl) (fun w' hS => up_walk (b * y) vv (by omega) (by omega) (by omega) (by omega) w') ?_
            try simp only [Act.put, List.setIfInBounds_toArray, List.set_cons_zero, List.set_cons_succ]
            refine plan_pure (v := .int .i64 (upQ (upQ (b * y) vv) 8)) #[.int .i64 (upQ (b * y) vv), .int .i64 8] rfl (by rfl) Try.func22 (by kernel_rfl) rfl rfl (by simp only [List.map_toArray, List.map_cons, List.map_nil]; rfl) (fun w' hS => up_walk (upQ (b * y) vv) 8 (by omega) (by omega) (by omega) (by omega) w') ?_
            try simp only [Act.put, List.setIfInBounds_toArray, List.set_cons_zero, List.set_cons_succ]
            refine plan_run fun m hm => ?_
            simp only [pickO, List.filterMap_cons, List.filterMap_nil, List.getElem?_toArray, List.getElem?_cons_zero, List.getElem?_cons_succ] at hm
            subst hm
            go_wp2_with fail
            refine ⟨rfl, by rfl, ?_⟩
            refine plan_ev fun m hm => ?_
            simp only [pickO, List.filterMap_cons, List.filterMap_nil, List.getElem?_toArray, List.getElem?_cons_zero, List.getElem?_cons_succ] at hm
            subst hm
            go_wp2_with fail
            have ha5 : Below wd.heap.size wd (wd.alloc (.cells #[.int .i64 0, .int .i64 0, .int .i64 0, .int .i64 0] 33)) := (Below.refl _ _).alloc (Nat.le_refl _) _
            refine ⟨rfl, ⟨(HN5.out.bel ha5).fr.cell 2, (HN5.out.bel ha5).fr.cell 3, (HT5.out.bel ha5).cell 0, (HT5.out.bel ha5).cell 1⟩, ?_⟩
            try simp only [Act.put, List.setIfInBounds_toArray, List.set_cons_zero, List.set_cons_succ]
            refine plan_ev fun m hm => ?_
            simp only [pickO, List.filterMap_cons, List.filterMap_nil, List.getElem?_toArray, List.getElem?_cons_zero, List.getElem?_cons_succ] at hm
            subst hm
            refine wpList_store_far rfl 33 (.tmp 16) (.tmp 142) rfl wd.heap.size #[.int .i64 (ac * x), .int .i64 (dn * y), .int .i64 (upQ (upQ (a * x) hh) 8), .int .i64 (upQ (upQ (b * y) vv) 8)] _ 33 rfl rfl (Blk.new wd 33 #[.int .i64 0, .int .i64 0, .int .i64 0, .int .i64 0]) (by kernel_rfl) rfl (by simp [Value.oneCell']) ?_
            intro w6 hT6 hf6 hb6 hsz6 _
            have hbw6 : Below wd.heap.size wd w6 := hb6 _ _ (Nat.le_refl _) ha5
            have HN6 := Lib.hid (HN5.out.bel hbw6)
            have HB6 := Lib.hid (HB5.out.trans (hbw6.mono HB5.out.size))
            have HG6 := Lib.hid hT6
            refine ⟨rfl, ⟨HN6.out.fr.cell 2, HN6.out.fr.cell 3, (HT5.out.bel hbw6).cell 0, (HT5.out.bel hbw6).cell 1⟩, ?_⟩
            try simp only [Act.put, List.setIfInBounds_toArray, List.set_cons_zero, List.set_cons_succ]
            refine plan_fin ?_
            go_wp2_with fail
            refine region_plan (.run [0, 1, 2, 3, 5] (.alt 4 6 (.ev 6 (.ev 7 (.run [8, 9] (.ev 10 .fin)))) (.run [4] (.ev 7 (.run [8, 9] (.ev 10 .fin)))))) (fun w' => True) (by kernel_rfl) trivial ?_
            intro wd2 hwd
            have HN7 := Lib.hid (HN6.out.drewE hwd)
            have HG7 := Lib.hid (HG6.out.drewE hwd)
            have HB7 := Lib.hid (belowD HB6.out hwd)
            have r0 : wd2.cell? ⟨wd.heap.size, 0, none⟩ = some (.int .i64 (ac * x)) := HG7.out.cell 0
            have r1 : wd2.cell? ⟨wd.heap.size, 1, none⟩ = some (.int .i64 (dn * y)) := HG7.out.cell 1
            have r2 : wd2.cell? ⟨wd.heap.size, 2, none⟩ = some (.int .i64 (upQ (upQ (a * x) hh) 8)) := HG7.out.cell 2
            have r3 : wd2.cell? ⟨wd.heap.size, 3, none⟩ = some (.int .i64 (upQ (upQ (b * y) vv) 8)) := HG7.out.cell 3
            have f1 : wd2.cell? ⟨w2.heap.size, 1, none⟩ = some (.slice A3 j c3) := HN7.out.fr.cell 1
            have ha7 : Below wd2.heap.size wd2 (wd2.alloc (.cells #[.int .i64 (ac * x), .int .i64 (dn * y), .int .i64 (upQ (upQ (a * x) hh) 8), .int .i64 (upQ (upQ (b * y) vv) 8)] 33)) := (Below.refl _ _).alloc (Nat.le_refl _) _
            have f1a : (wd2.alloc (.cells #[.int .i64 (ac * x), .int .i64 (dn * y), .int .i64 (upQ (upQ (a * x) hh) 8), .int .i64 (upQ (upQ (b * y) vv) 8)] 33)).cell? ⟨w2.heap.size, 1, none⟩ = some (.slice A3 j c3) := (HN7.out.bel ha7).fr.cell 1
            clear hwd
            refine plan_run fun m hm => ?_
            simp only [pickO, List.filterMap_cons, List.filterMap_nil, List.getElem?_toArray, List.getElem?_cons_zero, List.getElem?_cons_succ] at hm
            subst hm
            go_wp2_with fail
            refine ⟨rfl, by rfl, ?_⟩
            refine plan_alt (fun m hm => ?_) (fun m hm => ?_)
            · simp only [pickO, List.filterMap_cons, List.filterMap_nil, List.getElem?_toArray, List.getElem?_cons_zero, List.getElem?_cons_succ] at hm
              subst hm
              go_wp2_with fail
              refine ⟨rfl, rfl, ?_⟩
              refine plan_ev fun m hm => ?_
              simp only [pickO, List.filterMap_cons, List.filterMap_nil, List.getElem?_toArray, List.getElem?_cons_zero, List.getElem?_cons_succ] at hm
              subst hm
              go_wp2_with fail
              refine ⟨rfl, trivial, ?_⟩
              try simp only [Act.put, List.setIfInBounds_toArray, List.set_cons_zero, List.set_cons_succ]
              refine plan_ev fun m hm => ?_
              simp only [pickO, List.filterMap_cons, List.filterMap_nil, List.getElem?_toArray, List.getElem?_cons_zero, List.getElem?_cons_succ] at hm
              subst hm
              refine appS (q := 4) (by_ := 32) (cs := #[.int .i64 (ac * x), .int .i64 (dn * y), .int .i64 (upQ (upQ (a * x) hh) 8), .int .i64 (upQ (upQ (b * y) vv) 8)]) (fun q => if q = 0 then ac * x else if q = 1 then dn * y else if q = 2 then upQ (upQ (a * x) hh) 8 else upQ (upQ (b * y) vv) 8) Try.underlying65 (by kernel_rfl) (by decide) (by decide) rfl (.tmp 147) (.tmp 149) rfl rfl rfl rfl HN7.out.go (by omega) HB7.out.size ?_
              intro v7 w7 hO7 hk7 hg7 hb7
              obtain ⟨A8, c8, rfl, _, _⟩ := hO7.form
              have HF8 : Hid (Blk w7 w2.heap.size 67 (frC (.slice (some ⟨g1, 0, none⟩) k c1) (.slice A3 j c3) ac dn (8 * hh) (8 * vv) tt su)) := Lib.hid (hk7 _ _ _ (by decide) HN7.out.fr)
              have HP8 : Hid (OwnS w7 w.heap.size 62 2 (.slice (some ⟨g1, 0, none⟩) k c1) k p) := Lib.hid (HN7.out.po.keep fun g' cs hB => hk7 _ _ _ (by decide) hB)
              have HO8 : Hid (OwnS w7 w.heap.size 33 4 (.slice A8 (j + 1) c8) (j + 1) gr) := Lib.hid (hO7.congr fun i hi q hq => by
              by_cases e : i = j
              · subst e; rw [if_pos rfl, HGR.out]; simp only [gridF, ← HX.out, ← HY.out]; done
              · rw [if_neg e])
              have HG8 : Hid (Blk w7 wd.heap.size 33 #[.int .i64 (ac * x), .int .i64 (dn * y), .int .i64 (upQ (upQ (a * x) hh) 8), .int .i64 (upQ (upQ (b * y) vv) 8)]) := Lib.hid ((hg7.block wd.heap.size HG7.out.lt (fun e => by have := (HN5.out.go.lt _ e.symm).2; omega)).trans HG7.out)
              have HB8 := Lib.hid (HB7.out.trans hb7)
              have f8 : w7.cell? ⟨w2.heap.size, 1, none⟩ = some (.slice A3 j c3) := HF8.out.cell 1
              have z8 := HF8.out.frozen 1
              clear hO7 hk7 hg7 hb7
              refine ⟨rfl, trivial, ?_⟩
              try simp only [Act.put, List.setIfInBounds_toArray, List.set_cons_zero, List.set_cons_succ]
              refine plan_run fun m hm => ?_
              simp only [pickO, List.filterMap_cons, List.filterMap_nil, List.getElem?_toArray, List.getElem?_cons_zero, List.getElem?_cons_succ] at hm
              subst hm
              go_wp2_with fail
              refine ⟨rfl, by rfl, ?_⟩
              refine plan_ev fun m hm => ?_
              simp only [pickO, List.filterMap_cons, List.filterMap_nil, List.getElem?_toArray, List.getElem?_cons_zero, List.getElem?_cons_succ] at hm
              subst hm
              go_wp2_with fail
              refine ⟨rfl, trivial, ?_⟩
              try simp only [Act.put, List.setIfInBounds_toArray, List.set_cons_zero, List.set_cons_succ]
              refine plan_fin ?_
              have HN9 : Hid (NwI w.heap.size (w7.setCell ⟨w2.heap.size, 1, none⟩ (.slice A8 (j + 1) c8)) w2.heap.size (.slice (some ⟨g1, 0, none⟩) k c1) (.slice A8 (j + 1) c8) k (j + 1) p gr ac dn (8 * hh) (8 * vv) tt su) := Lib.hid ⟨Blk.set_ HF8.out 1 (.slice A8 (j + 1) c8), HP8.out.keep fun g' cs hB => hB.far (fun e => hB.ne HF8.out (by decide) e) _, HO8.out.keep fun g' cs hB => hB.far (fun e => hB.ne HF8.out (by decide) e) _, HN7.out.le⟩
              have HB9 := Lib.hid (HB8.out.setCell (p := ⟨w2.heap.size, 1, none⟩) HN7.out.le (.slice A8 (j + 1) c8))
              have HG9 : Hid (Blk (w7.setCell ⟨w2.heap.size, 1, none⟩ (.slice A8 (j + 1) c8)) wd.heap.size 33 #[.int .i64 (ac * x), .int .i64 (dn * y), .int .i64 (upQ (upQ (a * x) hh) 8), .int .i64 (upQ (upQ (b * y) vv) 8)]) := Lib.hid (HG8.out.far (fun e => HG8.out.ne HF8.out (by decide) e) _)
              go_wp2_with fail
              refine region_plan (.run [0, 1, 2, 3, 4, 5, 6, 7, 8, 9, 10, 11] (.ev 12 .fin)) (fun w' => True) (by kernel_rfl) trivial ?_
              intro wd3 hwd
              have HN10 := Lib.hid (HN9.out.drewE hwd)
              have HB10 := Lib.hid (belowD HB9.out hwd)
              have HG10 := Lib.hid (HG9.out.drewE hwd)
              have s0 : wd3.cell? ⟨wd.heap.size, 0, none⟩ = some (.int .i64 (ac * x)) := HG10.out.cell 0
              have s1 : wd3.cell? ⟨wd.heap.size, 1, none⟩ = some (.int .i64 (dn * y)) := HG10.out.cell 1
              have s6 : wd3.cell? ⟨w2.heap.size, 6, none⟩ = some (.int .i64 tt) := HN10.out.fr.cell 6
              have z6 := HN10.out.fr.frozen 6
              clear hwd
              refine plan_run fun m hm => ?_
              simp only [pickO, List.filterMap_cons, List.filterMap_nil, List.getElem?_toArray, List.getElem?_cons_zero, List.getElem?_cons_succ] at hm
              subst hm
              go_wp2_with fail
              refine ⟨rfl, by rfl, ?_⟩
              refine plan_ev fun m hm => ?_
              simp only [pickO, List.filterMap_cons, List.filterMap_nil, List.getElem?_toArray, List.getElem?_cons_zero, List.getElem?_cons_succ] at hm
              subst hm
              go_wp2_with fail
              refine ⟨rfl, trivial, ?_⟩
              try simp only [Act.put, List.setIfInBounds_toArray, List.set_cons_zero, List.set_cons_succ]
              refine plan_fin ?_
              go_wp2
              have HN11 := Lib.hid (HN10.out.set 6 (.int .i64 (tt + ac * x * (dn * y))) rfl)
              have HB11 := Lib.hid (HB10.out.setCell (p := ⟨w2.heap.size, 6, none⟩) HN10.out.le (.int .i64 (tt + ac * x * (dn * y))))
              exact ⟨⟨j + 1, _, tt + ac * x * (dn * y), by omega, by go_num, by omega, Lib.hid (by rw [sumU, ← hte.out, HGR.out]; simp only [gridF, ← HX.out, ← HY.out]; rfl), HN11, HB11⟩, by simp [intOf]; omega⟩
            · simp only [pickO, List.filterMap_cons, List.filterMap_nil, List.getElem?_toArray, List.getElem?_cons_zero, List.getElem?_cons_succ] at hm
              subst hm
              go_wp2_with fail
              refine ⟨rfl, trivial, ?_⟩
              try simp only [Act.put, List.setIfInBounds_toArray, List.set_cons_zero, List.set_cons_succ]
              refine plan_run fun m hm => ?_
              simp only [pickO, List.filterMap_cons, List.filterMap_nil, List.getElem?_toArray, List.getElem?_cons_zero, List.getElem?_cons_succ] at hm
              subst hm
              go_wp2_with fail
              refine ⟨rfl, by rfl, ?_⟩
              refine plan_ev fun m hm => ?_
              simp only [pickO, List.filterMap_cons, List.filterMap_nil, List.getElem?_toArray, List.getElem?_cons_zero, List.getElem?_cons_succ] at hm
              subst hm
              refine appS (q := 4) (by_ := 32) (cs := #[.int .i64 (ac * x), .int .i64 (dn * y), .int .i64 (upQ (upQ (a * x) hh) 8), .int .i64 (upQ (upQ (b * y) vv) 8)]) (fun q => if q = 0 then ac * x else if q = 1 then dn * y else if q = 2 then upQ (upQ (a * x) hh) 8 else upQ (upQ (b * y) vv) 8) Try.underlying65 (by kernel_rfl) (by decide) (by decide) rfl (.tmp 147) (.tmp 149) rfl rfl rfl rfl HN7.out.go (by omega) HB7.out.size ?_
              intro v7 w7 hO7 hk7 hg7 hb7
              obtain ⟨A8, c8, rfl, _, _⟩ := hO7.form
              have HF8 : Hid (Blk w7 w2.heap.size 67 (frC (.slice (some ⟨g1, 0, none⟩) k c1) (.slice A3 j c3) ac dn (8 * hh) (8 * vv) tt su)) := Lib.hid (hk7 _ _ _ (by decide) HN7.out.fr)
              have HP8 : Hid (OwnS w7 w.heap.size 62 2 (.slice (some ⟨g1, 0, none⟩) k c1) k p) := Lib.hid (HN7.out.po.keep fun g' cs hB => hk7 _ _ _ (by decide) hB)
              have HO8 : Hid (OwnS w7 w.heap.size 33 4 (.slice A8 (j + 1) c8) (j + 1) gr) := Lib.hid (hO7.congr fun i hi q hq => by
              by_cases e : i = j
              · subst e; rw [if_pos rfl, HGR.out]; simp only [gridF, ← HX.out, ← HY.out]; done
              · rw [if_neg e])
              have HG8 : Hid (Blk w7 wd.heap.size 33 #[.int .i64 (ac * x), .int .i64 (dn * y), .int .i64 (upQ (upQ (a * x) hh) 8), .int .i64 (upQ (upQ (b * y) vv) 8)]) := Lib.hid ((hg7.block wd.heap.size HG7.out.lt (fun e => by have := (HN5.out.go.lt _ e.symm).2; omega)).trans HG7.out)
              have HB8 := Lib.hid (HB7.out.trans hb7)
              have f8 : w7.cell? ⟨w2.heap.size, 1, none⟩ = some (.slice A3 j c3) := HF8.out.cell 1
              have z8 := HF8.out.frozen 1
              clear hO7 hk7 hg7 hb7
              refine ⟨rfl, trivial, ?_⟩
              try simp only [Act.put, List.setIfInBounds_toArray, List.set_cons_zero, List.set_cons_succ]
              refine plan_run fun m hm => ?_
              simp only [pickO, List.filterMap_cons, List.filterMap_nil, List.getElem?_toArray, List.getElem?_cons_zero, List.getElem?_cons_succ] at hm
              subst hm
              go_wp2_with fail
              refine ⟨rfl, by rfl, ?_⟩
              refine plan_ev fun m hm => ?_
              simp only [pickO, List.filterMap_cons, List.filterMap_nil, List.getElem?_toArray, List.getElem?_cons_zero, List.getElem?_cons_succ] at hm
              subst hm
              go_wp2_with fail
              refine ⟨rfl, trivial, ?_⟩
              try simp only [Act.put, List.setIfInBounds_toArray, List.set_cons_zero, List.set_cons_succ]
              refine plan_fin ?_
              have HN9 : Hid (NwI w.heap.size (w7.setCell ⟨w2.heap.size, 1, none⟩ (.slice A8 (j + 1) c8)) w2.heap.size (.slice (some ⟨g1, 0, none⟩) k c1) (.slice A8 (j + 1) c8) k (j + 1) p gr ac dn (8 * hh) (8 * vv) tt su) := Lib.hid ⟨Blk.set_ HF8.out 1 (.slice A8 (j + 1) c8), HP8.out.keep fun g' cs hB => hB.far (fun e => hB.ne HF8.out (by decide) e) _, HO8.out.keep fun g' cs hB => hB.far (fun e => hB.ne HF8.out (by decide) e) _, HN7.out.le⟩
              have HB9 := Lib.hid (HB8.out.setCell (p := ⟨w2.heap.size, 1, none⟩) HN7.out.le (.slice A8 (j + 1) c8))
              have HG9 : Hid (Blk (w7.setCell ⟨w2.heap.size, 1, none⟩ (.slice A8 (j + 1) c8)) wd.heap.size 33 #[.int .i64 (ac * x), .int .i64 (dn * y), .int .i64 (upQ (upQ (a * x) hh) 8), .int .i64 (upQ (upQ (b * y) vv) 8)]) := Lib.hid (HG8.out.far (fun e => HG8.out.ne HF8.out (by decide) e) _)
              go_wp2_with fail
              refine region_plan (.run [0, 1, 2, 3, 4, 5, 6, 7, 8, 9, 10, 11] (.ev 12 .fin)) (fun w' => True) (by kernel_rfl) trivial ?_
              intro wd3 hwd
              have HN10 := Lib.hid (HN9.out.drewE hwd)
              have HB10 := Lib.hid (belowD HB9.out hwd)
              have HG10 := Lib.hid (HG9.out.drewE hwd)
              have s0 : wd3.cell? ⟨wd.heap.size, 0, none⟩ = some (.int .i64 (ac * x)) := HG10.out.cell 0
              have s1 : wd3.cell? ⟨wd.heap.size, 1, none⟩ = some (.int .i64 (dn * y)) := HG10.out.cell 1
              have s6 : wd3.cell? ⟨w2.heap.size, 6, none⟩ = some (.int .i64 tt) := HN10.out.fr.cell 6
              have z6 := HN10.out.fr.frozen 6
              clear hwd
              refine plan_run fun m hm => ?_
              simp only [pickO, List.filterMap_cons, List.filterMap_nil, List.getElem?_toArray, List.getElem?_cons_zero, List.getElem?_cons_succ] at hm
              subst hm
              go_wp2_with fail
              refine ⟨rfl, by rfl, ?_⟩
              refine plan_ev fun m hm => ?_
              simp only [pickO, List.filterMap_cons, List.filterMap_nil, List.getElem?_toArray, List.getElem?_cons_zero, List.getElem?_cons_succ] at hm
              subst hm
              go_wp2_with fail
              refine ⟨rfl, trivial, ?_⟩
              try simp only [Act.put, List.setIfInBounds_toArray, List.set_cons_zero, List.set_cons_succ]
              refine plan_fin ?_
              go_wp2
              have HN11 := Lib.hid (HN10.out.set 6 (.int .i64 (tt + ac * x * (dn * y))) rfl)
              have HB11 := Lib.hid (HB10.out.setCell (p := ⟨w2.heap.size, 6, none⟩) HN10.out.le (.int .i64 (tt + ac * x * (dn * y))))
              exact ⟨⟨j + 1, _, tt + ac * x * (dn * y), by omega, by go_num, by omega, Lib.hid (by rw [sumU, ← hte.out, HGR.out]; simp only [gridF, ← HX.out, ← HY.out]; rfl), HN11, HB11⟩, by simp [intOf]; omega⟩
          · obtain rfl : j = k := by omega
            have e6 : wr.cell? ⟨w2.heap.size, 6, none⟩ = some (.int .i64 tt) := HI.out.fr.cell 6
            have hgu : gr = gridU a b p j := by rw [HGR.out, HAC.out, HDN.out, hhe.out, hve.out]; rfl
            have HGU := Lib.hid hgu; clear hgu
            by_cases htt2 : 16384 < tt
            · have gt : decide ((16384 : Int) < tt) = true := by simpa using htt2
              go_wp2
              go_ret2
              refine NewPost.fail (q := 11) ?_ (by decide) rfl hb.out
              rw [HFV.out, if_neg HSU.out, if_pos (by rw [← HGU.out, ← hte.out]; exact htt2)]
            · have gt : decide ((16384 : Int) < tt) = false := by simpa using htt2
              go_wp2
              go_ret2
              refine NewPost.ok ?_ (NewOk.mk w2.heap.size (.slice (some ⟨g1, 0, none⟩) j c1) (.slice A3 j c3) rfl ?_ hb.out)
              · rw [HFV.out, if_neg HSU.out, if_neg (by rw [← HGU.out, ← hte.out]; omega)]
              · have h9 := HI.out
                rw [hte.out, hse.out, HAC.out, HDN.out, hhe.out, hve.out, HGU.out, HP.out] at h9
                exact h9

end Go.Proofs.Ytjfnlgmllhjonaa
