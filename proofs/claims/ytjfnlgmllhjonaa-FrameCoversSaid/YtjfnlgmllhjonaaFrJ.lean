/- The document's New, of more than one part. No condition. -/
import Derived.Test.YtjfnlgmllhjonaaFrI
namespace Go.Proofs.Ytjfnlgmllhjonaa
open Go.RowKit
set_option linter.unusedSimpArgs false
set_option linter.unusedVariables false
set_option maxHeartbeats 0 in
set_option maxRecDepth 20000 in
theorem rnew_okN (a b : Int) (A : Option Addr) (n c : Nat) (f : Nat → Nat → Int) (w : World) (hn : n ≤ 1000) (hR : RdS w A n 2 f) (h0 : rightV a b n f = 0) (h1n : 1 < n) :
    Calls Try.prog 13 #[.int .i64 a, .int .i64 b, .slice A n c] w (RefPost w a b n f) := by
  have hfv := faultV_right h0
  have hpf := pF_rng h0
  obtain ⟨a0, a1, b0, b1, n0, n4, hf⟩ := right_zero h0
  obtain ⟨p, hp⟩ : ∃ p, p = pF n f := ⟨_, rfl⟩
  rw [← hp] at hfv hpf
  have gn1 : (((n : Nat) : Int) == 1) = false := by simp; omega
  have gn0 : (((n : Nat) : Int) == 0) = false := by simp; omega
  have gn4 : decide ((4 : Int) < (n : Int)) = false := by simp; omega
  have ga : decide (a < 1) = false := by simp; omega
  have gb : decide (b < 1) = false := by simp; omega
  have ga2 : decide (16384 < a) = false := by simp; omega
  have gb2 : decide (16384 < b) = false := by simp; omega
  have hal : Below w.heap.size w (w.alloc (.cells #[.int .i64 0, .int .i64 0, .int .i64 0, .int .i64 0, .slice none 0 0, .slice none 0 0] 39)) := (Below.refl _ _).alloc (Nat.le_refl _) _
  have hal2 : Below w.heap.size w ((w.alloc (.cells #[.int .i64 0, .int .i64 0, .int .i64 0, .int .i64 0, .slice none 0 0, .slice none 0 0] 39)).alloc (.cells #[.int .i64 0, .int .i64 0, .int .i64 0, .int .i64 0, .slice none 0 0, .slice none 0 0] 39)) := ((Below.refl _ _).alloc (Nat.le_refl _) _).alloc (by simp) _
  have ht9 : Blk ((w.alloc (.cells #[.int .i64 0, .int .i64 0, .int .i64 0, .int .i64 0, .slice none 0 0, .slice none 0 0] 39)).alloc (.cells #[.int .i64 0, .int .i64 0, .int .i64 0, .int .i64 0, .slice none 0 0, .slice none 0 0] 39)) (w.heap.size + 1) 39 #[.int .i64 0, .int .i64 0, .int .i64 0, .int .i64 0, .slice none 0 0, .slice none 0 0] := Blk.nw (by simp)
  have ht6 : Blk ((w.alloc (.cells #[.int .i64 0, .int .i64 0, .int .i64 0, .int .i64 0, .slice none 0 0, .slice none 0 0] 39)).alloc (.cells #[.int .i64 0, .int .i64 0, .int .i64 0, .int .i64 0, .slice none 0 0, .slice none 0 0] 39)) w.heap.size 39 #[.int .i64 0, .int .i64 0, .int .i64 0, .int .i64 0, .slice none 0 0, .slice none 0 0] := (Blk.new w _ _).alloc _
  obtain ⟨g, off, rfl, hg, _⟩ := hR.at2 (i := 0) (by omega)
  have HR := Lib.hid (hR.bel hal); have HR2 := Lib.hid (hR.bel hal2); have HAL2 := Lib.hid hal2; have HT9 := Lib.hid ht9; have HT6 := Lib.hid ht6
  have HF := Lib.hid hpf; have HFF := Lib.hid hf; have HP := Lib.hid hp; have HFV := Lib.hid hfv; have H1N := Lib.hid h1n
  clear hR h0 hf hp hg hpf hfv hal hal2 ht9 ht6
  go_enter Try.func13, Try.ntmps13
  go_wp2_with fail
  go_loop [8] (fun i => ∃ (k : Nat), k ≤ n ∧ i = .int .i64 k) (fun i => n - (intOf i).toNat)
  case atStart => exact ⟨0, by omega, rfl⟩
  case round =>
  obtain ⟨k, hk, rfl⟩ := hrel
  by_cases hlt : k < n
  · obtain ⟨g', off', e3, hgs, q0, q1⟩ := HR.out.at2 hlt
    cases e3
    obtain ⟨x, hx⟩ : ∃ x, x = f k 0 := ⟨_, rfl⟩
    obtain ⟨y, hy⟩ : ∃ y, y = f k 1 := ⟨_, rfl⟩
    have hfk := HFF.out k hlt
    rw [← hx] at q0
    rw [← hy] at q1
    rw [← hx, ← hy] at hfk
    have d1 : decide (x < 1) = false := by simp; omega
    have d2 : decide (4 < x) = false := by simp; omega
    have d3 : decide (y < 1) = false := by simp; omega
    have d4 : decide (4 < y) = false := by simp; omega
    clear hx hy hgs
    go_wp2
    exact ⟨⟨k + 1, by omega, by go_num⟩, by simp [intOf]; omega⟩
  obtain rfl : k = n := by omega
  go_wp2_with (first | (refine appS0 (q := 2) (by_ := 16) (base := w.heap.size) Try.underlying22 (by kernel_rfl) (by decide) (by decide) rfl (.tmp 78) (.tmp 79) rfl rfl rfl (OwnS.nil _ _ _ 2 f) HR2.out (by omega) (by simp; omega) ?_; intro v7 w7 hO7 hk7 hb7; have hT9 := hk7 _ _ _ (by decide) HT9.out; have hT6 := hk7 _ _ _ (by decide) HT6.out; have HO7 := Lib.hid hO7; have HT9b := Lib.hid hT9; have HT6b := Lib.hid hT6; have HB7 := Lib.hid (HAL2.out.trans hb7); obtain ⟨A1, c1, rfl, hnc1, _⟩ := hO7.form; obtain ⟨g1, rfl⟩ : ∃ g1, A1 = some ⟨g1, 0, none⟩ := ownS_some hO7 (by omega); have r4 : w7.cell? ⟨(w.heap.size + 1), 4, none⟩ = some (.slice none 0 0) := hT9.cell 4; have z4 := hT9.frozen 4; clear hO7 hk7 hb7 hT9 hT6 hnc1))
  have HT9d : Hid (Blk (w7.setCell ⟨(w.heap.size + 1), 4, none⟩ (.slice (some ⟨g1, 0, none⟩) k c1)) (w.heap.size + 1) 39 (rfC 0 0 0 0 (.slice (some ⟨g1, 0, none⟩) k c1) (.slice none 0 0))) := Lib.hid (Blk.set_ HT9b.out 4 _)
  have HT6d : Hid (Blk (w7.setCell ⟨(w.heap.size + 1), 4, none⟩ (.slice (some ⟨g1, 0, none⟩) k c1)) w.heap.size 39 #[.int .i64 0, .int .i64 0, .int .i64 0, .int .i64 0, .slice none 0 0, .slice none 0 0]) := Lib.hid (HT6b.out.far (by simp) _)
  have HO8 : Hid (OwnS (w7.setCell ⟨(w.heap.size + 1), 4, none⟩ (.slice (some ⟨g1, 0, none⟩) k c1)) w.heap.size 69 2 (.slice (some ⟨g1, 0, none⟩) k c1) k f) := Lib.hid (HO7.out.keep fun g' cs hB => hB.far (fun e => hB.ne HT9b.out (by decide) e) _)
  have HB8 : Hid (Below w.heap.size w (w7.setCell ⟨(w.heap.size + 1), 4, none⟩ (.slice (some ⟨g1, 0, none⟩) k c1))) := Lib.hid (HB7.out.setCell (by simp) _)
  go_loopw [10, 11, 12, 13] (fun h v s i wr => ∃ (q : Nat) (hh vv su : Int), q ≤ k ∧ h = .int .i64 hh ∧ v = .int .i64 vv ∧ s = .int .i64 su ∧ i = .int .i64 q ∧ (1 ≤ hh ∧ hh ≤ 4) ∧ (1 ≤ vv ∧ vv ≤ 4) ∧ (0 ≤ su ∧ su ≤ 16 * (q : Int)) ∧ Hid (hh = maxR p 0 q) ∧ Hid (vv = maxR p 1 q) ∧ Hid (su = sumU p q) ∧ Hid (RfI w.heap.size wr (w.heap.size + 1) (.slice (some ⟨g1, 0, none⟩) k c1) (.slice none 0 0) k 0 p p 0 0 0 0) ∧ Hid (Blk wr w.heap.size 39 #[.int .i64 0, .int .i64 0, .int .i64 0, .int .i64 0, .slice none 0 0, .slice none 0 0]) ∧ Hid (Below w.heap.size w wr)) (fun _ _ _ i _ => k - (intOf i).toNat)
  case atStart =>
    exact ⟨0, 1, 1, 0, by omega, rfl, rfl, rfl, rfl, by omega, by omega, by omega, Lib.hid rfl, Lib.hid rfl, Lib.hid rfl, Lib.hid ⟨HT9d.out, HO8.out.congr fun i hi j hj => by rw [HP.out]; unfold pF; rw [if_neg (by have := H1N.out; omega)], OwnS.nil _ _ _ _ _, by omega⟩, HT6d, HB8⟩
  case round =>
    obtain ⟨q, hh, vv, su, hq, rfl, rfl, rfl, rfl, hhr, hvr, hsr, hhe, hve, hse, HI, H6, hb⟩ := hrel
    by_cases hlt : q < k
    · obtain ⟨A2, c2, e2, hnc2, hR2⟩ := HI.out.po.form
      cases e2
      obtain ⟨g2, off2, e3, hg2, q0, q1⟩ := hR2.at2 hlt
      cases e3
      rw [Nat.zero_add] at q0 q1
      have hfk := HF.out q hlt
      obtain ⟨x, hx⟩ : ∃ x, x = p q 0 := ⟨_, rfl⟩
      obtain ⟨y, hy⟩ : ∃ y, y = p q 1 := ⟨_, rfl⟩
      rw [← hx, ← hy] at hfk
      rw [← hx] at q0
      rw [← hy] at q1
      obtain ⟨hx0, hx1, hy0, hy1⟩ := hfk
      have hxy := mul_rng (x := x) (y := y) (A := 4) (B := 4) (by omega) hx1 (by omega) hy1
      have hal : Below wr.heap.size wr (wr.alloc (.cells #[.int .i64 x, .int .i64 y] 69)) := (Below.refl _ _).alloc (Nat.le_refl _) _
      have HX := Lib.hid hx; have HY := Lib.hid hy
      have HI2 := Lib.hid (HI.out.bel hal); have H62 := Lib.hid (H6.out.bel hal); have HB2 := Lib.hid (hb.out.trans (hal.mono hb.out.size))
      have r4 : wr.cell? ⟨(w.heap.size + 1), 4, none⟩ = some (.slice (some ⟨g1, 0, none⟩) k c1) := HI.out.fr.cell 4
      clear hR2 hx hy hg2 hnc2 hal
      by_cases hmx : hh < x
      all_goals by_cases hmy : vv < y
      all_goals
        go_wp2
        exact ⟨⟨q + 1, _, _, su + x * y, by omega, rfl, rfl, rfl, by go_num, by omega, by omega, by omega, Lib.hid (by rw [maxR, ← hhe.out, ← HX.out]; omega), Lib.hid (by rw [maxR, ← hve.out, ← HY.out]; omega), Lib.hid (by rw [sumU, ← hse.out, ← HX.out, ← HY.out]), HI2, H62, HB2⟩, by simp [intOf]; omega⟩
    · obtain rfl : k = q := by omega
      have hhu : hh = maxU p 0 k := by rw [hhe.out]; exact maxR_eq p 0 k (fun i hi => by have := HF.out i hi; omega) (by omega)
      have hvu : vv = maxU p 1 k := by rw [hve.out]; exact maxR_eq p 1 k (fun i hi => by have := HF.out i hi; omega) (by omega)
      have HHU := Lib.hid hhu; have HVU := Lib.hid hvu
      clear hhu hvu
      have g1n : decide ((1 : Int) < (k : Int)) = true := by simp; omega
      by_cases hsu : 10 < su
      · have gsu : decide ((10 : Int) < su) = true := by simpa using hsu
        go_wp2_with (first | (refine wpList_store_far rfl 39 (.tmp 6) (.tmp 126) rfl w.heap.size #[.int .i64 0, .int .i64 0, .int .i64 0, .int .i64 0, .slice none 0 0, .slice none 0 0] _ 39 rfl rfl H6.out (by kernel_rfl) rfl (by simp [Value.oneCell']) ?_; intro w9 hB9 hf9 hb9 _ _; have HB9 := Lib.hid (hb9 w.heap.size w (Nat.le_refl _) hb.out); have e0 : w9.cell? ⟨w.heap.size, 0, none⟩ = some (.int .i64 0) := hB9.cell 0; have e1 : w9.cell? ⟨w.heap.size, 1, none⟩ = some (.int .i64 0) := hB9.cell 1; have e2 : w9.cell? ⟨w.heap.size, 2, none⟩ = some (.int .i64 0) := hB9.cell 2; have e3 : w9.cell? ⟨w.heap.size, 3, none⟩ = some (.int .i64 0) := hB9.cell 3; have e4 : w9.cell? ⟨w.heap.size, 4, none⟩ = some (.slice none 0 0) := hB9.cell 4; have e5 : w9.cell? ⟨w.heap.size, 5, none⟩ = some (.slice none 0 0) := hB9.cell 5; clear hB9 hf9 hb9))
        exact bodyPost_ret (v := .tuple #[.agg #[.int .i64 0, .int .i64 0, .int .i64 0, .int .i64 0, .slice none 0 0, .slice none 0 0], .int .i64 12]) (by simp [results, Try.results13, go_sem, e0, e1, e2, e3, e4, e5]) rfl (RefPost.fail (q := 12) (by rw [HFV.out, if_pos ⟨H1N.out, by rw [← hse.out]; exact hsu⟩]) (by decide) rfl HB9.out)
      · have gsu : decide ((10 : Int) < su) = false := by simpa using hsu
        have HSU : Hid (¬ (1 < k ∧ 10 < sumU p k)) := Lib.hid (by rw [← hse.out]; omega)

        have r0 : wr.cell? ⟨(w.heap.size + 1), 0, none⟩ = some (.int .i64 0) := HI.out.fr.cell 0
        have r1 : wr.cell? ⟨(w.heap.size + 1), 1, none⟩ = some (.int .i64 0) := HI.out.fr.cell 1
        have r2 : wr.cell? ⟨(w.heap.size + 1), 2, none⟩ = some (.int .i64 0) := HI.out.fr.cell 2
        have r3 : wr.cell? ⟨(w.heap.size + 1), 3, none⟩ = some (.int .i64 0) := HI.out.fr.cell 3
        have z0 := HI.out.fr.frozen 0
        have z1 := HI.out.fr.frozen 1
        have z2 := HI.out.fr.frozen 2
        have z3 := HI.out.fr.frozen 3
        have hacr := upQ_rng (a := a) (b := 8 * hh) (A := 16384) (by omega) (by omega) (by omega)
        have hdnr := upQ_rng (a := b) (b := 8 * vv) (A := 16384) (by omega) (by omega) (by omega)
        go_wp2_with (first | (go_at_call 23; refine (cover_up _ _ (by omega) (by omega) (by omega) (by omega) _).mono ?_; rintro e w' ⟨rfl, rfl⟩))
        have HN4 := Lib.hid ((((HI.out.set 0 (.int .i64 (8 * hh)) rfl).set 1 (.int .i64 (8 * vv)) rfl).set 2 (.int .i64 (upQ a (8 * hh))) rfl).set 3 (.int .i64 (upQ b (8 * vv))) rfl)
        have H64 := Lib.hid ((((H6.out.far (p := ⟨(w.heap.size + 1), 0, none⟩) (by simp) (.int .i64 (8 * hh))).far (p := ⟨(w.heap.size + 1), 1, none⟩) (by simp) (.int .i64 (8 * vv))).far (p := ⟨(w.heap.size + 1), 2, none⟩) (by simp) (.int .i64 (upQ a (8 * hh)))).far (p := ⟨(w.heap.size + 1), 3, none⟩) (by simp) (.int .i64 (upQ b (8 * vv))))
        have HB4 := Lib.hid ((((hb.out.setCell (p := ⟨(w.heap.size + 1), 0, none⟩) (by simp) (.int .i64 (8 * hh))).setCell (p := ⟨(w.heap.size + 1), 1, none⟩) (by simp) (.int .i64 (8 * vv))).setCell (p := ⟨(w.heap.size + 1), 2, none⟩) (by simp) (.int .i64 (upQ a (8 * hh)))).setCell (p := ⟨(w.heap.size + 1), 3, none⟩) (by simp) (.int .i64 (upQ b (8 * vv))))
        clear r0 r1 r2 r3 z0 z1 z2 z3
        obtain ⟨ac, hac⟩ : ∃ ac, ac = upQ a (8 * hh) := ⟨_, rfl⟩
        obtain ⟨dn, hdn⟩ : ∃ dn, dn = upQ b (8 * vv) := ⟨_, rfl⟩
        rw [← hac] at hacr
        rw [← hdn] at hdnr
        obtain ⟨gr, hgr⟩ : ∃ gr, gr = gridF a b hh vv ac dn p := ⟨_, rfl⟩
        go_loopw [15] (fun i wr => ∃ (j : Nat) (gs : Value), j ≤ k ∧ i = .int .i64 j ∧ Hid (RfI w.heap.size wr (w.heap.size + 1) (.slice (some ⟨g1, 0, none⟩) k c1) gs k j p gr (8 * hh) (8 * vv) ac dn) ∧ Hid (Blk wr w.heap.size 39 #[.int .i64 0, .int .i64 0, .int .i64 0, .int .i64 0, .slice none 0 0, .slice none 0 0]) ∧ Hid (Below w.heap.size w wr)) (fun i _ => k - (intOf i).toNat)
        case atStart =>
          refine ⟨0, .slice none 0 0, by omega, rfl, Lib.hid ?_, H64, HB4⟩
          rw [hac, hdn]
          exact ⟨HN4.out.fr, HN4.out.po, OwnS.nil _ _ _ _ _, HN4.out.le⟩
        have HGR := Lib.hid hgr; have HAC := Lib.hid hac; have HDN := Lib.hid hdn
        clear hgr hac hdn HN4 HB4 H64
        case round =>
          obtain ⟨j, gs, hj, rfl, HI, H6, hb⟩ := hrel
          obtain ⟨A3, c3, rfl, hnc3, hR3⟩ := HI.out.go.form
          have HR3 := Lib.hid hR3
          clear hR3
          by_cases hlt : j < k
          · obtain ⟨A2, c2, e2, hnc2, hR2⟩ := HI.out.po.form
            cases e2
            obtain ⟨g2, off2, e3, hg2, q0, q1⟩ := hR2.at2 hlt
            cases e3
            rw [Nat.zero_add] at q0 q1
            have hfk := HF.out j hlt
            obtain ⟨x, hx⟩ : ∃ x, x = p j 0 := ⟨_, rfl⟩
            obtain ⟨y, hy⟩ : ∃ y, y = p j 1 := ⟨_, rfl⟩
            rw [← hx, ← hy] at hfk
            rw [← hx] at q0
            rw [← hy] at q1
            obtain ⟨hx0, hx1, hy0, hy1⟩ := hfk
            have hax := mul_rng (x := a) (y := x) (A := 16384) (B := 4) (by omega) a1 (by omega) hx1
            have hby := mul_rng (x := b) (y := y) (A := 16384) (B := 4) (by omega) b1 (by omega) hy1
            have hacx := mul_rng (x := ac) (y := x) (A := 16384) (B := 4) hacr.1 hacr.2 (by omega) hx1
            have hdny := mul_rng (x := dn) (y := y) (A := 16384) (B := 4) hdnr.1 hdnr.2 (by omega) hy1
            have hu1 := upQ_rng (a := a * x) (b := hh) (A := 65536) (by omega) (by omega) (by omega)
            have hu2 := upQ_rng (a := b * y) (b := vv) (A := 65536) (by omega) (by omega) (by omega)
            have hal : Below wr.heap.size wr (wr.alloc (.cells #[.int .i64 x, .int .i64 y] 69)) := (Below.refl _ _).alloc (Nat.le_refl _) _
            have HX := Lib.hid hx; have HY := Lib.hid hy
            have HI5 := Lib.hid (HI.out.bel hal); have H65 := Lib.hid (H6.out.bel hal); have HB5 := Lib.hid (hb.out.trans (hal.mono hb.out.size))
            have r4 : wr.cell? ⟨(w.heap.size + 1), 4, none⟩ = some (.slice (some ⟨g1, 0, none⟩) k c1) := HI.out.fr.cell 4
            clear hR2 hx hy hg2 hnc2 hal
            have HTC := Lib.hid (Blk.new wr 69 #[.int .i64 x, .int .i64 y])
            go_wp2_with fail
            clear r4
            refine region_plan (.run [0, 2] (.held 3 (.run [4] (.held 5 (.run [6, 7] (.held 8 (.run [9] (.held 10 (.run [11, 12, 13, 14, 15, 16] (.held 17 (.held 18 (.run [19, 20] (.held 21 (.run [22, 23] (.held 24 (.held 25 (.run [26] (.alt 1 27 (.ev 27 (.ev 28 (.run [29] (.ev 30 .fin)))) (.run [1] (.ev 28 (.run [29] (.ev 30 .fin)))))))))))))))))))))) (fun w' => w'.cell? ⟨(w.heap.size + 1), 2, none⟩ = some (.int .i64 ac) ∧ w'.cell? ⟨(w.heap.size + 1), 3, none⟩ = some (.int .i64 dn) ∧ w'.cell? ⟨wr.heap.size, 0, none⟩ = some (.int .i64 x) ∧ w'.cell? ⟨wr.heap.size, 1, none⟩ = some (.int .i64 y)) (by kernel_rfl) ⟨HI5.out.fr.cell 2, HI5.out.fr.cell 3, HTC.out.cell 0, HTC.out.cell 1⟩ ?_
            intro wd hwd
            have HI6 := Lib.hid (HI5.out.drewE hwd)
            have HTC6 := Lib.hid (HTC.out.drewE hwd)
            have H66 := Lib.hid (H65.out.drewE hwd)
            have HB6 := Lib.hid (belowD HB5.out hwd)
            have s0 : wd.cell? ⟨wr.heap.size, 0, none⟩ = some (.int .i64 x) := by rw [hwd]; exact (Blk.new wr 69 #[.int .i64 x, .int .i64 y]).cell 0
            have s1 : wd.cell? ⟨wr.heap.size, 1, none⟩ = some (.int .i64 y) := by rw [hwd]; exact (Blk.new wr 69 #[.int .i64 x, .int .i64 y]).cell 1
            have s2 : wd.cell? ⟨(w.heap.size + 1), 2, none⟩ = some (.int .i64 ac) := HI6.out.fr.cell 2
            have s3 : wd.cell? ⟨(w.heap.size + 1), 3, none⟩ = some (.int .i64 dn) := HI6.out.fr.cell 3
            have s5 : wd.cell? ⟨(w.heap.size + 1), 5, none⟩ = some (.slice A3 j c3) := HI6.out.fr.cell 5
            have ha7 : Below wd.heap.size wd (wd.alloc (.cells #[.int .i64 (ac * x), .int .i64 (dn * y), .int .i64 (upQ (upQ (a * x) hh) 8), .int .i64 (upQ (upQ (b * y) vv) 8)] 43)) := (Below.refl _ _).alloc (Nat.le_refl _) _
            have s5a : (wd.alloc (.cells #[.int .i64 (ac * x), .int .i64 (dn * y), .int .i64 (upQ (upQ (a * x) hh) 8), .int .i64 (upQ (upQ (b * y) vv) 8)] 43)).cell? ⟨(w.heap.size + 1), 5, none⟩ = some (.slice A3 j c3) := (HI6.out.bel ha7).fr.cell 5
            clear hwd
            refine plan_run fun m hm => ?_
            simp only [pickO, List.filterMap_cons, List.filterMap_nil, List.getElem?_toArray, List.getElem?_cons_zero, List.getElem?_cons_succ] at hm
            subst hm
            go_wp2_with fail
            refine ⟨rfl, by rfl, ?_⟩
            refine plan_held (o := ⟨some 157, _, _, _, _, _⟩) (v := .int .i64 ac) rfl (by rfl) (fun w' hS => ?_) ?_
            · obtain ⟨hS1, hS2, hS3, hS4⟩ := hS; go_simp
            try simp only [Act.put, List.setIfInBounds_toArray, List.set_cons_zero, List.set_cons_succ]
            refine plan_run fun m hm => ?_
            simp only [pickO, List.filterMap_cons, List.filterMap_nil, List.getElem?_toArray, List.getElem?_cons_zero, List.getElem?_cons_succ] at hm
            subst hm
            go_wp2_with fail
            refine ⟨rfl, by rfl, ?_⟩
            refine plan_held (o := ⟨some 159, _, _, _, _, _⟩) (v := .int .i64 x) rfl (by rfl) (fun w' hS => ?_) ?_
            · obtain ⟨hS1, hS2, hS3, hS4⟩ := hS; go_simp
            try simp only [Act.put, List.setIfInBounds_toArray, List.set_cons_zero, List.set_cons_succ]
            refine plan_run fun m hm => ?_
            simp only [pickO, List.filterMap_cons, List.filterMap_nil, List.getElem?_toArray, List.getElem?_cons_zero, List.getElem?_cons_succ] at hm
            subst hm
            go_wp2_with fail
            refine ⟨rfl, by rfl, ?_⟩
            refine plan_held (o := ⟨some 162, _, _, _, _, _⟩) (v := .int .i64 dn) rfl (by rfl) (fun w' hS => ?_) ?_
            · obtain ⟨hS1, hS2, hS3, hS4⟩ := hS; go_simp
            try simp only [Act.put, List.setIfInBounds_toArray, List.set_cons_zero, List.set_cons_succ]
            refine plan_run fun m hm => ?_
            simp only [pickO, List.filterMap_cons, List.filterMap_nil, List.getElem?_toArray, List.getElem?_cons_zero, List.getElem?_cons_succ] at hm
            subst hm
            go_wp2_with fail
            refine ⟨rfl, by rfl, ?_⟩
            refine plan_held (o := ⟨some 164, _, _, _, _, _⟩) (v := .int .i64 y) rfl (by rfl) (fun w' hS => ?_) ?_
            · obtain ⟨hS1, hS2, hS3, hS4⟩ := hS; go_simp
            try simp only [Act.put, List.setIfInBounds_toArray, List.set_cons_zero, List.set_cons_succ]
            refine plan_run fun m hm => ?_
            simp only [pickO, List.filterMap_cons, List.filterMap_nil, List.getElem?_toArray, List.getElem?_cons_zero, List.getElem?_cons_succ] at hm
            subst hm
            go_wp2_with fail
            refine ⟨rfl, by rfl, ?_⟩
            refine plan_pure (v := .int .i64 (upQ (a * x) hh)) #[.int .i64 (a * x), .int .i64 hh] rfl (by rfl) Try.func23 (by kernel_rfl) rfl rfl (by simp only [List.map_toArray, List.map_cons, List.map_nil]; rfl) (fun w' hS => cover_walk (a * x) hh (by omega) (by omega) (by omega) (by omega) w') ?_
            try simp only [Act.put, List.setIfInBounds_toArray, List.set_cons_zero, List.set_cons_succ]
            refine plan_pure (v := .int .i64 (upQ (upQ (a * x) hh) 8)) #[.int .i64 (upQ (a * x) hh), .int .i64 8] rfl (by rfl) Try.func23 (by kernel_rfl) rfl rfl (by simp only [List.map_toArray, List.map_cons, List.map_nil]; rfl) (fun w' hS => cover_walk (upQ (a * x) hh) 8 (by omega) (by omega) (by omega) (by omega) w') ?_
            try simp only [Act.put, List.setIfInBounds_toArray, List.set_cons_zero, List.set_cons_succ]
            refine plan_run fun m hm => ?_
            simp only [pickO, List.filterMap_cons, List.filterMap_nil, List.getElem?_toArray, List.getElem?_cons_zero, List.getElem?_cons_succ] at hm
            subst hm
            go_wp2_with fail
            refine ⟨rfl, by rfl, ?_⟩
            refine plan_held (o := ⟨some 175, _, _, _, _, _⟩) (v := .int .i64 y) rfl (by rfl) (fun w' hS => ?_) ?_
            · obtain ⟨hS1, hS2, hS3, hS4⟩ := hS; go_simp
            try simp only [Act.put, List.setIfInBounds_toArray, List.set_cons_zero, List.set_cons_succ]
            refine plan_run fun m hm => ?_
            simp only [pickO, List.filterMap_cons, List.filterMap_nil, List.getElem?_toArray, List.getElem?_cons_zero, List.getElem?_cons_succ] at hm
            subst hm
            go_wp2_with fail
            refine ⟨rfl, by rfl, ?_⟩
            refine plan_pure (v := .int .i64 (upQ (b * y) vv)) #[.int .i64 (b * y), .int .i64 vv] rfl (by rfl) Try.func23 (by kernel_rfl) rfl rfl (by simp only [List.map_toArray, List.map_cons, List.map_nil]; rfl) (fun w' hS => cover_walk (b * y) vv (by omega) (by omega) (by omega) (by omega) w') ?_
            try simp only [Act.put, List.setIfInBounds_toArray, List.set_cons_zero, List.set_cons_succ]
            refine plan_pure (v := .int .i64 (upQ (upQ (b * y) vv) 8)) #[.int .i64 (upQ (b * y) vv), .int .i64 8] rfl (by rfl) Try.func23 (by kernel_rfl) rfl rfl (by simp only [List.map_toArray, List.map_cons, List.map_nil]; rfl) (fun w' hS => cover_walk (upQ (b * y) vv) 8 (by omega) (by omega) (by omega) (by omega) w') ?_
            try simp only [Act.put, List.setIfInBounds_toArray, List.set_cons_zero, List.set_cons_succ]
            refine plan_run fun m hm => ?_
            simp only [pickO, List.filterMap_cons, List.filterMap_nil, List.getElem?_toArray, List.getElem?_cons_zero, List.getElem?_cons_succ] at hm
            subst hm
            go_wp2_with fail
            refine ⟨rfl, by rfl, ?_⟩
            refine plan_alt (fun m hm => ?_) (fun m hm => ?_)
            · simp only [pickO, List.filterMap_cons, List.filterMap_nil, List.getElem?_toArray, List.getElem?_cons_zero, List.getElem?_cons_succ] at hm
              subst hm
              go_wp2_with fail
              refine ⟨rfl, rfl, ?_⟩
              refine plan_ev fun m hm => ?_
              simp only [pickO, List.filterMap_cons, List.filterMap_nil, List.getElem?_toArray, List.getElem?_cons_zero, List.getElem?_cons_succ] at hm
              subst hm
              go_wp2_with fail
              refine ⟨rfl, ⟨(HI6.out.bel ha7).fr.cell 2, (HI6.out.bel ha7).fr.cell 3, (HTC6.out.bel ha7).cell 0, (HTC6.out.bel ha7).cell 1⟩, ?_⟩
              try simp only [Act.put, List.setIfInBounds_toArray, List.set_cons_zero, List.set_cons_succ]
              refine plan_ev fun m hm => ?_
              simp only [pickO, List.filterMap_cons, List.filterMap_nil, List.getElem?_toArray, List.getElem?_cons_zero, List.getElem?_cons_succ] at hm
              subst hm
              refine appS (q := 4) (by_ := 32) (cs := #[.int .i64 (ac * x), .int .i64 (dn * y), .int .i64 (upQ (upQ (a * x) hh) 8), .int .i64 (upQ (upQ (b * y) vv) 8)]) (fun q => if q = 0 then ac * x else if q = 1 then dn * y else if q = 2 then upQ (upQ (a * x) hh) 8 else upQ (upQ (b * y) vv) 8) Try.underlying37 (by kernel_rfl) (by decide) (by decide) rfl (.tmp 155) (.tmp 181) rfl rfl rfl rfl HI6.out.go (by omega) HB6.out.size ?_
              intro v7 w7 hO7 hk7 hg7 hb7
              obtain ⟨A8, c8, rfl, _, _⟩ := hO7.form
              have HF8 := Lib.hid (hk7 _ _ _ (by decide) HI6.out.fr)
              have H68 := Lib.hid (hk7 _ _ _ (by decide) H66.out)
              have HP8 : Hid (OwnS w7 w.heap.size 69 2 (.slice (some ⟨g1, 0, none⟩) k c1) k p) := Lib.hid (HI6.out.po.keep fun g' cs hB => hk7 _ _ _ (by decide) hB)
              have HO8 : Hid (OwnS w7 w.heap.size 43 4 (.slice A8 (j + 1) c8) (j + 1) gr) := Lib.hid (hO7.congr fun i hi q hq => by
              by_cases e : i = j
              · subst e; rw [if_pos rfl, HGR.out]; simp only [gridF, ← HX.out, ← HY.out]; done
              · rw [if_neg e])
              have HB8 := Lib.hid (HB6.out.trans hb7)
              have f8 : w7.cell? ⟨(w.heap.size + 1), 5, none⟩ = some (.slice A3 j c3) := HF8.out.cell 5
              have z8 := HF8.out.frozen 5
              have HTC8 := Lib.hid (hk7 _ _ _ (by decide) HTC6.out)
              clear hO7 hk7 hg7 hb7
              refine ⟨rfl, ⟨HF8.out.cell 2, HF8.out.cell 3, HTC8.out.cell 0, HTC8.out.cell 1⟩, ?_⟩
              try simp only [Act.put, List.setIfInBounds_toArray, List.set_cons_zero, List.set_cons_succ]
              refine plan_run fun m hm => ?_
              simp only [pickO, List.filterMap_cons, List.filterMap_nil, List.getElem?_toArray, List.getElem?_cons_zero, List.getElem?_cons_succ] at hm
              subst hm
              go_wp2_with fail
              refine ⟨rfl, by rfl, ?_⟩
              refine plan_ev fun m hm => ?_
              simp only [pickO, List.filterMap_cons, List.filterMap_nil, List.getElem?_toArray, List.getElem?_cons_zero, List.getElem?_cons_succ] at hm
              subst hm
              go_wp2_with fail
              refine ⟨rfl, ⟨(Blk.set_ HF8.out 5 (.slice A8 (j + 1) c8)).cell 2, (Blk.set_ HF8.out 5 (.slice A8 (j + 1) c8)).cell 3, (HTC8.out.far (p := ⟨(w.heap.size + 1), 5, none⟩) (fun e => HTC8.out.ne HF8.out (by decide) e) (.slice A8 (j + 1) c8)).cell 0, (HTC8.out.far (p := ⟨(w.heap.size + 1), 5, none⟩) (fun e => HTC8.out.ne HF8.out (by decide) e) (.slice A8 (j + 1) c8)).cell 1⟩, ?_⟩
              try simp only [Act.put, List.setIfInBounds_toArray, List.set_cons_zero, List.set_cons_succ]
              refine plan_fin ?_
              go_wp2
              refine ⟨⟨j + 1, .slice A8 (j + 1) c8, by omega, by go_num, Lib.hid ⟨Blk.set_ HF8.out 5 (.slice A8 (j + 1) c8), HP8.out.keep fun g' cs hB => hB.far (fun e => hB.ne HF8.out (by decide) e) _, HO8.out.keep fun g' cs hB => hB.far (fun e => hB.ne HF8.out (by decide) e) _, by omega⟩, Lib.hid (H68.out.far (by simp) _), Lib.hid (HB8.out.setCell (by simp) _)⟩, by simp [intOf]; omega⟩
            · simp only [pickO, List.filterMap_cons, List.filterMap_nil, List.getElem?_toArray, List.getElem?_cons_zero, List.getElem?_cons_succ] at hm
              subst hm
              go_wp2_with fail
              refine ⟨rfl, ⟨(HI6.out.bel ha7).fr.cell 2, (HI6.out.bel ha7).fr.cell 3, (HTC6.out.bel ha7).cell 0, (HTC6.out.bel ha7).cell 1⟩, ?_⟩
              try simp only [Act.put, List.setIfInBounds_toArray, List.set_cons_zero, List.set_cons_succ]
              refine plan_run fun m hm => ?_
              simp only [pickO, List.filterMap_cons, List.filterMap_nil, List.getElem?_toArray, List.getElem?_cons_zero, List.getElem?_cons_succ] at hm
              subst hm
              go_wp2_with fail
              refine ⟨rfl, by rfl, ?_⟩
              refine plan_ev fun m hm => ?_
              simp only [pickO, List.filterMap_cons, List.filterMap_nil, List.getElem?_toArray, List.getElem?_cons_zero, List.getElem?_cons_succ] at hm
              subst hm
              refine appS (q := 4) (by_ := 32) (cs := #[.int .i64 (ac * x), .int .i64 (dn * y), .int .i64 (upQ (upQ (a * x) hh) 8), .int .i64 (upQ (upQ (b * y) vv) 8)]) (fun q => if q = 0 then ac * x else if q = 1 then dn * y else if q = 2 then upQ (upQ (a * x) hh) 8 else upQ (upQ (b * y) vv) 8) Try.underlying37 (by kernel_rfl) (by decide) (by decide) rfl (.tmp 155) (.tmp 181) rfl rfl rfl rfl HI6.out.go (by omega) HB6.out.size ?_
              intro v7 w7 hO7 hk7 hg7 hb7
              obtain ⟨A8, c8, rfl, _, _⟩ := hO7.form
              have HF8 := Lib.hid (hk7 _ _ _ (by decide) HI6.out.fr)
              have H68 := Lib.hid (hk7 _ _ _ (by decide) H66.out)
              have HP8 : Hid (OwnS w7 w.heap.size 69 2 (.slice (some ⟨g1, 0, none⟩) k c1) k p) := Lib.hid (HI6.out.po.keep fun g' cs hB => hk7 _ _ _ (by decide) hB)
              have HO8 : Hid (OwnS w7 w.heap.size 43 4 (.slice A8 (j + 1) c8) (j + 1) gr) := Lib.hid (hO7.congr fun i hi q hq => by
              by_cases e : i = j
              · subst e; rw [if_pos rfl, HGR.out]; simp only [gridF, ← HX.out, ← HY.out]; done
              · rw [if_neg e])
              have HB8 := Lib.hid (HB6.out.trans hb7)
              have f8 : w7.cell? ⟨(w.heap.size + 1), 5, none⟩ = some (.slice A3 j c3) := HF8.out.cell 5
              have z8 := HF8.out.frozen 5
              have HTC8 := Lib.hid (hk7 _ _ _ (by decide) HTC6.out)
              clear hO7 hk7 hg7 hb7
              refine ⟨rfl, ⟨HF8.out.cell 2, HF8.out.cell 3, HTC8.out.cell 0, HTC8.out.cell 1⟩, ?_⟩
              try simp only [Act.put, List.setIfInBounds_toArray, List.set_cons_zero, List.set_cons_succ]
              refine plan_run fun m hm => ?_
              simp only [pickO, List.filterMap_cons, List.filterMap_nil, List.getElem?_toArray, List.getElem?_cons_zero, List.getElem?_cons_succ] at hm
              subst hm
              go_wp2_with fail
              refine ⟨rfl, by rfl, ?_⟩
              refine plan_ev fun m hm => ?_
              simp only [pickO, List.filterMap_cons, List.filterMap_nil, List.getElem?_toArray, List.getElem?_cons_zero, List.getElem?_cons_succ] at hm
              subst hm
              go_wp2_with fail
              refine ⟨rfl, ⟨(Blk.set_ HF8.out 5 (.slice A8 (j + 1) c8)).cell 2, (Blk.set_ HF8.out 5 (.slice A8 (j + 1) c8)).cell 3, (HTC8.out.far (p := ⟨(w.heap.size + 1), 5, none⟩) (fun e => HTC8.out.ne HF8.out (by decide) e) (.slice A8 (j + 1) c8)).cell 0, (HTC8.out.far (p := ⟨(w.heap.size + 1), 5, none⟩) (fun e => HTC8.out.ne HF8.out (by decide) e) (.slice A8 (j + 1) c8)).cell 1⟩, ?_⟩
              try simp only [Act.put, List.setIfInBounds_toArray, List.set_cons_zero, List.set_cons_succ]
              refine plan_fin ?_
              go_wp2
              refine ⟨⟨j + 1, .slice A8 (j + 1) c8, by omega, by go_num, Lib.hid ⟨Blk.set_ HF8.out 5 (.slice A8 (j + 1) c8), HP8.out.keep fun g' cs hB => hB.far (fun e => hB.ne HF8.out (by decide) e) _, HO8.out.keep fun g' cs hB => hB.far (fun e => hB.ne HF8.out (by decide) e) _, by omega⟩, Lib.hid (H68.out.far (by simp) _), Lib.hid (HB8.out.setCell (by simp) _)⟩, by simp [intOf]; omega⟩
          · obtain rfl : k = j := by omega
            have HGU : Hid (gr = gridU a b p k) := Lib.hid (by rw [HGR.out, HAC.out, HDN.out, HHU.out, HVU.out]; rfl)
            have hgb : ∀ i, i < k → 0 ≤ gr i 0 ∧ gr i 0 ≤ 65536 ∧ 0 ≤ gr i 1 ∧ gr i 1 ≤ 65536 := fun i hi => by
              have := HF.out i hi
              have m0 := mul_rng (x := ac) (y := p i 0) (A := 16384) (B := 4) hacr.1 hacr.2 (by omega) (by omega)
              have m1 := mul_rng (x := dn) (y := p i 1) (A := 16384) (B := 4) hdnr.1 hdnr.2 (by omega) (by omega)
              rw [HGR.out]; simp only [gridF]; exact ⟨m0.1, m0.2, m1.1, m1.2⟩
            have hbl := rblocks_walk (8 * hh) (8 * vv) ac dn (.slice (some ⟨g1, 0, none⟩) k c1) A3 k c3 gr wr hn HR3.out hgb
            unfold rfC at hbl
            obtain ⟨tt, htt⟩ : ∃ tt, tt = sumU gr k := ⟨_, rfl⟩
            rw [← htt] at hbl
            have HBL := Lib.hid hbl; have HTT := Lib.hid htt
            clear hbl htt hgb
            have r0 : wr.cell? ⟨(w.heap.size + 1), 0, none⟩ = some (.int .i64 (8 * hh)) := HI.out.fr.cell 0
            have r1 : wr.cell? ⟨(w.heap.size + 1), 1, none⟩ = some (.int .i64 (8 * vv)) := HI.out.fr.cell 1
            have r2 : wr.cell? ⟨(w.heap.size + 1), 2, none⟩ = some (.int .i64 ac) := HI.out.fr.cell 2
            have r3 : wr.cell? ⟨(w.heap.size + 1), 3, none⟩ = some (.int .i64 dn) := HI.out.fr.cell 3
            have r4 : wr.cell? ⟨(w.heap.size + 1), 4, none⟩ = some (.slice (some ⟨g1, 0, none⟩) k c1) := HI.out.fr.cell 4
            have r5 : wr.cell? ⟨(w.heap.size + 1), 5, none⟩ = some (.slice A3 k c3) := HI.out.fr.cell 5
            by_cases htt2 : 16384 < tt
            · have gt : decide ((16384 : Int) < tt) = true := by simpa using htt2
              go_wp2_with (first | (go_at_call 15; refine HBL.out.mono ?_; rintro e w8 ⟨rfl, hb8⟩; have HI8 := Lib.hid (HI.out.bel hb8); have H68 := Lib.hid (H6.out.bel hb8); have HB8 := Lib.hid (hb.out.trans (hb8.mono hb.out.size)); have v0 : w8.cell? ⟨(w.heap.size + 1), 0, none⟩ = some (.int .i64 (8 * hh)) := HI8.out.fr.cell 0; have v1 : w8.cell? ⟨(w.heap.size + 1), 1, none⟩ = some (.int .i64 (8 * vv)) := HI8.out.fr.cell 1; have v2 : w8.cell? ⟨(w.heap.size + 1), 2, none⟩ = some (.int .i64 ac) := HI8.out.fr.cell 2; have v3 : w8.cell? ⟨(w.heap.size + 1), 3, none⟩ = some (.int .i64 dn) := HI8.out.fr.cell 3; have v4 : w8.cell? ⟨(w.heap.size + 1), 4, none⟩ = some (.slice (some ⟨g1, 0, none⟩) k c1) := HI8.out.fr.cell 4; have v5 : w8.cell? ⟨(w.heap.size + 1), 5, none⟩ = some (.slice A3 k c3) := HI8.out.fr.cell 5; clear hb8) | (refine wpList_store_far rfl 39 (.tmp 6) (.tmp 187) rfl w.heap.size #[.int .i64 0, .int .i64 0, .int .i64 0, .int .i64 0, .slice none 0 0, .slice none 0 0] _ 39 rfl rfl H68.out (by kernel_rfl) rfl (by simp [Value.oneCell']) ?_; intro w9 hB9 hf9 hb9 _ _; have HB9 := Lib.hid (hb9 w.heap.size w (Nat.le_refl _) HB8.out); have e0 : w9.cell? ⟨w.heap.size, 0, none⟩ = some (.int .i64 0) := hB9.cell 0; have e1 : w9.cell? ⟨w.heap.size, 1, none⟩ = some (.int .i64 0) := hB9.cell 1; have e2 : w9.cell? ⟨w.heap.size, 2, none⟩ = some (.int .i64 0) := hB9.cell 2; have e3 : w9.cell? ⟨w.heap.size, 3, none⟩ = some (.int .i64 0) := hB9.cell 3; have e4 : w9.cell? ⟨w.heap.size, 4, none⟩ = some (.slice none 0 0) := hB9.cell 4; have e5 : w9.cell? ⟨w.heap.size, 5, none⟩ = some (.slice none 0 0) := hB9.cell 5; clear hB9 hf9 hb9))
              exact bodyPost_ret (v := .tuple #[.agg #[.int .i64 0, .int .i64 0, .int .i64 0, .int .i64 0, .slice none 0 0, .slice none 0 0], .int .i64 11]) (by simp [results, Try.results13, go_sem, e0, e1, e2, e3, e4, e5]) rfl (RefPost.fail (q := 11) (by rw [HFV.out, if_neg HSU.out, if_pos (by rw [← HGU.out, ← HTT.out]; exact htt2)]) (by decide) rfl HB9.out)
            · have gt : decide ((16384 : Int) < tt) = false := by simpa using htt2
              go_wp2_with (first | (go_at_call 15; refine HBL.out.mono ?_; rintro e w8 ⟨rfl, hb8⟩; have HI8 := Lib.hid (HI.out.bel hb8); have H68 := Lib.hid (H6.out.bel hb8); have HB8 := Lib.hid (hb.out.trans (hb8.mono hb.out.size)); have v0 : w8.cell? ⟨(w.heap.size + 1), 0, none⟩ = some (.int .i64 (8 * hh)) := HI8.out.fr.cell 0; have v1 : w8.cell? ⟨(w.heap.size + 1), 1, none⟩ = some (.int .i64 (8 * vv)) := HI8.out.fr.cell 1; have v2 : w8.cell? ⟨(w.heap.size + 1), 2, none⟩ = some (.int .i64 ac) := HI8.out.fr.cell 2; have v3 : w8.cell? ⟨(w.heap.size + 1), 3, none⟩ = some (.int .i64 dn) := HI8.out.fr.cell 3; have v4 : w8.cell? ⟨(w.heap.size + 1), 4, none⟩ = some (.slice (some ⟨g1, 0, none⟩) k c1) := HI8.out.fr.cell 4; have v5 : w8.cell? ⟨(w.heap.size + 1), 5, none⟩ = some (.slice A3 k c3) := HI8.out.fr.cell 5; clear hb8) | (refine wpList_store_far rfl 39 (.tmp 6) (.tmp 188) rfl w.heap.size #[.int .i64 (8 * hh), .int .i64 (8 * vv), .int .i64 ac, .int .i64 dn, .slice (some ⟨g1, 0, none⟩) k c1, .slice A3 k c3] _ 39 rfl rfl H68.out (by kernel_rfl) rfl (by simp [Value.oneCell']) ?_; intro w9 hB9 hf9 hb9 _ _; have HB9 := Lib.hid (hb9 w.heap.size w (Nat.le_refl _) HB8.out); have HI9 : Hid (RfI w.heap.size w9 (w.heap.size + 1) (.slice (some ⟨g1, 0, none⟩) k c1) (.slice A3 k c3) k k p gr (8 * hh) (8 * vv) ac dn) := Lib.hid ⟨hf9 _ _ _ (by simp) HI8.out.fr, HI8.out.po.keep fun g' cs hB => hf9 _ _ _ (fun e => hB.ne H68.out (by decide) e) hB, HI8.out.go.keep fun g' cs hB => hf9 _ _ _ (fun e => hB.ne H68.out (by decide) e) hB, HI8.out.le⟩; have e0 : w9.cell? ⟨w.heap.size, 0, none⟩ = some (.int .i64 (8 * hh)) := hB9.cell 0; have e1 : w9.cell? ⟨w.heap.size, 1, none⟩ = some (.int .i64 (8 * vv)) := hB9.cell 1; have e2 : w9.cell? ⟨w.heap.size, 2, none⟩ = some (.int .i64 ac) := hB9.cell 2; have e3 : w9.cell? ⟨w.heap.size, 3, none⟩ = some (.int .i64 dn) := hB9.cell 3; have e4 : w9.cell? ⟨w.heap.size, 4, none⟩ = some (.slice (some ⟨g1, 0, none⟩) k c1) := hB9.cell 4; have e5 : w9.cell? ⟨w.heap.size, 5, none⟩ = some (.slice A3 k c3) := hB9.cell 5; clear hB9 hf9 hb9))
              exact bodyPost_ret (v := .tuple #[.agg #[.int .i64 (8 * hh), .int .i64 (8 * vv), .int .i64 ac, .int .i64 dn, .slice (some ⟨g1, 0, none⟩) k c1, .slice A3 k c3], .int .i64 0]) (by simp [results, Try.results13, go_sem, e0, e1, e2, e3, e4, e5]) rfl (RefPost.ok (.slice (some ⟨g1, 0, none⟩) k c1) (.slice A3 k c3) (by rw [HFV.out, if_neg HSU.out, if_neg (by rw [← HGU.out, ← HTT.out]; omega)]) HP.out (by rw [← HP.out]; exact HGU.out) (by rw [← HP.out, ← HHU.out]) (by rw [← HP.out, ← HVU.out]) (by rw [← HP.out, HAC.out, HHU.out]; rfl) (by rw [← HP.out, HDN.out, HVU.out]; rfl) rfl HI9.out.po HI9.out.go HB9.out)

end Go.Proofs.Ytjfnlgmllhjonaa
