/- FrameCovers walked (gen_cv.py). No condition. -/
import Derived.Test.YtjfnlgmllhjonaaCvB
import Derived.Sort.CutIn
namespace Go.Proofs.Ytjfnlgmllhjonaa
open Go.RowKit
set_option linter.unusedSimpArgs false
set_option linter.unusedVariables false
set_option maxRecDepth 100000
attribute [local go_sem] Oper.semAt_some
theorem NwI.mono {B B' G n m : Nat} {w : World} {pv gs : Value} {p gr : Nat → Nat → Int} {ac dn uw uh tot iu : Int} (h : NwI B w G pv gs n m p gr ac dn uw uh tot iu) (hb : B' ≤ B) : NwI B' w G pv gs n m p gr ac dn uw uh tot iu := ⟨h.fr, h.po.mono hb, h.go.mono hb, Nat.le_trans hb h.le⟩
theorem fin_cell6 {w w2 : World} {fn : Func} {a : Act} {p : Tmp} {v : Value} (hR : Blk w2 w.heap.size 4 #[v]) (hB : Below w.heap.size w w2) (h : fn.results = #[.cell p 4]) (hp : a.tmps.getD p undef = .pointer (some ⟨w.heap.size, 0, none⟩)) (hd : a.defers = []) :
    bodyPost Try.prog fn (fun e w' => e = .returned (.bool true) ∧ Below w.heap.size w w') .ret a (w2.setCell ⟨w.heap.size, 0, none⟩ (.bool true)) := by
  have h9 : Blk (w2.setCell ⟨w.heap.size, 0, none⟩ (.bool true)) w.heap.size 4 #[.bool true] := hR.set_ 0 (.bool true)
  exact bodyPost_ret (results_cellB h _ _ w.heap.size _ hp (h9.cell 0) (aggB _)) hd ⟨rfl, hB.setCell (Nat.le_refl _) _⟩
set_option maxHeartbeats 1000000 in
theorem covers_long (a b : Int) (A : Option Addr) (n c : Nat) (hn : 100 < n) (w : World) : Calls Try.prog 5 #[.int .i64 a, .int .i64 b, .slice A n c] w fun e w' => e = .returned (.bool true) ∧ Below w.heap.size w w' := by
  have HW0 := Lib.hid (show Below w.heap.size w (w.alloc (.cells #[.bool false] 4)) from (Below.refl _ _).alloc (Nat.le_refl _) _)
  have HR0 : Hid (Blk (w.alloc (.cells #[.bool false] 4)) w.heap.size 4 #[.bool false]) := Lib.hid (Blk.new _ _ _)
  have hg2 : decide ((100 : Int) < (n : Int)) = true := by simp; omega
  go_enter Try.func5, Try.ntmps5
  go_wp2_with (first | (go_at_call 7; refine (awake_walk _).mono ?_; rintro e w1 ⟨rfl, hb1⟩; have HB1 := Lib.hid (HW0.out.trans (hb1.mono (by simp))); have HR1 := Lib.hid (HR0.out.bel hb1); clear hb1) | (go_at_call 7; refine (awake_walk w1).mono ?_; rintro e w2 ⟨rfl, hb2⟩; have HB2 := Lib.hid (HB1.out.trans (hb2.mono HB1.out.size)); have HR2 := Lib.hid (HR1.out.bel hb2); have c6 : w2.cell? ⟨w.heap.size, 0, none⟩ = some (.bool false) := (HR1.out.bel hb2).cell 0; have z6 : w2.frozen? ⟨w.heap.size, 0, none⟩ = false := (HR1.out.bel hb2).frozen 0; clear hb2))
  exact fin_cell6 HR2.out HB2.out rfl rfl rfl
set_option maxHeartbeats 1000000 in
theorem covers_no (a b : Int) (A : Option Addr) (n c : Nat) (f : Nat → Nat → Int) (hn : n ≤ 100) (w : World) (hR : RdS w A n 2 f) (h0 : faultV a b n f ≠ 0) : Calls Try.prog 5 #[.int .i64 a, .int .i64 b, .slice A n c] w fun e w' => e = .returned (.bool true) ∧ Below w.heap.size w w' := by
  have HW0 := Lib.hid (show Below w.heap.size w (w.alloc (.cells #[.bool false] 4)) from (Below.refl _ _).alloc (Nat.le_refl _) _)
  have HR0 : Hid (Blk (w.alloc (.cells #[.bool false] 4)) w.heap.size 4 #[.bool false]) := Lib.hid (Blk.new _ _ _)
  have hg2 : decide ((100 : Int) < (n : Int)) = false := by simp; omega
  obtain ⟨q, hq⟩ : ∃ q, q = faultV a b n f := ⟨_, rfl⟩
  have q0 : (q != 0) = true := by rw [hq]; simpa using h0
  have HR := Lib.hid hR; have H0 := Lib.hid h0; have HQ := Lib.hid hq
  clear hR h0 hq
  go_enter Try.func5, Try.ntmps5
  go_wp2_with (first | (go_at_call 7; refine (awake_walk _).mono ?_; rintro e w1 ⟨rfl, hb1⟩; have HB1 := Lib.hid (HW0.out.trans (hb1.mono (by simp))); have HR1 := Lib.hid (HR0.out.bel hb1); clear hb1) | (go_at_call 9; refine (parts_walk A n c f w1 (by omega) (HR.out.bel HB1.out)).mono ?_; intro e w2 hp; obtain ⟨v2, rfl, hO2, hb2⟩ := hp.out; obtain ⟨A2, c2, rfl, _, hR2⟩ := hO2.form; have HO2 := Lib.hid hR2; have HB2 := Lib.hid (HB1.out.trans (hb2.mono HB1.out.size)); have HR2 := Lib.hid (HR1.out.bel hb2); clear hp hO2 hb2 hR2) | (go_at_call 8; refine (new_walk a b A2 n c2 f w2 (by omega) HO2.out).mono ?_; intro e w3 hp; obtain ⟨rfl, hb3⟩ := NewPost.no hp H0.out; rw [← HQ.out]; have hal : Below w3.heap.size w3 (w3.alloc (.cells #[.pointer none] 24)) := (Below.refl _ _).alloc (Nat.le_refl _) _; have HB4 := Lib.hid ((HB2.out.trans (hb3.mono HB2.out.size)).trans (hal.mono (HB2.out.trans (hb3.mono HB2.out.size)).size)); have HR4 := Lib.hid ((HR2.out.bel hb3).bel hal); have HK4 := Lib.hid (Blk.new w3 24 #[.pointer none]); have c6 : (w3.alloc (.cells #[.pointer none] 24)).cell? ⟨w.heap.size, 0, none⟩ = some (.bool false) := HR4.out.cell 0; have z6 : (w3.alloc (.cells #[.pointer none] 24)).frozen? ⟨w.heap.size, 0, none⟩ = false := HR4.out.frozen 0; clear hp hb3 hal))
  exact fin_cell6 HR4.out HB4.out rfl rfl rfl
set_option maxHeartbeats 1000000 in
theorem covers_big (a b : Int) (A : Option Addr) (n c : Nat) (f : Nat → Nat → Int) (hn : n ≤ 100) (w : World) (hR : RdS w A n 2 f) (h0 : faultV a b n f = 0) (h6 : 600 < sumU (gridU a b (pF n f) n) n) : Calls Try.prog 5 #[.int .i64 a, .int .i64 b, .slice A n c] w fun e w' => e = .returned (.bool true) ∧ Below w.heap.size w w' := by
  have HW0 := Lib.hid (show Below w.heap.size w (w.alloc (.cells #[.bool false] 4)) from (Below.refl _ _).alloc (Nat.le_refl _) _)
  have HR0 : Hid (Blk (w.alloc (.cells #[.bool false] 4)) w.heap.size 4 #[.bool false]) := Lib.hid (Blk.new _ _ _)
  have hg2 : decide ((100 : Int) < (n : Int)) = false := by simp; omega
  have HR := Lib.hid hR; have H0 := Lib.hid h0; have H6 := Lib.hid h6
  clear hR h0 h6
  go_enter Try.func5, Try.ntmps5
  go_upto_region 6 with (first | (go_at_call 7; refine (awake_walk _).mono ?_; rintro e w1 ⟨rfl, hb1⟩; have HB1 := Lib.hid (HW0.out.trans (hb1.mono (by simp))); have HR1 := Lib.hid (HR0.out.bel hb1); clear hb1) | (go_at_call 9; refine (parts_walk A n c f w1 (by omega) (HR.out.bel HB1.out)).mono ?_; intro e w2 hp; obtain ⟨v2, rfl, hO2, hb2⟩ := hp.out; obtain ⟨A2, c2, rfl, _, hR2⟩ := hO2.form; have HO2 := Lib.hid hR2; have HB2 := Lib.hid (HB1.out.trans (hb2.mono HB1.out.size)); have HR2 := Lib.hid (HR1.out.bel hb2); clear hp hO2 hb2 hR2) | (go_at_call 8; refine (new_walk a b A2 n c2 f w2 (by omega) HO2.out).mono ?_; intro e w3 hp; obtain ⟨G, pv, gs, p, gr, ac, dn, uw, uh, tot, iu, rfl, hI, hb3, hp', hg', hac, hdn, huw, huh, htot, hG⟩ := (NewPost.letters hp H0.out).out; have HOF := Lib.hid (owns_fact H0.out hp' hg' hac hdn huw huh); have HEQ := Lib.hid (And.intro hp' (And.intro hg' (And.intro hac (And.intro hdn (And.intro huw huh))))); have HTOT := Lib.hid htot; have hal : Below w3.heap.size w3 (w3.alloc (.cells #[.pointer (some ⟨G, 0, none⟩)] 24)) := (Below.refl _ _).alloc (Nat.le_refl _) _; have HB4 := Lib.hid ((HB2.out.trans (hb3.mono HB2.out.size)).trans (hal.mono (HB2.out.trans (hb3.mono HB2.out.size)).size)); have HR4 := Lib.hid ((HR2.out.bel hb3).bel hal); have HK4 := Lib.hid (Blk.new w3 24 #[.pointer (some ⟨G, 0, none⟩)]); have HI4 := Lib.hid (hI.bel hal); clear hp hb3 hI hp' hg' hac hdn huw huh htot hG hal))
  have c6 : (w3.alloc (.cells #[.pointer (some ⟨G, 0, none⟩)] 24)).cell? ⟨w.heap.size, 0, none⟩ = some (.bool false) := HR4.out.cell 0; have z6 : (w3.alloc (.cells #[.pointer (some ⟨G, 0, none⟩)] 24)).frozen? ⟨w.heap.size, 0, none⟩ = false := HR4.out.frozen 0
  go_wp2_with (first | (go_at_call 14; refine (blocks_walk (w3.alloc (.cells #[.pointer (some ⟨G, 0, none⟩)] 24)) G _ _ _ _ _ _ _ _ HI4.out.fr).mono ?_; rintro e w' ⟨rfl, hw'⟩; rw [hw']; clear hw'; have d6 : decide (600 < tot) = true := (by have h6 := H6.out; have e1 := HTOT.out; have e2 := HEQ.out.1; have e3 := HEQ.out.2.1; rw [e1, e3, e2]; simpa using h6)))
  exact fin_cell6 HR4.out HB4.out rfl rfl rfl
set_option maxHeartbeats 4000000 in
theorem covers_go (a b : Int) (A : Option Addr) (n c : Nat) (f : Nat → Nat → Int) (hn : n ≤ 100) (w : World) (hR : RdS w A n 2 f) (h0 : faultV a b n f = 0) (h6 : ¬ 600 < sumU (gridU a b (pF n f) n) n) : Calls Try.prog 5 #[.int .i64 a, .int .i64 b, .slice A n c] w fun e w' => e = .returned (.bool true) ∧ Below w.heap.size w w' := by
  have HW0 := Lib.hid (show Below w.heap.size w (w.alloc (.cells #[.bool false] 4)) from (Below.refl _ _).alloc (Nat.le_refl _) _)
  have HR0 : Hid (Blk (w.alloc (.cells #[.bool false] 4)) w.heap.size 4 #[.bool false]) := Lib.hid (Blk.new _ _ _)
  have hg2 : decide ((100 : Int) < (n : Int)) = false := by simp; omega
  have HR := Lib.hid hR; have H0 := Lib.hid h0; have H6 := Lib.hid h6
  clear hR h0 h6
  refine calls_marks Try.func5 rfl ?_
  simp only [Try.ntmps5, List.size_toArray, List.length_cons, List.length_nil, Nat.reduceAdd, Nat.reduceSub, Array.replicate_succ, Array.replicate_zero, List.push_toArray, List.append_toArray, List.nil_append, List.cons_append]
  go_upto_region 6 with (first | (go_at_call 7; refine (awake_walk _).mono ?_; rintro e w1 ⟨rfl, hb1⟩; have HB1 := Lib.hid (HW0.out.trans (hb1.mono (by simp))); have HR1 := Lib.hid (HR0.out.bel hb1); clear hb1) | (go_at_call 9; refine (parts_walk A n c f w1 (by omega) (HR.out.bel HB1.out)).mono ?_; intro e w2 hp; obtain ⟨v2, rfl, hO2, hb2⟩ := hp.out; obtain ⟨A2, c2, rfl, _, hR2⟩ := hO2.form; have HO2 := Lib.hid hR2; have HB2 := Lib.hid (HB1.out.trans (hb2.mono HB1.out.size)); have HR2 := Lib.hid (HR1.out.bel hb2); clear hp hO2 hb2 hR2) | (go_at_call 8; refine (new_walk a b A2 n c2 f w2 (by omega) HO2.out).mono ?_; intro e w3 hp; obtain ⟨G, pv, gs, p, gr, ac, dn, uw, uh, tot, iu, rfl, hI, hb3, hp', hg', hac, hdn, huw, huh, htot, hG⟩ := (NewPost.letters hp H0.out).out; have HOF := Lib.hid (owns_fact H0.out hp' hg' hac hdn huw huh); have HEQ := Lib.hid (And.intro hp' (And.intro hg' (And.intro hac (And.intro hdn (And.intro huw huh))))); have HTOT := Lib.hid htot; have hal : Below w3.heap.size w3 (w3.alloc (.cells #[.pointer (some ⟨G, 0, none⟩)] 24)) := (Below.refl _ _).alloc (Nat.le_refl _) _; have HB4 := Lib.hid ((HB2.out.trans (hb3.mono HB2.out.size)).trans (hal.mono (HB2.out.trans (hb3.mono HB2.out.size)).size)); have HR4 := Lib.hid ((HR2.out.bel hb3).bel hal); have HK4 := Lib.hid (Blk.new w3 24 #[.pointer (some ⟨G, 0, none⟩)]); have HI4 := Lib.hid (hI.bel hal); clear hp hb3 hI hp' hg' hac hdn huw huh htot hG hal))
  have hs6 : sumU gr n ≤ 600 := by have h6 := H6.out; have e2 := HEQ.out.1; have e3 := HEQ.out.2.1; rw [e3, e2]; omega
  obtain ⟨nN, oc, ow, acN, dnN, hsp, hcv⟩ := cvp_new H0.out HEQ.out.1 HEQ.out.2.1 HEQ.out.2.2.1 HEQ.out.2.2.2.1 HOF.out hs6
  have HSP := Lib.hid hsp; have HNM := Lib.hid (scp_nm hsp); have HCV := Lib.hid hcv
  have HGL := Lib.hid (fun i (hi : i < n) => grid_le HOF.out hs6 i hi); have HS6 := Lib.hid hs6
  obtain ⟨A3, c3, rfl, _, _⟩ := HI4.out.po.form
  obtain ⟨A4, c4, rfl, _, _⟩ := HI4.out.go.form
  have q7 : (w3.alloc (.cells #[.pointer (some ⟨G, 0, none⟩)] 24)).cell? ⟨w3.heap.size, 0, none⟩ = some (.pointer (some ⟨G, 0, none⟩)) := HK4.out.cell 0
  clear hsp hcv hs6
  go_upto_region 10 with (first | (go_at_call 14; refine (blocks_walk (w3.alloc (.cells #[.pointer (some ⟨G, 0, none⟩)] 24)) G _ _ _ _ _ _ _ _ HI4.out.fr).mono ?_; rintro e w' ⟨rfl, hw'⟩; rw [hw']; clear hw'; have d6 : decide (600 < tot) = false := (by have h6 := H6.out; have e1 := HTOT.out; have e2 := HEQ.out.1; have e3 := HEQ.out.2.1; rw [e1, e3, e2]; simpa using h6)))
  have HA10 : Hid (Below (w3.alloc (.cells #[.pointer (some ⟨G, 0, none⟩)] 24)).heap.size (w3.alloc (.cells #[.pointer (some ⟨G, 0, none⟩)] 24)) ((w3.alloc (.cells #[.pointer (some ⟨G, 0, none⟩)] 24)).alloc (.cells #[.slice none 0 0] 46)) ∧ Blk ((w3.alloc (.cells #[.pointer (some ⟨G, 0, none⟩)] 24)).alloc (.cells #[.slice none 0 0] 46)) (w3.alloc (.cells #[.pointer (some ⟨G, 0, none⟩)] 24)).heap.size 46 #[.slice none 0 0]) := Lib.hid ⟨(Below.refl _ _).alloc (Nat.le_refl _) _, Blk.new _ _ _⟩
  obtain ⟨b7, hb7⟩ : ∃ z, z = w3.heap.size := ⟨_, rfl⟩
  obtain ⟨b10, hb10⟩ : ∃ z, z = w3.heap.size + 1 := ⟨_, rfl⟩
  have HJ0 : Hid (CvJ w b7 b10 G A3 A4 n c3 c4 p gr ac dn uw uh tot iu (fun j => (gr j 0 * gr j 1).toNat) 0 (.slice none 0 0) ((w3.alloc (.cells #[.pointer (some ⟨G, 0, none⟩)] 24)).alloc (.cells #[.slice none 0 0] 46))) := Lib.hid (by
    have h1 := HA10.out.1; have h2 := HR2.out.lt; have h3 := HB4.out; have h4 := HR4.out.lt
    have h5 := HR4.out.ne HK4.out (by decide)
    simp at h4
    rw [hb7]
    exact ⟨h3.trans (h1.mono h3.size), HR4.out.bel h1, HK4.out.bel h1, (HI4.out.bel h1).mono (by omega), OwnS.nil _ _ _ _ _, by omega, _, [], by rw [hb10]; exact (by simpa using HA10.out.2), MtI.nil _ _ _ _, rfl⟩)
  obtain ⟨w10, hw10⟩ : ∃ z, z = (w3.alloc (.cells #[.pointer (some ⟨G, 0, none⟩)] 24)).alloc (.cells #[.slice none 0 0] 46) := ⟨_, rfl⟩
  rw [← hb10, ← hb7, ← hw10]
  rw [← hw10] at HJ0
  clear hw10 hb10 hb7 HA10 HI4 HK4 HR4 HB4 q7
  go_wp2_with fail
  go_loopw [9, 11] (fun t9 t11 wr => ∃ i : Nat, i ≤ n ∧ t11 = .int .i64 i ∧ Hid (CvJ w b7 b10 G A3 A4 n c3 c4 p gr ac dn uw uh tot iu (fun j => (gr j 0 * gr j 1).toNat) i t9 wr)) (fun _ t _ => n - (intOf t).toNat)
  case atStart => exact ⟨0, by omega, rfl, HJ0⟩
  case round =>
    obtain ⟨i, hi, rfl, HJ⟩ := hrel
    have q7 : wr.cell? ⟨b7, 0, none⟩ = some (.pointer (some ⟨G, 0, none⟩)) := HJ.out.k7.cell 0
    clear HJ0
    by_cases hit : i < n
    case pos =>
      have hgl := HGL.out i hit
      obtain ⟨g0, hg0⟩ : ∃ z, z = gr i 0 := ⟨_, rfl⟩
      obtain ⟨g1, hg1⟩ : ∃ z, z = gr i 1 := ⟨_, rfl⟩
      have HG01 := Lib.hid (And.intro hg0 hg1)
      rw [← hg0, ← hg1] at hgl
      have hmr := mul_rng9 (x := g0) (y := g1) (A := 600) (B := 600) (by omega) (by omega) (by omega) (by omega)
      obtain ⟨kk, hkk⟩ : ∃ z : Nat, (z : Int) = g0 * g1 := ⟨(g0 * g1).toNat, by omega⟩
      have HKK := Lib.hid (show kk = (gr i 0 * gr i 1).toNat by rw [← hg0, ← hg1]; omega)
      have HKZ := Lib.hid hkk
      have hkb : kk ≤ 360000 := by omega
      clear hg0 hg1 hkk
      obtain ⟨A9, c9, rfl, _, _⟩ := HJ.out.al.form
      go_upto_region 14 with (go_at_call 12; (have hgr := grid_ok wr G _ A4 n c4 gr ac dn uw uh tot iu HJ.out.nw.fr HJ.out.nw.go.rd i hit); rw [← HG01.out.1, ← HG01.out.2] at hgr; refine hgr.mono ?_; clear hgr; rintro e w5 ⟨rfl, hb5⟩; have hal5 : Below w5.heap.size w5 (w5.alloc (.cells #[.int .i64 g0, .int .i64 g1, .int .i64 (gr i 2), .int .i64 (gr i 3)] 33)) := (Below.refl _ _).alloc (Nat.le_refl _) _; have HJ5 := Lib.hid ((HJ.out.bel hb5).bel hal5); have HM5 := Lib.hid (Blk.new w5 33 #[.int .i64 g0, .int .i64 g1, .int .i64 (gr i 2), .int .i64 (gr i 3)]); clear hb5 hal5)
      have HM5 := Lib.hid (And.intro HM5.out (Nat.lt_succ_self w5.heap.size))
      obtain ⟨b12, hb12⟩ : ∃ z, z = w5.heap.size := ⟨_, rfl⟩
      obtain ⟨wv, hwv⟩ : ∃ z, z = w5.alloc (.cells #[.int .i64 g0, .int .i64 g1, .int .i64 (gr i 2), .int .i64 (gr i 3)] 33) := ⟨_, rfl⟩
      rw [← hb12, ← hwv]
      rw [← hwv] at HJ5
      rw [← hb12, ← hwv] at HM5
      clear hb12 hwv q7
      go_upto_region 15 with (at_builtin; (refine appS (q := 1) (by_ := 8) (cs := #[.int .i64 i]) (fun _ => (i : Int)) Try.underlying45 (by kernel_rfl) (by decide) (by decide) rfl (.tmp 57) (.tmp 59) rfl rfl rfl rfl HJ5.out.al (by omega) HJ5.out.lt10 ?_); intro v6 w6 hO6 hk6 _ hb6; obtain ⟨v, gs, hK⟩ := CvK.of HJ5.out hb6 hk6 (hO6.congr (fun q hq _ _ => by by_cases e : q = i <;> simp [e])); have HK6 := Lib.hid hK; have HM6 := Lib.hid (hk6 _ _ _ (by decide) HM5.out.1); obtain ⟨A6, c6, rfl, _, _⟩ := hO6.form; clear hO6 hk6 hb6 hK)
      refine region_plan (.run [1, 2, 3, 4, 5, 6] (.alt 0 7 (.ev 7 (.ev 8 (.ev 9 (.ev 10 .fin)))) (.alt 0 8 (.ev 8 (.ev 9 (.ev 10 .fin))) (.run [0] (.ev 9 (.ev 10 .fin)))))) (fun w' => True) (by kernel_rfl) trivial ?_
      intro wd hwd
      have HK7 := Lib.hid (HK6.out.drewE hwd); have HM7 := Lib.hid (HM6.out.drewE hwd)
      have q10 : wd.cell? ⟨b10, 0, none⟩ = some v := HK7.out.k10.cell 0
      have e0 : wd.cell? ⟨b12, 0, none⟩ = some (.int .i64 g0) := HM7.out.cell 0
      have e1 : wd.cell? ⟨b12, 1, none⟩ = some (.int .i64 g1) := HM7.out.cell 1
      clear hwd
      refine plan_run fun m hm => ?_
      simp only [pickO, List.filterMap_cons, List.filterMap_nil, List.getElem?_toArray, List.getElem?_cons_zero, List.getElem?_cons_succ] at hm
      subst hm
      go_wp2_with fail
      refine ⟨rfl, by rfl, ?_⟩
      refine plan_alt (fun m hm => ?_) (fun m hm => ?_)
      · simp only [pickO, List.filterMap_cons, List.filterMap_nil, List.getElem?_toArray, List.getElem?_cons_zero, List.getElem?_cons_succ] at hm
        subst hm
        go_wp2_with fail
        refine ⟨rfl, rfl, ?_⟩
        refine plan_ev fun m hm => ?_
        simp only [pickO, List.filterMap_cons, List.filterMap_nil, List.getElem?_toArray, List.getElem?_cons_zero, List.getElem?_cons_succ] at hm
        subst hm
        have hmk := make_B kk (by omega) wd
        rw [HKZ.out] at hmk
        go_wp2_with fail
        clear hmk
        refine ⟨rfl, trivial, ?_⟩
        try simp only [Act.put, List.setIfInBounds_toArray, List.set_cons_zero, List.set_cons_succ]
        obtain ⟨b8, hb8⟩ : ∃ z, z = wd.heap.size := ⟨_, rfl⟩
        obtain ⟨wm, hwm⟩ : ∃ z, z = (wd.alloc (.cells (bitC kk fun _ => false) 4)) := ⟨_, rfl⟩
        rw [← hwm]
        rw [← hb8]
        have HA7 : Hid (Below wd.heap.size wd wm ∧ Blk wm b8 4 (bitC kk fun _ => false) ∧ wd.heap.size ≤ b8) := Lib.hid (by rw [hwm, hb8]; exact ⟨(Below.refl _ _).alloc (Nat.le_refl _) _, Blk.new _ _ _, Nat.le_refl _⟩)
        have hA8 : Below wm.heap.size wm (wm.alloc (.cells #[.slice (some ⟨b8, 0, none⟩) kk kk] 47)) := (Below.refl _ _).alloc (Nat.le_refl _) _
        have HO7 := Lib.hid (HK7.out.mt.ow.bel HA7.out.1)
        have HL7 : Hid (b10 ≤ wm.heap.size) := Lib.hid (by have := HK7.out.k10.lt; have := HA7.out.1.size; omega)
        have q10a : wm.cell? ⟨b10, 0, none⟩ = some v := (HK7.out.k10.bel HA7.out.1).cell 0
        have q10b : (wm.alloc (.cells #[.slice (some ⟨b8, 0, none⟩) kk kk] 47)).cell? ⟨b10, 0, none⟩ = some v := ((HK7.out.k10.bel HA7.out.1).bel hA8).cell 0
        clear hb8 hwm hA8
        refine plan_ev fun m hm => ?_
        simp only [pickO, List.filterMap_cons, List.filterMap_nil, List.getElem?_toArray, List.getElem?_cons_zero, List.getElem?_cons_succ] at hm
        subst hm
        go_wp2_with fail
        refine ⟨rfl, trivial, ?_⟩
        try simp only [Act.put, List.setIfInBounds_toArray, List.set_cons_zero, List.set_cons_succ]
        refine plan_ev fun m hm => ?_
        simp only [pickO, List.filterMap_cons, List.filterMap_nil, List.getElem?_toArray, List.getElem?_cons_zero, List.getElem?_cons_succ] at hm
        subst hm
        refine appC (q := 1) (by_ := 24) (cs := #[.slice (some ⟨b8, 0, none⟩) kk kk]) ((b8, kk) : Nat × Nat) mtC_ok Try.underlying46 (by kernel_rfl) (by decide) (by decide) rfl (.tmp 61) (.tmp 69) rfl rfl rfl rfl HO7.out (by have := HK7.out.ln; omega) HL7.out ?_
        intro v9 w9 hO9 hK9 hb9
        obtain ⟨AX, nX, cX, rfl⟩ := hO9.form2
        have HJ9 : Hid (CvJ w b7 b10 G A3 A4 n c3 c4 p gr ac dn uw uh tot iu (fun j => (gr j 0 * gr j 1).toNat) (i + 1) (.slice A6 (i + 1) c6) (w9.setCell ⟨b10, 0, none⟩ (.slice AX nX cX))) := Lib.hid (HK7.out.next HA7.out.1 (HKK.out ▸ HA7.out.2.1) HA7.out.2.2 hb9 hK9 (by rw [← HKK.out]; exact hO9))
        have c10 : w9.cell? ⟨b10, 0, none⟩ = some v := (hK9 _ _ _ (by decide) (HK7.out.k10.bel HA7.out.1)).cell 0
        have z10 : w9.frozen? ⟨b10, 0, none⟩ = false := (hK9 _ _ _ (by decide) (HK7.out.k10.bel HA7.out.1)).frozen 0
        clear hO9 hK9 hb9 q10 q10a q10b e0 e1
        refine And.intro rfl (And.intro trivial ?_)
        try simp only [Act.put, List.setIfInBounds_toArray, List.set_cons_zero, List.set_cons_succ]
        refine plan_ev fun m hm => ?_
        simp only [pickO, List.filterMap_cons, List.filterMap_nil, List.getElem?_toArray, List.getElem?_cons_zero, List.getElem?_cons_succ] at hm
        subst hm
        go_wp2_with fail
        refine ⟨rfl, trivial, ?_⟩
        try simp only [Act.put, List.setIfInBounds_toArray, List.set_cons_zero, List.set_cons_succ]
        refine plan_fin ?_
        go_wp2_with fail
        go_roundw
        case rel => exact ⟨i + 1, by omega, by go_num, HJ9⟩
        case measure => simp [intOf]; omega
      · simp only [pickO, List.filterMap_cons, List.filterMap_nil, List.getElem?_toArray, List.getElem?_cons_zero, List.getElem?_cons_succ] at hm
        subst hm
        have hmk := make_B kk (by omega) wd
        rw [HKZ.out] at hmk
        go_wp2_with fail
        clear hmk
        refine ⟨rfl, trivial, ?_⟩
        try simp only [Act.put, List.setIfInBounds_toArray, List.set_cons_zero, List.set_cons_succ]
        obtain ⟨b8, hb8⟩ : ∃ z, z = wd.heap.size := ⟨_, rfl⟩
        obtain ⟨wm, hwm⟩ : ∃ z, z = (wd.alloc (.cells (bitC kk fun _ => false) 4)) := ⟨_, rfl⟩
        rw [← hwm]
        rw [← hb8]
        have HA7 : Hid (Below wd.heap.size wd wm ∧ Blk wm b8 4 (bitC kk fun _ => false) ∧ wd.heap.size ≤ b8) := Lib.hid (by rw [hwm, hb8]; exact ⟨(Below.refl _ _).alloc (Nat.le_refl _) _, Blk.new _ _ _, Nat.le_refl _⟩)
        have hA8 : Below wm.heap.size wm (wm.alloc (.cells #[.slice (some ⟨b8, 0, none⟩) kk kk] 47)) := (Below.refl _ _).alloc (Nat.le_refl _) _
        have HO7 := Lib.hid (HK7.out.mt.ow.bel HA7.out.1)
        have HL7 : Hid (b10 ≤ wm.heap.size) := Lib.hid (by have := HK7.out.k10.lt; have := HA7.out.1.size; omega)
        have q10a : wm.cell? ⟨b10, 0, none⟩ = some v := (HK7.out.k10.bel HA7.out.1).cell 0
        have q10b : (wm.alloc (.cells #[.slice (some ⟨b8, 0, none⟩) kk kk] 47)).cell? ⟨b10, 0, none⟩ = some v := ((HK7.out.k10.bel HA7.out.1).bel hA8).cell 0
        clear hb8 hwm hA8
        refine plan_alt (fun m hm => ?_) (fun m hm => ?_)
        · simp only [pickO, List.filterMap_cons, List.filterMap_nil, List.getElem?_toArray, List.getElem?_cons_zero, List.getElem?_cons_succ] at hm
          subst hm
          go_wp2_with fail
          refine ⟨rfl, rfl, ?_⟩
          refine plan_ev fun m hm => ?_
          simp only [pickO, List.filterMap_cons, List.filterMap_nil, List.getElem?_toArray, List.getElem?_cons_zero, List.getElem?_cons_succ] at hm
          subst hm
          go_wp2_with fail
          refine ⟨rfl, trivial, ?_⟩
          try simp only [Act.put, List.setIfInBounds_toArray, List.set_cons_zero, List.set_cons_succ]
          refine plan_ev fun m hm => ?_
          simp only [pickO, List.filterMap_cons, List.filterMap_nil, List.getElem?_toArray, List.getElem?_cons_zero, List.getElem?_cons_succ] at hm
          subst hm
          refine appC (q := 1) (by_ := 24) (cs := #[.slice (some ⟨b8, 0, none⟩) kk kk]) ((b8, kk) : Nat × Nat) mtC_ok Try.underlying46 (by kernel_rfl) (by decide) (by decide) rfl (.tmp 61) (.tmp 69) rfl rfl rfl rfl HO7.out (by have := HK7.out.ln; omega) HL7.out ?_
          intro v9 w9 hO9 hK9 hb9
          obtain ⟨AX, nX, cX, rfl⟩ := hO9.form2
          have HJ9 : Hid (CvJ w b7 b10 G A3 A4 n c3 c4 p gr ac dn uw uh tot iu (fun j => (gr j 0 * gr j 1).toNat) (i + 1) (.slice A6 (i + 1) c6) (w9.setCell ⟨b10, 0, none⟩ (.slice AX nX cX))) := Lib.hid (HK7.out.next HA7.out.1 (HKK.out ▸ HA7.out.2.1) HA7.out.2.2 hb9 hK9 (by rw [← HKK.out]; exact hO9))
          have c10 : w9.cell? ⟨b10, 0, none⟩ = some v := (hK9 _ _ _ (by decide) (HK7.out.k10.bel HA7.out.1)).cell 0
          have z10 : w9.frozen? ⟨b10, 0, none⟩ = false := (hK9 _ _ _ (by decide) (HK7.out.k10.bel HA7.out.1)).frozen 0
          clear hO9 hK9 hb9 q10 q10a q10b e0 e1
          refine And.intro rfl (And.intro trivial ?_)
          try simp only [Act.put, List.setIfInBounds_toArray, List.set_cons_zero, List.set_cons_succ]
          refine plan_ev fun m hm => ?_
          simp only [pickO, List.filterMap_cons, List.filterMap_nil, List.getElem?_toArray, List.getElem?_cons_zero, List.getElem?_cons_succ] at hm
          subst hm
          go_wp2_with fail
          refine ⟨rfl, trivial, ?_⟩
          try simp only [Act.put, List.setIfInBounds_toArray, List.set_cons_zero, List.set_cons_succ]
          refine plan_fin ?_
          go_wp2_with fail
          go_roundw
          case rel => exact ⟨i + 1, by omega, by go_num, HJ9⟩
          case measure => simp [intOf]; omega
        · simp only [pickO, List.filterMap_cons, List.filterMap_nil, List.getElem?_toArray, List.getElem?_cons_zero, List.getElem?_cons_succ] at hm
          subst hm
          go_wp2_with fail
          refine ⟨rfl, trivial, ?_⟩
          try simp only [Act.put, List.setIfInBounds_toArray, List.set_cons_zero, List.set_cons_succ]
          refine plan_run fun m hm => ?_
          simp only [pickO, List.filterMap_cons, List.filterMap_nil, List.getElem?_toArray, List.getElem?_cons_zero, List.getElem?_cons_succ] at hm
          subst hm
          go_wp2_with fail
          refine ⟨rfl, by rfl, ?_⟩
          refine plan_ev fun m hm => ?_
          simp only [pickO, List.filterMap_cons, List.filterMap_nil, List.getElem?_toArray, List.getElem?_cons_zero, List.getElem?_cons_succ] at hm
          subst hm
          refine appC (q := 1) (by_ := 24) (cs := #[.slice (some ⟨b8, 0, none⟩) kk kk]) ((b8, kk) : Nat × Nat) mtC_ok Try.underlying46 (by kernel_rfl) (by decide) (by decide) rfl (.tmp 61) (.tmp 69) rfl rfl rfl rfl HO7.out (by have := HK7.out.ln; omega) HL7.out ?_
          intro v9 w9 hO9 hK9 hb9
          obtain ⟨AX, nX, cX, rfl⟩ := hO9.form2
          have HJ9 : Hid (CvJ w b7 b10 G A3 A4 n c3 c4 p gr ac dn uw uh tot iu (fun j => (gr j 0 * gr j 1).toNat) (i + 1) (.slice A6 (i + 1) c6) (w9.setCell ⟨b10, 0, none⟩ (.slice AX nX cX))) := Lib.hid (HK7.out.next HA7.out.1 (HKK.out ▸ HA7.out.2.1) HA7.out.2.2 hb9 hK9 (by rw [← HKK.out]; exact hO9))
          have c10 : w9.cell? ⟨b10, 0, none⟩ = some v := (hK9 _ _ _ (by decide) (HK7.out.k10.bel HA7.out.1)).cell 0
          have z10 : w9.frozen? ⟨b10, 0, none⟩ = false := (hK9 _ _ _ (by decide) (HK7.out.k10.bel HA7.out.1)).frozen 0
          clear hO9 hK9 hb9 q10 q10a q10b e0 e1
          refine And.intro rfl (And.intro trivial ?_)
          try simp only [Act.put, List.setIfInBounds_toArray, List.set_cons_zero, List.set_cons_succ]
          refine plan_ev fun m hm => ?_
          simp only [pickO, List.filterMap_cons, List.filterMap_nil, List.getElem?_toArray, List.getElem?_cons_zero, List.getElem?_cons_succ] at hm
          subst hm
          go_wp2_with fail
          refine ⟨rfl, trivial, ?_⟩
          try simp only [Act.put, List.setIfInBounds_toArray, List.set_cons_zero, List.set_cons_succ]
          refine plan_fin ?_
          go_wp2_with fail
          go_roundw
          case rel => exact ⟨i + 1, by omega, by go_num, HJ9⟩
          case measure => simp [intOf]; omega
    case neg =>
      obtain rfl : n = i := by omega
      obtain ⟨v, gs, hk10, hmt, hln⟩ := HJ.out.mt
      obtain ⟨A9, c9, rfl, _, _⟩ := HJ.out.al.form
      obtain ⟨AM, cM, rfl, _⟩ := hmt.ow.form
      rw [hln] at hk10 hmt
      go_upto_region 17 with fail
      have HA16 : Hid (Below wr.heap.size wr ((wr.alloc (.cells #[.int .i64 0] 3)).alloc (.cells #[.int .i64 0] 3)) ∧ Blk ((wr.alloc (.cells #[.int .i64 0] 3)).alloc (.cells #[.int .i64 0] 3)) wr.heap.size 3 #[.int .i64 0] ∧ Blk ((wr.alloc (.cells #[.int .i64 0] 3)).alloc (.cells #[.int .i64 0] 3)) (wr.heap.size + 1) 3 #[.int .i64 0]) := Lib.hid ⟨((Below.refl _ _).alloc (Nat.le_refl _) _).alloc (by simp) _, (Blk.new _ _ _).alloc _, Blk.nw (by simp)⟩
      have HJ16 := Lib.hid (HJ.out.bel HA16.out.1); have HM16 := Lib.hid (hmt.bel HA16.out.1); have HK16 := Lib.hid (hk10.bel HA16.out.1)
      have HA16 := Lib.hid HA16.out.2
      obtain ⟨b14, hb14⟩ : ∃ z, z = wr.heap.size := ⟨_, rfl⟩
      obtain ⟨b15, hb15⟩ : ∃ z, z = wr.heap.size + 1 := ⟨_, rfl⟩
      obtain ⟨w16, hw16⟩ : ∃ z, z = ((wr.alloc (.cells #[.int .i64 0] 3)).alloc (.cells #[.int .i64 0] 3)) := ⟨_, rfl⟩
      rw [← hb15, ← hb14, ← hw16]
      rw [← hw16] at HJ16 HM16 HK16
      rw [← hb15, ← hb14, ← hw16] at HA16
      have HA9 : Hid (∀ g off, A9 = some ⟨g, off, none⟩ → g < b14) := Lib.hid fun g off e => by rw [hb14]; exact (HJ.out.al.lt g (by rw [e]; rfl)).2
      have HLN := Lib.hid hln
      have HLT : Hid (w.heap.size < b10 ∧ b10 < b14 ∧ b14 < b15 ∧ b14 < w16.heap.size ∧ b15 < w16.heap.size) := Lib.hid (by have := HJ16.out.lt; have := hk10.lt; have := HA16.out.1.lt; have := HA16.out.2.lt; omega)
      obtain ⟨Wr, hWr⟩ : ∃ z : Nat → Prop, z = fun g => g = b14 ∨ g = b15 ∨ ∃ x ∈ gs, g = x.1 := ⟨_, rfl⟩
      have HWE : Hid (∀ g, Wr g ↔ (g = b14 ∨ g = b15 ∨ ∃ x ∈ gs, g = x.1)) := Lib.hid (by rw [hWr]; intro g; exact Iff.rfl)
      clear hWr
      have HWR : Hid (∀ g, Wr g → w.heap.size < g ∧ g < w16.heap.size) := Lib.hid (by
        intro g hg
        rcases (HWE.out g).1 hg with rfl | rfl | ⟨x, hx, rfl⟩
        · have := HLT.out; omega
        · have := HLT.out; omega
        · obtain ⟨j, hj, rfl⟩ := List.mem_iff_getElem.1 hx
          have h1 := HM16.out.bl j hj
          have := h1.2.2.lt; have := HLT.out; omega)
      have HWT : Hid (∀ g t cs, t ≠ 3 → t ≠ 4 → Blk w16 g t cs → ¬ Wr g) := Lib.hid (by
        intro g t cs h1 h2 hB hg
        rcases (HWE.out g).1 hg with rfl | rfl | ⟨x, hx, rfl⟩
        · exact hB.ne HA16.out.1 h1 rfl
        · exact hB.ne HA16.out.2 h1 rfl
        · obtain ⟨j, hj, rfl⟩ := List.mem_iff_getElem.1 hx
          exact hB.ne (HM16.out.bl j hj).2.2 h2 rfl)
      have q7 : w16.cell? ⟨b7, 0, none⟩ = some (.pointer (some ⟨G, 0, none⟩)) := HJ16.out.k7.cell 0
      clear hb14 hb15 hw16 HJ hmt hk10 hln
      go_wp2_with (go_at_call 16; refine (scan_clo w16 G A3 A4 A9 n c3 c4 n c9 nN p gr (fun j => j) ac dn uw uh tot iu HJ16.out.nw.fr HJ16.out.nw.po.rd HJ16.out.nw.go.rd (RdS.rdN (f := fun j => j) HJ16.out.al.rd) HSP.out.ri (by omega) (by omega) HNM.out.1 HNM.out.2.1 HNM.out.2.2.1 HNM.out.2.2.2.symm).mono ?_; rintro ex wL ⟨be, bn, bf, bl, C2, rfl, hbe, hbn, hbf, hbl, hC2, hF, hbL⟩; have HBE := Lib.hid (And.intro hbe (And.intro hbn (And.intro hbf (And.intro hbl hC2)))); have HF := Lib.hid hF; have HBL := Lib.hid hbL; clear hbe hbn hbf hbl hC2 hF hbL q7)
      have HBW := Lib.hid (HJ16.out.be.trans (HBL.out.mono HJ16.out.be.size))
      have HJL := Lib.hid (HJ16.out.bel HBL.out); have HML := Lib.hid (HM16.out.bel HBL.out); have HKL := Lib.hid (HK16.out.bel HBL.out); have HAL := Lib.hid (And.intro (HA16.out.1.bel HBL.out) (HA16.out.2.bel HBL.out))
      have HNB : Hid (¬ Wr b7 ∧ ¬ Wr b10 ∧ ¬ Wr G ∧ ¬ Wr w.heap.size ∧ (∀ g off, A4 = some ⟨g, off, none⟩ → ¬ Wr g) ∧ (∀ g off, A3 = some ⟨g, off, none⟩ → ¬ Wr g) ∧ (∀ g off, AM = some ⟨g, off, none⟩ → ¬ Wr g) ∧ (∀ g off, A9 = some ⟨g, off, none⟩ → ¬ Wr g)) := Lib.hid (by
        refine ⟨HWT.out _ _ _ (by decide) (by decide) HJ16.out.k7, HWT.out _ _ _ (by decide) (by decide) HK16.out, HWT.out _ _ _ (by decide) (by decide) HJ16.out.nw.fr, fun h => by have := HWR.out _ h; omega, ?_, ?_, ?_, ?_⟩
        · intro g off e hg
          rcases (HWE.out g).1 hg with rfl | rfl | ⟨x, hx, rfl⟩
          · exact HJ16.out.nw.go.neT HA16.out.1 (by decide) (by rw [e]; rfl)
          · exact HJ16.out.nw.go.neT HA16.out.2 (by decide) (by rw [e]; rfl)
          · obtain ⟨j, hj, rfl⟩ := List.mem_iff_getElem.1 hx
            exact HJ16.out.nw.go.neT (HM16.out.bl j hj).2.2 (by decide) (by rw [e]; rfl)
        · intro g off e hg
          rcases (HWE.out g).1 hg with rfl | rfl | ⟨x, hx, rfl⟩
          · exact HJ16.out.nw.po.neT HA16.out.1 (by decide) (by rw [e]; rfl)
          · exact HJ16.out.nw.po.neT HA16.out.2 (by decide) (by rw [e]; rfl)
          · obtain ⟨j, hj, rfl⟩ := List.mem_iff_getElem.1 hx
            exact HJ16.out.nw.po.neT (HM16.out.bl j hj).2.2 (by decide) (by rw [e]; rfl)
        · intro g off e hg
          rcases (HWE.out g).1 hg with rfl | rfl | ⟨x, hx, rfl⟩
          · exact HM16.out.ow.neT HA16.out.1 (by decide) (by rw [e]; rfl)
          · exact HM16.out.ow.neT HA16.out.2 (by decide) (by rw [e]; rfl)
          · obtain ⟨j, hj, rfl⟩ := List.mem_iff_getElem.1 hx
            exact HM16.out.ow.neT (HM16.out.bl j hj).2.2 (by decide) (by rw [e]; rfl)
        · intro g off e hg
          rcases (HWE.out g).1 hg with rfl | rfl | ⟨x, hx, rfl⟩
          · have := HA9.out _ off e; omega
          · have := HA9.out _ off e; have := HLT.out; omega
          · obtain ⟨j, hj, rfl⟩ := List.mem_iff_getElem.1 hx
            exact HJ16.out.al.neT (HM16.out.bl j hj).2.2 (by decide) (by rw [e]; rfl))
      obtain ⟨lst, hlst⟩ : ∃ z, z = preS p gr ac n (fun j => j) nN := ⟨_, rfl⟩
      rw [← hlst] at HCV
      have HSQ : Hid (SqX Try.prog 25 #[.pointer (some ⟨be, 0, none⟩), .pointer (some ⟨bn, 0, none⟩), .pointer (some ⟨bf, 0, none⟩), .pointer (some ⟨bl, 0, none⟩)] spE2 (KeepD (fun g => g < wL.heap.size ∧ ¬ Wr g)) lst wL) := Lib.hid (by
        rw [hlst]
        have hbe := HBE.out; have hlt := HLT.out; have hbl := HBL.out.size
        have hnw : ∀ g, w16.heap.size ≤ g → ¬ Wr g := fun g hg h => by have := HWR.out g h; omega
        have hk0 := HF.out.k0.lt; have hk1 := HF.out.k1.lt; have hk2 := HF.out.k2.lt
        obtain ⟨cc2, hk3⟩ := HF.out.k3
        have hk3 := hk3.lt
        have hnr := HSP.out.nnr; have hacr := HSP.out.acr; have haca := HSP.out.aca; have hm4 := HSP.out.m4; have hm0 := HSP.out.ri.m0; have hoca := HSP.out.oca; have hocr := HSP.out.ocr
        refine scan1_seq _ wL be bn bf bl G nN ac n C2 A3 A4 p gr (fun j => j) (by omega) (by omega) (by omega) (by omega) hm0 HSP.out.hp (by (try dsimp only at *); omega) HF.out ⟨⟨hk0, hnw _ hbe.1⟩, ⟨hk1, hnw _ hbe.2.1⟩, ⟨hk2, hnw _ hbe.2.2.1⟩, ⟨hk3, hnw _ hbe.2.2.2.1⟩, ⟨HJL.out.nw.fr.lt, HNB.out.2.2.1⟩, fun g off e => ?_, fun g off e => ?_, fun g off e => ?_⟩
        · obtain ⟨g', off', e', hl, _⟩ := HF.out.kc 0 hm0
          have := hbe.2.2.2.2 g off e
          rw [e] at e'
          cases e'
          exact ⟨hl, hnw _ this⟩
        · exact ⟨Nat.lt_of_lt_of_le (HJ16.out.nw.po.lt g (by rw [e]; rfl)).2 hbl, HNB.out.2.2.2.2.2.1 g off e⟩
        · exact ⟨Nat.lt_of_lt_of_le (HJ16.out.nw.go.lt g (by rw [e]; rfl)).2 hbl, HNB.out.2.2.2.2.1 g off e⟩)
      have HWL : Hid (∀ g, Wr g → w.heap.size < g ∧ g < wL.heap.size) := Lib.hid fun g hg => by have := HWR.out g hg; have := HBL.out.size; omega
      have HLP := Lib.hid (LpI.refl (Wr := Wr) HBW.out (by have := HBW.out.size; omega))
      clear HF HBE HJ16 HM16 HK16 HA16
      have HQM : Hid (∀ j (h : j < gs.length), w.heap.size < gs[j].1 ∧ gs[j].1 < wL.heap.size ∧ gs[j].2 = (gr j 0 * gr j 1).toNat) := Lib.hid fun j h => ⟨(HWL.out _ ((HWE.out _).2 (.inr (.inr ⟨_, List.getElem_mem h, rfl⟩)))).1, (HWL.out _ ((HWE.out _).2 (.inr (.inr ⟨_, List.getElem_mem h, rfl⟩)))).2, (HML.out.bl j h).2.1⟩
      have HRL : Hid (w.heap.size < wL.heap.size) := Lib.hid HJL.out.r6.lt
      have HB1L : Hid (b14 < wL.heap.size ∧ b15 < wL.heap.size ∧ w.heap.size < b14 ∧ w.heap.size < b15 ∧ b14 ≠ b15) := Lib.hid (by have := HWL.out b14 ((HWE.out _).2 (.inl rfl)); have := HWL.out b15 ((HWE.out _).2 (.inr (.inl rfl))); have := HLT.out; omega)
      refine rangeX (gf := 25) (lb := #[.pointer (some ⟨be, 0, none⟩), .pointer (some ⟨bn, 0, none⟩), .pointer (some ⟨bf, 0, none⟩), .pointer (some ⟨bl, 0, none⟩)]) rfl (eg_of Try.func25 (by kernel_rfl) rfl) HSQ.out (fun W hb => KeepD.of_below hb) (fun h k => KeepD.trans h k) (fun W' lk o o' hl _ _ _ => ⟨by simp, fun g hg _ => World.putObj_heap_other (fun e => by have := hg.1; omega)⟩) (fun _ => rfl)
        (fun D pre Wx => LpI w.heap.size w wL Wr D Wx ∧ Blk Wx b14 3 #[.int .i64 (lastI pre)] ∧ Blk Wx b15 3 #[.int .i64 (pre.length : Int)] ∧ ∀ j (h : j < gs.length), Blk Wx gs[j].1 4 (bitC (gr j 0 * gr j 1).toNat (metF gr pre j)))
        (fun _ _ _ _ => False)
        ?hI (fun _ _ _ _ _ h _ => h.elim) (fun _ => False) (fun _ h => h.elim) ⟨HLP.out, HAL.out.1, HAL.out.2, fun j h => by rw [metF_nil]; exact (HML.out.bl j h).2.2⟩ ?round ?done (fun _ _ _ _ _ _ _ _ _ h _ => h.elim)
      case hI =>
        rintro D s A' B' ⟨h1, h2, h3, h4⟩ hit
        exact ⟨h1.step hit, h1.stepBlk hit HB1L.out.1 h2, h1.stepBlk hit HB1L.out.2.1 h3, fun j h => h1.stepBlk hit (HQM.out j h).2.1 (h4 j h)⟩
      case round =>
        rintro lr D pre ⟨xi, ⟨xc, xr, xk⟩⟩ Wx hDl hDl1 hlr hlt _ ⟨hL, h14, h15, hM⟩ ⟨r, hx⟩
        obtain ⟨cc, pos, hnx⟩ := HCV.out.next hx
        obtain rfl : xc = cc := hnx.ce
        have hb : Below Wx.heap.size Wx (Wx.alloc (.cells #[.int .i64 cc, .int .i64 xr, .int .i64 xk] 52)) := (Below.refl _ _).alloc (Nat.le_refl _) _
        have hk8 : Blk (Wx.alloc (.cells #[.int .i64 cc, .int .i64 xr, .int .i64 xk] 52)) Wx.heap.size 52 #[.int .i64 cc, .int .i64 xr, .int .i64 xk] := Blk.new _ _ _
        have hkl : pre.length + 1 ≤ lst.length := by rw [hx]; simp
        obtain ⟨k, hk⟩ : ∃ z, z = pre.length := ⟨_, rfl⟩
        obtain ⟨la, hla⟩ : ∃ z, z = lastI pre := ⟨_, rfl⟩
        rw [← hk] at h15
        rw [← hla] at h14
        have HKE := Lib.hid hk; have HLA := Lib.hid (show la ≤ xi from hla ▸ hnx.la)
        have HNX := Lib.hid hnx; have HHL := Lib.hid hL; have H14 := Lib.hid h14; have H15 := Lib.hid h15; have HMM := Lib.hid hM; have HB := Lib.hid hb; have HK8 := Lib.hid hk8; have HD1 := Lib.hid hDl; have HLR := Lib.hid hlr; have HKB := Lib.hid hkl
        clear hx hnx hL h14 h15 hM hb hk8 hDl hDl1 hlr hlt hk hla hkl
        simp only [← fr_in]
        simp only [spE2, spC, List.zip_toArray, List.zip_cons_cons, List.zip_nil_left, List.zip_nil_right, List.foldl_toArray, List.size_toArray, List.length_cons, List.length_nil, List.foldl_cons, List.foldl_nil, List.setIfInBounds_toArray, List.set_cons_zero, List.set_cons_succ]
        gi_wp2
        refine ⟨KeepD.of_below HB.out, KeepD.of_below HB.out, fun o o' hl ho ho' => ?_⟩
        obtain ⟨Wy, hWy⟩ : ∃ z, z = (Wx.alloc (.cells #[.int .i64 cc, .int .i64 xr, .int .i64 xk] 52)).putObj lr o' := ⟨_, rfl⟩
        have hly : LpI w.heap.size w wL Wr D Wy := by rw [hWy]; exact (HHL.out.alloc _).put (by have := HLR.out; omega) _
        have h14 : Blk Wy b14 3 #[.int .i64 la] := by rw [hWy]; exact (H14.out.alloc _).putObj hl ho _
        have h15 : Blk Wy b15 3 #[.int .i64 k] := by rw [hWy]; exact (H15.out.alloc _).putObj hl ho _
        have h8 : Blk Wy Wx.heap.size 52 #[.int .i64 cc, .int .i64 xr, .int .i64 xk] := by rw [hWy]; exact HK8.out.putObj hl ho _
        have hMM : ∀ j (h : j < gs.length), Blk Wy gs[j].1 4 (bitC (gr j 0 * gr j 1).toNat (metF gr pre j)) := fun j h => by rw [hWy]; exact ((HMM.out j h).alloc _).putObj hl ho _
        have HLY := Lib.hid hly; have H14 := Lib.hid h14; have H15 := Lib.hid h15; have H8 := Lib.hid h8; have HMM := Lib.hid hMM
        have q7 : Wy.cell? ⟨b7, 0, none⟩ = some (.pointer (some ⟨G, 0, none⟩)) := (hly.blk HNB.out.1 HJL.out.k7).cell 0
        have q8 : Wy.cell? ⟨Wx.heap.size, 0, none⟩ = some (.int .i64 cc) := h8.cell 0
        obtain ⟨g0, hg0⟩ : ∃ z, z = gr cc 0 := ⟨_, rfl⟩
        obtain ⟨g1, hg1⟩ : ∃ z, z = gr cc 1 := ⟨_, rfl⟩
        have HG01 := Lib.hid (And.intro hg0 hg1)
        rw [← hWy]
        clear hWy hly h14 h15 h8 hMM hl ho ho' HHL HK8 HB hg0 hg1
        gi_upto_region 21 with (refine ⟨trivial, ?_⟩; gi_at_call 12; refine callsX (ro := some lr) ?_; (have hgr := grid_ok Wy G _ A4 n c4 gr ac dn uw uh tot iu (HLY.out.blk HNB.out.2.2.1 HJL.out.nw.fr) (HLY.out.rdS HJL.out.nw.go.rd HNB.out.2.2.2.2.1) cc HNX.out.cn); rw [← HG01.out.1, ← HG01.out.2] at hgr; refine hgr.mono ?_; clear hgr; rintro e w5 ⟨rfl, hb5⟩; have HB5 := Lib.hid hb5; clear hb5 q7 q8)
        obtain ⟨Wg, hWg⟩ : ∃ z, z = w5.alloc (.cells #[.int .i64 g0, .int .i64 g1, .int .i64 (gr cc 2), .int .i64 (gr cc 3)] 33) := ⟨_, rfl⟩
        obtain ⟨b18, hb18⟩ : ∃ z, z = w5.heap.size := ⟨_, rfl⟩
        have hb6 : Below Wy.heap.size Wy Wg := by rw [hWg]; exact HB5.out.alloc HB5.out.size _
        have h18 : Blk Wg b18 33 #[.int .i64 g0, .int .i64 g1, .int .i64 (gr cc 2), .int .i64 (gr cc 3)] := by rw [hWg, hb18]; exact Blk.new _ _ _
        have hlg : LpI w.heap.size w wL Wr D Wg := HLY.out.bel hb6
        have hcl : cc < gs.length := by have := HNX.out.cn; have := HLN.out; omega
        obtain ⟨gm, rfl, _, hgm, hcm⟩ := HML.out.ow.at_ mtC_ok hcl
        obtain ⟨gb, hgb⟩ : ∃ z, z = gs[cc].1 := ⟨_, rfl⟩
        obtain ⟨kc, hkc⟩ : ∃ z, z = gs[cc].2 := ⟨_, rfl⟩
        have hr1 : Wg.cell? ⟨gm, cc, none⟩ = some (.slice (some ⟨gb, 0, none⟩) kc kc) := by
          have h1 := hcm 0 (by decide)
          rw [Nat.mul_one, Nat.add_zero] at h1
          rw [heap_cell (hlg.kp gm hgm (HNB.out.2.2.2.2.2.2.1 gm 0 rfl)), h1, hgb, hkc]; rfl
        have hkv : kc = (g0 * g1).toNat := by rw [hkc, (HQM.out cc hcl).2.2, HG01.out.1, HG01.out.2]
        have hgl := HGL.out cc HNX.out.cn
        rw [← HG01.out.1, ← HG01.out.2] at hgl
        have hr0 := HNX.out.r0; have hr1' := HNX.out.r1; have hk0 := HNX.out.k0; have hk1 := HNX.out.k1; have hpo := HNX.out.po; have hpl := HNX.out.pl; have hx0 := HNX.out.x0
        rw [← HG01.out.2] at hr1'
        rw [← HG01.out.1] at hk1 hpo
        rw [← HG01.out.1, ← HG01.out.2, ← hkv] at hpl
        have hmr := mul_rng9 (x := xr) (y := g0) (A := 600) (B := 600) (by (try dsimp only at *); omega) (by (try dsimp only at *); omega) (by omega) (by omega)
        have hbit : Blk Wg gb 4 (bitC kc (metF gr pre cc)) := by rw [hgb, hkc, (HQM.out cc hcl).2.2]; exact (HMM.out cc hcl).bel hb6
        have hpz : (xr * g0 + xk).toNat = pos := by (try dsimp only at *); omega
        have hqb : Wg.cell? ⟨gb, (xr * g0 + xk).toNat, none⟩ = some (.bool false) := by rw [hpz, hbit.cell, bitC_get _ hpl, HNX.out.nw]
        have hqz : Wg.frozen? ⟨gb, (xr * g0 + xk).toNat, none⟩ = false := hbit.frozen _
        have HQ : Hid ((Wg.cell? ⟨b10, 0, none⟩ = some (.slice (some ⟨gm, 0, none⟩) n cM) ∧ Wg.cell? ⟨gm, cc, none⟩ = some (.slice (some ⟨gb, 0, none⟩) kc kc) ∧ Wg.cell? ⟨gb, (xr * g0 + xk).toNat, none⟩ = some (.bool false) ∧ Wg.frozen? ⟨gb, (xr * g0 + xk).toNat, none⟩ = false) ∧ Blk Wg gb 4 (bitC kc (metF gr pre cc)) ∧ (xr * g0 + xk).toNat = pos) := Lib.hid ⟨⟨(hlg.blk HNB.out.2.1 HKL.out).cell 0, hr1, hqb, hqz⟩, hbit, hpz⟩
        have HGB : Hid (∃ h : cc < gs.length, gb = (gs[cc]'h).1 ∧ kc = (gs[cc]'h).2 ∧ kc = (g0 * g1).toNat) := Lib.hid ⟨hcl, hgb, hkc, hkv⟩
        have HLG := Lib.hid hlg; have H18 := Lib.hid h18; have H14 := Lib.hid (H14.out.bel hb6); have H15 := Lib.hid (H15.out.bel hb6); have H8 := Lib.hid (H8.out.bel hb6)
        have HMM := Lib.hid (fun j (h : j < gs.length) => (HMM.out j h).bel hb6); have HKD := Lib.hid (fun D' => KeepD.of_below (D := D') hb6)
        have hkn : xr * g0 + xk < (kc : Int) := by (try dsimp only at *); omega
        have hk0n : 0 ≤ xr * g0 + xk := by (try dsimp only at *); omega
        have d1 : decide (xr < 0) = false := by simp; exact hr0
        have d2 : decide (g1 ≤ xr) = false := by simp; exact hr1'
        have d3 : decide (xk < 0) = false := by simp; exact hk0
        have d4 : decide (g0 ≤ xk) = false := by simp; exact hk1
        have d5 : decide (xi < la) = false := by simp; exact HLA.out
        have hcn := HNX.out.cn
        have hxk6 : xk ≤ 600 := by (try dsimp only at *); omega
        rw [← hb18, ← hWg]
        clear hWg hb18 hb6 h18 hlg hcm hgm hgb hkc hr1 hkv hgl hcl hr0 hr1' hk0 hk1 hpo hpl hx0 hbit hpz hqb hqz
        refine region_planX (ro := some lr) (.run [0, 1, 2, 3, 4, 5, 6, 7, 8, 9, 10, 11, 12, 13, 14, 15, 16, 17, 18, 19, 20, 21, 22, 23, 24, 25, 26, 27, 28, 29, 30, 31, 32, 33, 34, 35, 36, 37, 38, 39, 40, 41, 42, 43, 44, 45, 46, 47] .fin) (fun w' => True) (by kernel_rfl) trivial ?_
        intro wd hwd
        have e80 : wd.cell? ⟨Wx.heap.size, 0, none⟩ = some (.int .i64 cc) := by rw [hwd]; exact H8.out.cell 0
        have e81 : wd.cell? ⟨Wx.heap.size, 1, none⟩ = some (.int .i64 xr) := by rw [hwd]; exact H8.out.cell 1
        have e82 : wd.cell? ⟨Wx.heap.size, 2, none⟩ = some (.int .i64 xk) := by rw [hwd]; exact H8.out.cell 2
        have e180 : wd.cell? ⟨b18, 0, none⟩ = some (.int .i64 g0) := by rw [hwd]; exact H18.out.cell 0
        have e181 : wd.cell? ⟨b18, 1, none⟩ = some (.int .i64 g1) := by rw [hwd]; exact H18.out.cell 1
        have e14 : wd.cell? ⟨b14, 0, none⟩ = some (.int .i64 la) := by rw [hwd]; exact H14.out.cell 0
        have e10 : wd.cell? ⟨b10, 0, none⟩ = some (.slice (some ⟨gm, 0, none⟩) n cM) := by rw [hwd]; exact HQ.out.1.1
        have er : wd.cell? ⟨gm, cc, none⟩ = some (.slice (some ⟨gb, 0, none⟩) kc kc) := by rw [hwd]; exact HQ.out.1.2.1
        have eb : wd.cell? ⟨gb, (xr * g0 + xk).toNat, none⟩ = some (.bool false) := by rw [hwd]; exact HQ.out.1.2.2.1
        have HWD := Lib.hid hwd
        clear hwd
        refine planX_run fun m hm => ?_
        simp only [pickO, List.filterMap_cons, List.filterMap_nil, List.getElem?_toArray, List.getElem?_cons_zero, List.getElem?_cons_succ] at hm
        subst hm
        go_wp2_with fail
        refine ⟨rfl, by rfl, ?_⟩
        refine planX_fin ?_
        go_wp2_with fail
        gi_upto_region 23 with fail
        refine region_planX (ro := some lr) (.run [0, 1, 2, 3, 4, 5, 6, 7, 8, 9, 10, 11, 12, 13] (.ev 14 .fin)) (fun w' => True) (by kernel_rfl) trivial ?_
        intro wd2 hwd
        have f80 : wd2.cell? ⟨Wx.heap.size, 0, none⟩ = some (.int .i64 cc) := by rw [hwd]; exact e80
        have f81 : wd2.cell? ⟨Wx.heap.size, 1, none⟩ = some (.int .i64 xr) := by rw [hwd]; exact e81
        have f82 : wd2.cell? ⟨Wx.heap.size, 2, none⟩ = some (.int .i64 xk) := by rw [hwd]; exact e82
        have f180 : wd2.cell? ⟨b18, 0, none⟩ = some (.int .i64 g0) := by rw [hwd]; exact e180
        have f181 : wd2.cell? ⟨b18, 1, none⟩ = some (.int .i64 g1) := by rw [hwd]; exact e181
        have f10 : wd2.cell? ⟨b10, 0, none⟩ = some (.slice (some ⟨gm, 0, none⟩) n cM) := by rw [hwd]; exact e10
        have fr : wd2.cell? ⟨gm, cc, none⟩ = some (.slice (some ⟨gb, 0, none⟩) kc kc) := by rw [hwd]; exact er
        have fb : wd2.cell? ⟨gb, (xr * g0 + xk).toNat, none⟩ = some (.bool false) := by rw [hwd]; exact eb
        have zb : wd2.frozen? ⟨gb, (xr * g0 + xk).toNat, none⟩ = false := by rw [hwd, HWD.out]; exact HQ.out.1.2.2.2
        have HWD2 := Lib.hid hwd
        clear hwd
        refine planX_run fun m hm => ?_
        simp only [pickO, List.filterMap_cons, List.filterMap_nil, List.getElem?_toArray, List.getElem?_cons_zero, List.getElem?_cons_succ] at hm
        subst hm
        go_wp2_with fail
        refine ⟨rfl, by rfl, ?_⟩
        refine planX_ev fun m hm => ?_
        simp only [pickO, List.filterMap_cons, List.filterMap_nil, List.getElem?_toArray, List.getElem?_cons_zero, List.getElem?_cons_succ] at hm
        subst hm
        go_wp2_with fail
        refine ⟨rfl, trivial, ?_⟩
        try simp only [Act.put, List.setIfInBounds_toArray, List.set_cons_zero, List.set_cons_succ]
        refine planX_fin ?_
        go_wp2_with fail
        clear e80 e81 e82 e180 e181 e14 e10 er eb f80 f81 f82 f180 f181 f10 fr fb zb d1 d2 d3 d4 d5
        obtain ⟨W23, hW23⟩ : ∃ z, z = wd2.setCell ⟨gb, (xr * g0 + xk).toNat, none⟩ (.bool true) := ⟨_, rfl⟩
        obtain ⟨hcl, hgb, hkc, hkv⟩ := HGB.out
        have hlw := (HLG.out.drewE HWD.out).drewE HWD2.out
        have h14 := (H14.out.drewE HWD.out).drewE HWD2.out
        have h15 := (H15.out.drewE HWD.out).drewE HWD2.out
        have hMM := fun j (h : j < gs.length) => ((HMM.out j h).drewE HWD.out).drewE HWD2.out
        have hwr : Wr gb := (HWE.out _).2 (.inr (.inr ⟨_, List.getElem_mem hcl, hgb⟩))
        have hgbw := HWL.out gb hwr
        have hbb := (HQ.out.2.1.drewE HWD.out).drewE HWD2.out
        have hn14 := h14.ne hbb (by decide)
        have hn15 := h15.ne hbb (by decide)
        have hnd : ∀ j (h : j < gs.length), j ≠ cc → gs[j].1 ≠ gb := fun j h hj => by
          rw [hgb]
          have hp := List.pairwise_iff_getElem.1 HML.out.nd
          rcases Nat.lt_or_gt_of_ne hj with h1 | h1
          · exact hp j cc h hcl h1
          · exact (hp cc j hcl h h1).symm
        have R23 : Hid (∀ j (h : j < gs.length), Blk W23 gs[j].1 4 (bitC (gr j 0 * gr j 1).toNat (metF gr (pre ++ [((xi, ⟨cc, xr, xk⟩) : Int × Spt)]) j))) := Lib.hid (by
          intro j h
          by_cases e : j = cc
          · subst e
            rw [hW23, ← hgb, ← HG01.out.1, ← HG01.out.2, ← hkv]
            have h1 := hbb.set_ (xr * g0 + xk).toNat (.bool true)
            rw [HQ.out.2.2, bitC_set (metF_same HNX.out.key)] at h1
            rw [HQ.out.2.2]
            exact h1
          · rw [hW23, metF_other HNX.out.key e]
            exact (hMM j h).far (hnd j h e) _)
        have L23 : Hid (LpI w.heap.size w wL Wr D W23) := Lib.hid (by rw [hW23]; exact hlw.set hwr (Nat.le_of_lt hgbw.1) _)
        have B14 : Hid (Blk W23 b14 3 #[.int .i64 la]) := Lib.hid (by rw [hW23]; exact h14.far hn14 _)
        have B15 : Hid (Blk W23 b15 3 #[.int .i64 k]) := Lib.hid (by rw [hW23]; exact h15.far hn15 _)
        have K23 : Hid (∀ D' : Nat → Prop, ¬ D' gb → KeepD D' Wy W23) := Lib.hid fun D' hd => by rw [hW23]; exact (((HKD.out D').trans (KeepD.drewE HWD.out)).trans (KeepD.drewE HWD2.out)).trans (KeepD.set hd _)
        have hdg : ∀ g, Wr g → ¬ D g := fun g hg hd => by have := HLG.out.dg g hd; have := HWL.out g hg; omega
        have HDG := Lib.hid hdg; have HGW := Lib.hid hwr
        rw [← hW23]
        clear hW23 hcl hgb hkc hkv hlw h14 h15 hMM hwr hgbw hbb hn14 hn15 hnd hdg HQ HGB HWD HWD2 HLG H18 H14 H15 H8 HMM HKD
        have c14 : W23.cell? ⟨b14, 0, none⟩ = some (.int .i64 la) := B14.out.cell 0
        have z14 : W23.frozen? ⟨b14, 0, none⟩ = false := B14.out.frozen 0
        gi_upto_region 25 with fail
        obtain ⟨W24, hW24⟩ : ∃ z, z = W23.setCell ⟨b14, 0, none⟩ (.int .i64 xi) := ⟨_, rfl⟩
        have hne : b15 ≠ b14 := by have := HB1L.out; omega
        have R24 : Hid (∀ j (h : j < gs.length), Blk W24 gs[j].1 4 (bitC (gr j 0 * gr j 1).toNat (metF gr (pre ++ [((xi, ⟨cc, xr, xk⟩) : Int × Spt)]) j))) := Lib.hid fun j h => by rw [hW24]; exact (R23.out j h).far ((R23.out j h).ne B14.out (by decide)) _
        have L24 : Hid (LpI w.heap.size w wL Wr D W24) := Lib.hid (by rw [hW24]; exact L23.out.set ((HWE.out _).2 (.inl rfl)) (by have := HB1L.out; simp; omega) _)
        have C14 : Hid (Blk W24 b14 3 #[.int .i64 xi]) := Lib.hid (by rw [hW24]; exact B14.out.set_ 0 _)
        have C15 : Hid (Blk W24 b15 3 #[.int .i64 k]) := Lib.hid (by rw [hW24]; exact B15.out.far hne _)
        have K24 : Hid (∀ D' : Nat → Prop, ¬ D' gb → ¬ D' b14 → KeepD D' Wy W24) := Lib.hid fun D' hd h2 => by rw [hW24]; exact (K23.out D' hd).trans (KeepD.set h2 _)
        rw [← hW24]
        clear hW24 c14 z14 R23 L23 B14 B15 K23 hne
        have c15 : W24.cell? ⟨b15, 0, none⟩ = some (.int .i64 k) := C15.out.cell 0
        have z15 : W24.frozen? ⟨b15, 0, none⟩ = false := C15.out.frozen 0
        have hkb : k < 23040000 := by
          have h1 := HKB.out; have h2 := HKE.out; have h3 := HCV.out.len; have h4 := HS6.out; omega
        gi_wp2
        have hne : b14 ≠ b15 := HB1L.out.2.2.2.2
        refine ⟨(K24.out D (HDG.out _ HGW.out) (HDG.out _ ((HWE.out _).2 (.inl rfl)))).trans (KeepD.set (HDG.out _ ((HWE.out _).2 (.inr (.inl rfl)))) _), (K24.out _ (fun h => h.2 HGW.out) (fun h => h.2 ((HWE.out _).2 (.inl rfl)))).trans (KeepD.set (fun h => h.2 ((HWE.out _).2 (.inr (.inl rfl)))) _), L24.out.set ((HWE.out _).2 (.inr (.inl rfl))) (by have := HB1L.out; simp; omega) _, ?_, ?_, fun j h => (R24.out j h).far ((R24.out j h).ne C15.out (by decide)) _⟩
        · rw [lastI_snoc]; exact C14.out.far hne _
        · have e : ((pre ++ [((xi, ⟨cc, xr, xk⟩) : Int × Spt)]).length : Int) = (k : Int) + 1 := by rw [List.length_append, ← HKE.out]; rfl
          rw [e]
          exact C15.out.set_ 0 _
      case done =>
        rintro d D W' hd hDd _ ⟨hL, h14, h15, hM⟩ hdef
        have hla : lastI lst = (nN : Int) - 1 := by
          obtain ⟨l, s, e⟩ := HCV.out.last
          rw [e, lastI_snoc]
        have hle : (lst.length : Int) = tot := by rw [HCV.out.len, HTOT.out]
        rw [hla] at h14
        rw [hle] at h15
        have q7 : W'.cell? ⟨b7, 0, none⟩ = some (.pointer (some ⟨G, 0, none⟩)) := (hL.blk HNB.out.1 HJL.out.k7).cell 0
        have HCK := Lib.hid (count_ok W' G _ A4 A9 n c4 n c9 gr (fun j => j) ac dn uw uh tot iu (hL.blk HNB.out.2.2.1 HJL.out.nw.fr) (hL.rdS HJL.out.nw.go.rd HNB.out.2.2.2.2.1) (RdS.rdN (f := fun j => j) (hL.rdS HJL.out.al.rd HNB.out.2.2.2.2.2.2.2)) HSP.out.ri (by omega) (by omega) HNM.out.1 HNM.out.2.1 HNM.out.2.2.1)
        rw [HNM.out.2.2.2] at HCK
        have hG : Blk W' G 67 (frC (.slice A3 n c3) (.slice A4 n c4) ac dn uw uh tot iu) := hL.blk HNB.out.2.2.1 HJL.out.nw.fr
        have h6 : Blk W' w.heap.size 4 #[.bool false] := hL.blk HNB.out.2.2.2.1 HJL.out.r6
        have h7 : Blk W' b7 24 #[.pointer (some ⟨G, 0, none⟩)] := hL.blk HNB.out.1 HJL.out.k7
        have HL := Lib.hid hL; have H14 := Lib.hid h14; have H15 := Lib.hid h15; have H6 := Lib.hid h6; have HG := Lib.hid hG; have HDEF := Lib.hid hdef; have HDN := Lib.hid (And.intro hd hDd); have H7 := Lib.hid h7
        have hnn := HSP.out.nnr
        clear hL h14 h15 h6 hG hdef hd hDd hM hla hle h7
        go_upto_region 27 with (go_at_call 17; refine HCK.out.mono ?_; rintro e w26 ⟨rfl, hb26⟩; have HL6 := Lib.hid (HL.out.bel hb26); have HE14 := Lib.hid (H14.out.bel hb26); have HE15 := Lib.hid (H15.out.bel hb26); have HE6 := Lib.hid (H6.out.bel hb26); have HEG := Lib.hid (HG.out.bel hb26); have HE7 := Lib.hid (H7.out.bel hb26); have HEF : Hid (w26.heap[d]? = some (.deferred (some []))) := Lib.hid ((hb26.block d (Array.getElem?_eq_some_iff.1 HDEF.out).1).trans HDEF.out); clear hb26 q7)
        refine region_plan (.held 0 (.run [1] (.ev 2 (.run [3, 4, 5, 6, 7, 8, 9, 10, 11, 12, 13] (.ev 14 .fin))))) (fun w' => w'.cell? ⟨b15, 0, none⟩ = some (.int .i64 tot)) (by kernel_rfl) (HE15.out.cell 0) ?_
        intro wd hwd
        have HL7 := Lib.hid (HL6.out.drewE hwd)
        have HD15 := Lib.hid (HE15.out.drewE hwd)
        have HD14 := Lib.hid (HE14.out.drewE hwd)
        have HD6 := Lib.hid (HE6.out.drewE hwd)
        have HDG := Lib.hid (HEG.out.drewE hwd)
        have HDF : Hid (wd.heap[d]? = some (.deferred (some []))) := Lib.hid (by rw [hwd]; exact HEF.out)
        have q7 : wd.cell? ⟨b7, 0, none⟩ = some (.pointer (some ⟨G, 0, none⟩)) := (HE7.out.drewE hwd).cell 0
        have q14 : wd.cell? ⟨b14, 0, none⟩ = some (.int .i64 ((nN : Int) - 1)) := HD14.out.cell 0
        have q6 : wd.cell? ⟨w.heap.size, 0, none⟩ = some (.bool false) := HD6.out.cell 0
        have z6 : wd.frozen? ⟨w.heap.size, 0, none⟩ = false := HD6.out.frozen 0
        clear hwd
        refine plan_held (o := ⟨some 154, _, _, _, _, _⟩) (v := .int .i64 tot) rfl (by rfl) (fun w' hS => ?_) ?_
        · go_simp
        try simp only [Act.put, List.setIfInBounds_toArray, List.set_cons_zero, List.set_cons_succ]
        refine plan_run fun m hm => ?_
        simp only [pickO, List.filterMap_cons, List.filterMap_nil, List.getElem?_toArray, List.getElem?_cons_zero, List.getElem?_cons_succ] at hm
        subst hm
        go_wp2_with fail
        refine ⟨rfl, by rfl, ?_⟩
        refine plan_ev fun m hm => ?_
        simp only [pickO, List.filterMap_cons, List.filterMap_nil, List.getElem?_toArray, List.getElem?_cons_zero, List.getElem?_cons_succ] at hm
        subst hm
        go_wp2_with (go_at_call 14; refine (blocks_walk wd G _ _ _ _ _ _ _ _ HDG.out).mono ?_; rintro e w' ⟨rfl, hw'⟩; rw [hw']; clear hw')
        refine ⟨rfl, HD15.out.cell 0, ?_⟩
        try simp only [Act.put, List.setIfInBounds_toArray, List.set_cons_zero, List.set_cons_succ]
        refine plan_run fun m hm => ?_
        simp only [pickO, List.filterMap_cons, List.filterMap_nil, List.getElem?_toArray, List.getElem?_cons_zero, List.getElem?_cons_succ] at hm
        subst hm
        go_wp2_with fail
        refine ⟨rfl, by rfl, ?_⟩
        refine plan_ev fun m hm => ?_
        simp only [pickO, List.filterMap_cons, List.filterMap_nil, List.getElem?_toArray, List.getElem?_cons_zero, List.getElem?_cons_succ] at hm
        subst hm
        go_wp2_with fail
        refine ⟨rfl, (HD15.out.far (HD15.out.ne HD6.out (by decide)) _).cell 0, ?_⟩
        try simp only [Act.put, List.setIfInBounds_toArray, List.set_cons_zero, List.set_cons_succ]
        refine plan_fin ?_
        go_wp2_with fail
        show LeavesInM (FR none) 9 _ _ _ _ [mkD d] .returning _
        exact leave_true ((Below.heap_setCell _ _ _ _ (by have := HDN.out.1; have := HL6.out.le; have := HBW.out.size; have := HL6.out.sz; have := HRL.out; simp; omega)).trans HDF.out) (HL7.out.be.setCell (Nat.le_refl _) _) (by have := HDN.out.1; have := HRL.out; omega) (HD6.out.set_ 0 _) (by have := HDN.out.1; have := HRL.out; omega) rfl rfl
end Go.Proofs.Ytjfnlgmllhjonaa
