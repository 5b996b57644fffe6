/- FrameScans, wherever no loop is reached (gen_frw.py). No condition. -/
import Derived.Test.YtjfnlgmllhjonaaFrV
import Derived.Test.YtjfnlgmllhjonaaFrH
import Derived.Test.YtjfnlgmllhjonaaFrJ
import Derived.Test.YtjfnlgmllhjonaaInS
namespace Go.Proofs.Ytjfnlgmllhjonaa
open Go.RowKit
set_option linter.unusedSimpArgs false
set_option linter.unusedVariables false
set_option maxRecDepth 100000
theorem results_cellB {P : Program} {fn : Func} {p : Tmp} {ty : TypeId} (h : fn.results = #[.cell p ty]) (tmps : Array Value) (w : World) (g : Nat) (v : Value) (hp : tmps.getD p undef = .pointer (some ⟨g, 0, none⟩)) (hc : w.cell? ⟨g, 0, none⟩ = some v) (hu : (isAgg ty).run P w = .ok false w) :
    (results fn tmps).run P w = .ok v w := by
  have hp' : tmps[p]?.getD undef = .pointer (some ⟨g, 0, none⟩) := by simpa using hp
  simp [results, h, hp', asAddr, loadVar, hu, go_sem, hc]
theorem InS.rd {w : World} {A : Option Addr} {n q : Nat} {f : Nat → Nat → Int} (h : InS w A n q (fun _ => IntKind.i64) f) : RdS w A n q f := fun i hi => by
  obtain ⟨g, off, h1, h2, h3⟩ := h i hi
  exact ⟨g, off, h1, h2, fun j hj => (h3 j hj).1⟩
theorem rnew_walk (a b : Int) (A : Option Addr) (n c : Nat) (f : Nat → Nat → Int) (w : World) (hn : n ≤ 1000) (hR : RdS w A n 2 f) : Calls Try.prog 13 #[.int .i64 a, .int .i64 b, .slice A n c] w (RefPost w a b n f) := by
  by_cases h0 : rightV a b n f = 0
  · have h2 := right_zero h0
    by_cases h1 : n = 1
    · exact rnew_ok1 a b A n c f w hn hR h0 h1
    · exact rnew_okN a b A n c f w hn hR h0 (by omega)
  · have hf : faultV a b n f = rightV a b n f := by unfold faultV; rw [if_pos h0]
    exact (rnew_no a b A n c f w hn hR h0).mono fun e w' ⟨he, hb⟩ => RefPost.fail hf h0 he hb
theorem RefPost.no {w w' : World} {a b : Int} {n : Nat} {f : Nat → Nat → Int} {e : Ending} (h : RefPost w a b n f e w') (h0 : faultV a b n f ≠ 0) : e = .returned (.tuple #[.agg #[.int .i64 0, .int .i64 0, .int .i64 0, .int .i64 0, .slice none 0 0, .slice none 0 0], .int .i64 (faultV a b n f)]) ∧ Below w.heap.size w w' := by
  rcases h with ⟨h, _⟩ | ⟨_, h⟩
  · exact absurd h h0
  · exact h
theorem RefPost.get {w w' : World} {a b : Int} {n : Nat} {f p gr : Nat → Nat → Int} {ac dn uw uh : Int} {e : Ending} (h : RefPost w a b n f e w') (h0 : faultV a b n f = 0)
    (hE : p = pF n f ∧ gr = gridU a b p n ∧ ac = acU a p n 0 ∧ dn = acU b p n 1 ∧ uw = 8 * maxU p 0 n ∧ uh = 8 * maxU p 1 n) : Hid (RefYes w n p gr uw uh ac dn e w') := by
  obtain ⟨rfl, rfl, rfl, rfl, rfl, rfl⟩ := hE
  rcases h with ⟨_, h⟩ | ⟨h, _⟩
  · exact Lib.hid h
  · exact absurd h0 h
theorem aggB (w : World) : (isAgg 4).run Try.prog w = .ok false w := by
  have := Try.underlying4
  simp [isAgg, underlying, go_sem, this]
theorem fin_cell {w w2 : World} {fn : Func} {a : Act} {p : Tmp} {v : Value} (hR : Blk w2 (w.heap.size + 1) 4 #[v]) (hB : Below w.heap.size w w2) (h : fn.results = #[.cell p 4]) (hp : a.tmps.getD p undef = .pointer (some ⟨w.heap.size + 1, 0, none⟩)) (hd : a.defers = []) :
    bodyPost Try.prog fn (fun e w' => e = .returned (.bool true) ∧ Below w.heap.size w w') .ret a (w2.setCell ⟨w.heap.size + 1, 0, none⟩ (.bool true)) := by
  have h9 : Blk (w2.setCell ⟨w.heap.size + 1, 0, none⟩ (.bool true)) (w.heap.size + 1) 4 #[.bool true] := hR.set_ 0 (.bool true)
  exact bodyPost_ret (results_cellB h _ _ (w.heap.size + 1) _ hp (h9.cell 0) (aggB _)) hd ⟨rfl, hB.setCell (by simp) _⟩
set_option maxHeartbeats 1000000 in
theorem scans_long (a b : Int) (A C : Option Addr) (n c m cc : Nat) (st : Int) (hn : 100 < n ∨ 20 < m) (w : World) : Calls Try.prog 6 #[.int .i64 a, .int .i64 b, .slice A n c, .slice C m cc, .int .u8 st] w fun e w' => e = .returned (.bool true) ∧ Below w.heap.size w w' := by
  have HW0 := Lib.hid (show Below w.heap.size w ((w.alloc (.cells #[.int .u8 st] 5)).alloc (.cells #[.bool false] 4)) from ((Below.refl _ _).alloc (Nat.le_refl _) _).alloc (by simp) _)
  have HR0 : Hid (Blk ((w.alloc (.cells #[.int .u8 st] 5)).alloc (.cells #[.bool false] 4)) (w.heap.size + 1) 4 #[.bool false]) := Lib.hid (Blk.nw (by simp))
  have HS0 : Hid (Blk ((w.alloc (.cells #[.int .u8 st] 5)).alloc (.cells #[.bool false] 4)) w.heap.size 5 #[.int .u8 st]) := Lib.hid ((Blk.new _ _ _).alloc _)
  by_cases hn1 : 100 < n
  case pos =>
    have hg2 : decide ((100 : Int) < (n : Int)) = true := by simp; omega
    go_enter Try.func6, Try.ntmps6
    go_wp2_with (first | (go_at_call 7; refine (awake_walk _).mono ?_; rintro e w1 ⟨rfl, hb1⟩; have HB1 := Lib.hid (HW0.out.trans (hb1.mono (by simp; omega))); have HR1 := Lib.hid (HR0.out.bel hb1); have HS1 := Lib.hid (HS0.out.bel hb1); clear hb1) | (go_at_call 7; refine (awake_walk w1).mono ?_; rintro e w2 ⟨rfl, hb2⟩; have HB2 := Lib.hid (HB1.out.trans (hb2.mono HB1.out.size)); have HR2 := Lib.hid (HR1.out.bel hb2); have c10 : w2.cell? ⟨w.heap.size + 1, 0, none⟩ = some (.bool false) := (HR1.out.bel hb2).cell 0; have z10 : w2.frozen? ⟨w.heap.size + 1, 0, none⟩ = false := (HR1.out.bel hb2).frozen 0; clear hb2))
    exact fin_cell HR2.out HB2.out rfl rfl rfl
  case neg =>
    have hg2 : decide ((100 : Int) < (n : Int)) = false := by simp; omega
    have hg3 : decide ((20 : Int) < (m : Int)) = true := by simp; omega
    go_enter Try.func6, Try.ntmps6
    go_wp2_with (first | (go_at_call 7; refine (awake_walk _).mono ?_; rintro e w1 ⟨rfl, hb1⟩; have HB1 := Lib.hid (HW0.out.trans (hb1.mono (by simp; omega))); have HR1 := Lib.hid (HR0.out.bel hb1); have HS1 := Lib.hid (HS0.out.bel hb1); clear hb1) | (go_at_call 7; refine (awake_walk w1).mono ?_; rintro e w2 ⟨rfl, hb2⟩; have HB2 := Lib.hid (HB1.out.trans (hb2.mono HB1.out.size)); have HR2 := Lib.hid (HR1.out.bel hb2); have c10 : w2.cell? ⟨w.heap.size + 1, 0, none⟩ = some (.bool false) := (HR1.out.bel hb2).cell 0; have z10 : w2.frozen? ⟨w.heap.size + 1, 0, none⟩ = false := (HR1.out.bel hb2).frozen 0; clear hb2))
    exact fin_cell HR2.out HB2.out rfl rfl rfl
set_option maxHeartbeats 1000000 in
theorem scans_no (a b : Int) (A C : Option Addr) (n c m cc : Nat) (f : Nat → Nat → Int) (st : Int) (hn : n ≤ 100) (hm : m ≤ 20) (w : World) (hR : RdS w A n 2 f) (h0 : faultV a b n f ≠ 0) : Calls Try.prog 6 #[.int .i64 a, .int .i64 b, .slice A n c, .slice C m cc, .int .u8 st] w fun e w' => e = .returned (.bool true) ∧ Below w.heap.size w w' := by
  have HW0 := Lib.hid (show Below w.heap.size w ((w.alloc (.cells #[.int .u8 st] 5)).alloc (.cells #[.bool false] 4)) from ((Below.refl _ _).alloc (Nat.le_refl _) _).alloc (by simp) _)
  have HR0 : Hid (Blk ((w.alloc (.cells #[.int .u8 st] 5)).alloc (.cells #[.bool false] 4)) (w.heap.size + 1) 4 #[.bool false]) := Lib.hid (Blk.nw (by simp))
  have HS0 : Hid (Blk ((w.alloc (.cells #[.int .u8 st] 5)).alloc (.cells #[.bool false] 4)) w.heap.size 5 #[.int .u8 st]) := Lib.hid ((Blk.new _ _ _).alloc _)
  have hg2 : decide ((100 : Int) < (n : Int)) = false := by simp; omega
  have hg3 : decide ((20 : Int) < (m : Int)) = false := by simp; omega
  obtain ⟨q, hq⟩ : ∃ q, q = faultV a b n f := ⟨_, rfl⟩
  have q0 : (q != 0) = true := by rw [hq]; simpa using h0
  have HR := Lib.hid hR; have H0 := Lib.hid h0; have HQ := Lib.hid hq
  clear hR h0 hq
  go_enter Try.func6, Try.ntmps6
  go_wp2_with (first | (go_at_call 7; refine (awake_walk _).mono ?_; rintro e w1 ⟨rfl, hb1⟩; have HB1 := Lib.hid (HW0.out.trans (hb1.mono (by simp; omega))); have HR1 := Lib.hid (HR0.out.bel hb1); have HS1 := Lib.hid (HS0.out.bel hb1); clear hb1) | (go_at_call 9; refine (parts_walk A n c f w1 (by omega) (HR.out.bel HB1.out)).mono ?_; intro e w2 hp; obtain ⟨v2, rfl, hO2, hb2⟩ := hp.out; obtain ⟨A2, c2, rfl, _, hR2⟩ := hO2.form; have HO2 := Lib.hid hR2; have HB2 := Lib.hid (HB1.out.trans (hb2.mono HB1.out.size)); have HR2 := Lib.hid (HR1.out.bel hb2); have HS2 := Lib.hid (HS1.out.bel hb2); clear hp hO2 hb2 hR2) | (go_at_call 8; refine (new_walk a b A2 n c2 f w2 (by omega) HO2.out).mono ?_; intro e w3 hp; obtain ⟨rfl, hb3⟩ := NewPost.no hp H0.out; rw [← HQ.out]; have HB3 := Lib.hid (HB2.out.trans (hb3.mono HB2.out.size)); have HR3 := Lib.hid (HR2.out.bel hb3); have HS3 := Lib.hid (HS2.out.bel hb3); clear hp hb3) | (go_at_call 17; refine (count_nil w3 C m cc).mono ?_; rintro e w4 ⟨rfl, hb4⟩; have HB4 := Lib.hid (HB3.out.trans (hb4.mono HB3.out.size)); have HR4 := Lib.hid (HR3.out.bel hb4); have c10 : w4.cell? ⟨w.heap.size + 1, 0, none⟩ = some (.bool false) := (HR3.out.bel hb4).cell 0; have z10 : w4.frozen? ⟨w.heap.size + 1, 0, none⟩ = false := (HR3.out.bel hb4).frozen 0; clear hb4))
  exact fin_cell HR4.out HB4.out rfl rfl rfl
set_option maxHeartbeats 1000000 in
theorem scans_big (a b : Int) (A C : Option Addr) (n c m cc : Nat) (f : Nat → Nat → Int) (st : Int) (hn : n ≤ 100) (hm : m ≤ 20) (w : World) (hR : RdS w A n 2 f) (h0 : faultV a b n f = 0) (h6 : 600 < sumU (gridU a b (pF n f) n) n) : Calls Try.prog 6 #[.int .i64 a, .int .i64 b, .slice A n c, .slice C m cc, .int .u8 st] w fun e w' => e = .returned (.bool true) ∧ Below w.heap.size w w' := by
  have HW0 := Lib.hid (show Below w.heap.size w ((w.alloc (.cells #[.int .u8 st] 5)).alloc (.cells #[.bool false] 4)) from ((Below.refl _ _).alloc (Nat.le_refl _) _).alloc (by simp) _)
  have HR0 : Hid (Blk ((w.alloc (.cells #[.int .u8 st] 5)).alloc (.cells #[.bool false] 4)) (w.heap.size + 1) 4 #[.bool false]) := Lib.hid (Blk.nw (by simp))
  have HS0 : Hid (Blk ((w.alloc (.cells #[.int .u8 st] 5)).alloc (.cells #[.bool false] 4)) w.heap.size 5 #[.int .u8 st]) := Lib.hid ((Blk.new _ _ _).alloc _)
  have hg2 : decide ((100 : Int) < (n : Int)) = false := by simp; omega
  have hg3 : decide ((20 : Int) < (m : Int)) = false := by simp; omega
  have HR := Lib.hid hR; have H0 := Lib.hid h0; have H6 := Lib.hid h6
  clear hR h0 h6
  go_enter Try.func6, Try.ntmps6
  go_wp2_with (first | (go_at_call 7; refine (awake_walk _).mono ?_; rintro e w1 ⟨rfl, hb1⟩; have HB1 := Lib.hid (HW0.out.trans (hb1.mono (by simp; omega))); have HR1 := Lib.hid (HR0.out.bel hb1); have HS1 := Lib.hid (HS0.out.bel hb1); clear hb1) | (go_at_call 9; refine (parts_walk A n c f w1 (by omega) (HR.out.bel HB1.out)).mono ?_; intro e w2 hp; obtain ⟨v2, rfl, hO2, hb2⟩ := hp.out; obtain ⟨A2, c2, rfl, _, hR2⟩ := hO2.form; have HO2 := Lib.hid hR2; have HB2 := Lib.hid (HB1.out.trans (hb2.mono HB1.out.size)); have HR2 := Lib.hid (HR1.out.bel hb2); have HS2 := Lib.hid (HS1.out.bel hb2); clear hp hO2 hb2 hR2) | (go_at_call 8; refine (new_walk a b A2 n c2 f w2 (by omega) HO2.out).mono ?_; intro e w3 hp; obtain ⟨G, pv, gs, p, gr, ac, dn, uw, uh, tot, iu, rfl, hI, hb3, hp', hg', hac, hdn, huw, huh, htot, hG⟩ := (NewPost.letters hp H0.out).out; have HOF := Lib.hid (owns_fact H0.out hp' hg' hac hdn huw huh); have HEQ := Lib.hid (And.intro hp' (And.intro hg' (And.intro hac (And.intro hdn (And.intro huw huh))))); have HTOT := Lib.hid htot; have HI := Lib.hid hI; have HB3 := Lib.hid (HB2.out.trans (hb3.mono HB2.out.size)); have HR3 := Lib.hid (HR2.out.bel hb3); have HS3 := Lib.hid (HS2.out.bel hb3); clear hp hb3 hI hp' hg' hac hdn huw huh htot) | (go_at_call 14; refine (blocks_walk w3 G _ _ _ _ _ _ _ _ HI.out.fr).mono ?_; rintro e w' ⟨rfl, hw'⟩; rw [hw']; clear hw'; have d6 : decide (600 < tot) = true := (by have h6 := H6.out; have e1 := HTOT.out; have e2 := HEQ.out.1; have e3 := HEQ.out.2.1; rw [e1, e3, e2]; simpa using h6); have c10 : w3.cell? ⟨w.heap.size + 1, 0, none⟩ = some (.bool false) := HR3.out.cell 0; have z10 : w3.frozen? ⟨w.heap.size + 1, 0, none⟩ = false := HR3.out.frozen 0))
  exact fin_cell HR3.out HB3.out rfl rfl rfl
set_option maxHeartbeats 2000000 in
theorem scans_still (a b : Int) (A C : Option Addr) (n c m cc : Nat) (f : Nat → Nat → Int) (fc : Nat → Int) (st : Int) (hn : n ≤ 100) (hm : m ≤ 20) (w : World) (hR : RdS w A n 2 f) (hC : RdZ w C m fc) (h0 : faultV a b n f = 0) (h6 : ¬ 600 < sumU (gridU a b (pF n f) n) n) (hno : risesB n m fc = false) : Calls Try.prog 6 #[.int .i64 a, .int .i64 b, .slice A n c, .slice C m cc, .int .u8 st] w fun e w' => e = .returned (.bool true) ∧ Below w.heap.size w w' := by
  have HW0 := Lib.hid (show Below w.heap.size w ((w.alloc (.cells #[.int .u8 st] 5)).alloc (.cells #[.bool false] 4)) from ((Below.refl _ _).alloc (Nat.le_refl _) _).alloc (by simp) _)
  have HR0 : Hid (Blk ((w.alloc (.cells #[.int .u8 st] 5)).alloc (.cells #[.bool false] 4)) (w.heap.size + 1) 4 #[.bool false]) := Lib.hid (Blk.nw (by simp))
  have HS0 : Hid (Blk ((w.alloc (.cells #[.int .u8 st] 5)).alloc (.cells #[.bool false] 4)) w.heap.size 5 #[.int .u8 st]) := Lib.hid ((Blk.new _ _ _).alloc _)
  have hg2 : decide ((100 : Int) < (n : Int)) = false := by simp; omega
  have hg3 : decide ((20 : Int) < (m : Int)) = false := by simp; omega
  have HR := Lib.hid hR; have H0 := Lib.hid h0; have H6 := Lib.hid h6; have HC := Lib.hid hC; have HNO := Lib.hid hno
  clear hR h0 h6 hC hno
  go_enter Try.func6, Try.ntmps6
  go_wp2_with (first | (go_at_call 7; refine (awake_walk _).mono ?_; rintro e w1 ⟨rfl, hb1⟩; have HB1 := Lib.hid (HW0.out.trans (hb1.mono (by simp; omega))); have HR1 := Lib.hid (HR0.out.bel hb1); have HS1 := Lib.hid (HS0.out.bel hb1); clear hb1) | (go_at_call 9; refine (parts_walk A n c f w1 (by omega) (HR.out.bel HB1.out)).mono ?_; intro e w2 hp; obtain ⟨v2, rfl, hO2, hb2⟩ := hp.out; obtain ⟨A2, c2, rfl, _, hR2⟩ := hO2.form; have HO2 := Lib.hid hR2; have HB2 := Lib.hid (HB1.out.trans (hb2.mono HB1.out.size)); have HR2 := Lib.hid (HR1.out.bel hb2); have HS2 := Lib.hid (HS1.out.bel hb2); clear hp hO2 hb2 hR2) | (go_at_call 8; refine (new_walk a b A2 n c2 f w2 (by omega) HO2.out).mono ?_; intro e w3 hp; obtain ⟨G, pv, gs, p, gr, ac, dn, uw, uh, tot, iu, rfl, hI, hb3, hp', hg', hac, hdn, huw, huh, htot, hG⟩ := (NewPost.letters hp H0.out).out; have HOF := Lib.hid (owns_fact H0.out hp' hg' hac hdn huw huh); have HEQ := Lib.hid (And.intro hp' (And.intro hg' (And.intro hac (And.intro hdn (And.intro huw huh))))); have HTOT := Lib.hid htot; have HI := Lib.hid hI; have HB3 := Lib.hid (HB2.out.trans (hb3.mono HB2.out.size)); have HR3 := Lib.hid (HR2.out.bel hb3); have HS3 := Lib.hid (HS2.out.bel hb3); clear hp hb3 hI hp' hg' hac hdn huw huh htot) | (go_at_call 14; refine (blocks_walk w3 G _ _ _ _ _ _ _ _ HI.out.fr).mono ?_; rintro e w' ⟨rfl, hw'⟩; rw [hw']; clear hw'; have d6 : decide (600 < tot) = false := (by have h6 := H6.out; have e1 := HTOT.out; have e2 := HEQ.out.1; have e3 := HEQ.out.2.1; rw [e1, e3, e2]; simpa using h6)) | (go_at_call 13; refine (rnew_walk a b A n c f w3 (by omega) (HR.out.bel HB3.out)).mono ?_; intro e w5 hp; obtain ⟨pv2, gs2, rfl, hpo, hgo, hb5⟩ := (RefPost.get hp H0.out HEQ.out).out; obtain ⟨A5, c5, rfl, _, hR5⟩ := hgo.form; obtain ⟨A6, c6, rfl, _, hR6⟩ := hpo.form; have HB5 := Lib.hid (HB3.out.trans (hb5.mono HB3.out.size)); have HB6 := Lib.hid (HB5.out.alloc HB5.out.size (.cells #[.int .i64 uw, .int .i64 uh, .int .i64 ac, .int .i64 dn, .slice A6 n c6, .slice A5 n c5] 39)); have HM6 := Lib.hid (Blk.new w5 39 #[.int .i64 uw, .int .i64 uh, .int .i64 ac, .int .i64 dn, .slice A6 n c6, .slice A5 n c5]); have ha6 : Below w5.heap.size w5 (w5.alloc (.cells #[.int .i64 uw, .int .i64 uh, .int .i64 ac, .int .i64 dn, .slice A6 n c6, .slice A5 n c5] 39)) := (Below.refl _ _).alloc (Nat.le_refl _) _; have HI6 := Lib.hid ((HI.out.bel hb5).bel ha6); have HG6 := Lib.hid (hR5.bel ha6); have HP6 := Lib.hid (hR6.bel ha6); have HR6 := Lib.hid ((HR3.out.bel hb5).bel ha6); have HS6 := Lib.hid ((HS3.out.bel hb5).bel ha6); clear hp hb5 hgo hpo hR5 hR6 ha6) | (go_at_call 18; (have hrs := rscan_no _ uw uh ac dn (.slice A6 n c6) A5 C n c5 m cc fc (HC.out.bel HB6.out) (by omega) HNO.out); unfold rfC at hrs; refine hrs.mono ?_; clear hrs; rintro e w7 ⟨rfl, hb7⟩; have hl7 := ((Below.refl w7.heap.size w7).alloc (Nat.le_refl _) (.cells #[.slice none 0 0] 55)); have HB7 := Lib.hid ((HB6.out.trans (hb7.mono HB6.out.size)).alloc (HB6.out.trans (hb7.mono HB6.out.size)).size (.cells #[.slice none 0 0] 55)); have HI7 := Lib.hid ((HI6.out.bel hb7).bel hl7); have HM7 := Lib.hid ((HM6.out.bel hb7).bel hl7); have HR7 := Lib.hid ((HR6.out.bel hb7).bel hl7); have HT7 := Lib.hid (Blk.new w7 55 #[.slice none 0 0]); clear hb7 hl7) | (go_at_call 17; obtain ⟨A4, c4, rfl, _, hR4⟩ := HI7.out.go.form; refine (count_no _ G pv A4 C n c4 m cc fc _ _ _ _ _ _ HI7.out.fr (HC.out.bel HB7.out) (by omega) HNO.out).mono ?_; rintro e w8 ⟨rfl, hb8⟩; have HB8 := Lib.hid (HB7.out.trans (hb8.mono HB7.out.size)); have HM8 := Lib.hid (HM7.out.bel hb8); have HR8 := Lib.hid (HR7.out.bel hb8); have HT8 := Lib.hid (HT7.out.bel hb8); clear hb8) | (refine wpList_load_row rfl 39 (.tmp 15) rfl w5.heap.size rfl 39 _ (0, 0) _ HM8.out Try.underlying39 rfl (by kernel_rfl) ?_) | (go_at_call 19; (have hrw := rises_walk w8 uw uh ac dn (.slice A6 n c6) A5 C n c5 m cc fc (HC.out.bel HB8.out) (by omega)); rw [HNO.out] at hrw; unfold rfC at hrw; refine hrw.mono ?_; clear hrw; rintro e w9 ⟨rfl, hb9⟩; have HB9 := Lib.hid (HB8.out.trans (hb9.mono HB8.out.size)); have HR9 := Lib.hid (HR8.out.bel hb9); have c17 : w9.cell? ⟨w7.heap.size, 0, none⟩ = some (.slice none 0 0) := (HT8.out.bel hb9).cell 0; have c10 : w9.cell? ⟨w.heap.size + 1, 0, none⟩ = some (.bool false) := HR9.out.cell 0; have z10 : w9.frozen? ⟨w.heap.size + 1, 0, none⟩ = false := HR9.out.frozen 0; clear hb9))
  exact fin_cell HR9.out HB9.out rfl rfl rfl
end Go.Proofs.Ytjfnlgmllhjonaa
