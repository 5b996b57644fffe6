/- Units, grids and own parts of any sides and factors are the document's, or refused. No condition. -/
import Derived.Test.YtjfnlgmllhjonaaFrJ
import Derived.Test.YtjfnlgmllhjonaaFrK
import Derived.Test.YtjfnlgmllhjonaaInS
import Derived.ShutString
import Derived.ChangeOld
import Derived.SizedLaws
namespace Go.Proofs.Ytjfnlgmllhjonaa
open Go.RowKit
set_option linter.unusedSimpArgs false
set_option linter.unusedVariables false
theorem InS.rd {w : World} {A : Option Addr} {n q : Nat} {f : Nat → Nat → Int} (h : InS w A n q (fun _ => IntKind.i64) f) : RdS w A n q f := fun i hi => by
  obtain ⟨g, off, h1, h2, h3⟩ := h i hi
  exact ⟨g, off, h1, h2, fun j hj => (h3 j hj).1⟩
theorem rnew_walk (a b : Int) (A : Option Addr) (n c : Nat) (f : Nat → Nat → Int) (w : World) (hn : n ≤ 1000) (hR : RdS w A n 2 f) : Calls Try.prog 13 #[.int .i64 a, .int .i64 b, .slice A n c] w (RefPost w a b n f) := by
  by_cases h0 : rightV a b n f = 0
  · have h2 := right_zero h0
    by_cases h1 : n = 1
    · exact rnew_ok1 a b A n c f w hn hR h0 h1
    · exact rnew_okN a b A n c f w hn hR h0 (by omega)
  · have hf : faultV a b n f = rightV a b n f := by unfold faultV; rw [if_pos h0]
    exact (rnew_no a b A n c f w hn hR h0).mono fun e w' ⟨he, hb⟩ => RefPost.fail hf h0 he hb
theorem RefPost.no {w w' : World} {a b : Int} {n : Nat} {f : Nat → Nat → Int} {e : Ending} (h : RefPost w a b n f e w') (h0 : faultV a b n f ≠ 0) : e = .returned (.tuple #[.agg #[.int .i64 0, .int .i64 0, .int .i64 0, .int .i64 0, .slice none 0 0, .slice none 0 0], .int .i64 (faultV a b n f)]) ∧ Below w.heap.size w w' := by
  rcases h with ⟨h, _⟩ | ⟨_, h⟩
  · exact absurd h h0
  · exact h
theorem RefPost.get {w w' : World} {a b : Int} {n : Nat} {f p gr : Nat → Nat → Int} {ac dn uw uh : Int} {e : Ending} (h : RefPost w a b n f e w') (h0 : faultV a b n f = 0)
    (hE : p = pF n f ∧ gr = gridU a b p n ∧ ac = acU a p n 0 ∧ dn = acU b p n 1 ∧ uw = 8 * maxU p 0 n ∧ uh = 8 * maxU p 1 n) : Hid (RefYes w n p gr uw uh ac dn e w') := by
  obtain ⟨rfl, rfl, rfl, rfl, rfl, rfl⟩ := hE
  rcases h with ⟨_, h⟩ | ⟨h, _⟩
  · exact Lib.hid h
  · exact absurd h0 h
theorem makes_long (a b x : Int) (A : Option Addr) (n c : Nat) (hn : 100 < n) (w : World) : Calls Try.prog 4 #[.int .i64 a, .int .i64 b, .slice A n c, .int .i64 x] w fun e w' => e = .returned (.bool true) ∧ Below w.heap.size w w' := by
  have hg2 : decide ((100 : Int) < (n : Int)) = true := by simp; omega
  go_enter Try.func4, Try.ntmps4
  go_wp2_with fail
  refine (awake_walk _).mono ?_
  rintro e w1 ⟨rfl, hb1⟩
  have HB1 := Lib.hid hb1; clear hb1
  go_wp2_with fail
  refine (awake_walk _).mono ?_
  rintro e w2 ⟨rfl, hb2⟩
  have HB2 := Lib.hid (HB1.out.trans (hb2.mono HB1.out.size)); clear hb2
  go_wp2_with fail
  go_ret
  exact ⟨rfl, HB2.out⟩
set_option maxHeartbeats 0 in
set_option maxRecDepth 20000 in
theorem makes_no (a b x : Int) (A : Option Addr) (n c : Nat) (f : Nat → Nat → Int) (hn : n ≤ 100) (w : World) (hR : RdS w A n 2 f) (h0 : faultV a b n f ≠ 0) : Calls Try.prog 4 #[.int .i64 a, .int .i64 b, .slice A n c, .int .i64 x] w fun e w' => e = .returned (.bool true) ∧ Below w.heap.size w w' := by
  have hg2 : decide ((100 : Int) < (n : Int)) = false := by simp; omega
  obtain ⟨q, hq⟩ : ∃ q, q = faultV a b n f := ⟨_, rfl⟩
  have q0 : (q != 0) = true := by rw [hq]; simpa using h0
  have HR := Lib.hid hR; have H0 := Lib.hid h0; have HQ := Lib.hid hq
  clear hR h0 hq
  obtain ⟨t0, ht0⟩ : ∃ t0, decide (x < 0) = t0 := ⟨_, rfl⟩
  have ht1 : t0 = false → decide (0 ≤ x) = true := fun e => by subst e; simpa using ht0
  cases t0
  all_goals
  try have ht1 := ht1 rfl
  go_enter Try.func4, Try.ntmps4
  go_wp2_with (first | (go_at_call 7; refine (awake_walk _).mono ?_; rintro e w1 ⟨rfl, hb1⟩; have HB1 := Lib.hid hb1; clear hb1) | (go_at_call 9; refine (parts_walk A n c f w1 (by omega) (HR.out.bel HB1.out)).mono ?_; intro e w2 hp; obtain ⟨v2, rfl, hO2, hb2⟩ := hp.out; obtain ⟨A2, c2, rfl, _, hR2⟩ := hO2.form; have HR2 := Lib.hid hR2; have HB2 := Lib.hid (HB1.out.trans (hb2.mono HB1.out.size)); clear hp hO2 hb2 hR2) | (go_at_call 8; refine (new_walk a b A2 n c2 f w2 (by omega) HR2.out).mono ?_; intro e w3 hp; obtain ⟨rfl, hb3⟩ := NewPost.no hp H0.out; rw [← HQ.out]; have HB3 := Lib.hid (HB2.out.trans (hb3.mono HB2.out.size)); clear hp hb3) | (go_at_call 13; refine (rnew_walk a b A n c f w3 (by omega) (HR.out.bel HB3.out)).mono ?_; intro e w5 hp; obtain ⟨rfl, hb5⟩ := RefPost.no hp H0.out; rw [← HQ.out]; have HB5 := Lib.hid (HB3.out.trans (hb5.mono HB3.out.size)); have HB6 := Lib.hid (HB5.out.alloc HB5.out.size (.cells #[.int .i64 0, .int .i64 0, .int .i64 0, .int .i64 0, .slice none 0 0, .slice none 0 0] 39)); have HM6 := Lib.hid (Blk.new w5 39 #[.int .i64 0, .int .i64 0, .int .i64 0, .int .i64 0, .slice none 0 0, .slice none 0 0]); clear hp hb5) | (go_at_call 10; refine (units_nil _).mono ?_; rintro e w' ⟨rfl, rfl⟩) | (go_at_call 11; refine (unit_nil _).mono ?_; rintro e w' ⟨rfl, rfl⟩))
  refine region_plan (.run [0, 1, 2, 3, 4, 5, 6, 7, 8, 9, 10, 11, 12, 13, 14, 15, 16, 17, 18, 19, 20, 21, 22, 23, 24, 25, 26, 27, 28, 29, 30, 31, 32, 33, 34, 35] (.held 36 (.held 37 (.ev 38 (.run [39, 40] .fin))))) (fun w' => w'.cell? ⟨w5.heap.size, 0, none⟩ = some (.int .i64 0) ∧ w'.cell? ⟨w5.heap.size, 1, none⟩ = some (.int .i64 0) ∧ w'.cell? ⟨w5.heap.size, 2, none⟩ = some (.int .i64 0) ∧ w'.cell? ⟨w5.heap.size, 3, none⟩ = some (.int .i64 0) ∧ w'.cell? ⟨w5.heap.size, 4, none⟩ = some (.slice none 0 0) ∧ w'.cell? ⟨w5.heap.size, 5, none⟩ = some (.slice none 0 0)) (by kernel_rfl) ⟨HM6.out.cell 0, HM6.out.cell 1, HM6.out.cell 2, HM6.out.cell 3, HM6.out.cell 4, HM6.out.cell 5⟩ ?_
  intro wd hwd
  have HM9 := Lib.hid (HM6.out.drewE hwd)
  have HB9 := Lib.hid (belowD HB6.out hwd)
  have y0 : wd.cell? ⟨w5.heap.size, 0, none⟩ = some (.int .i64 0) := HM9.out.cell 0
  have y1 : wd.cell? ⟨w5.heap.size, 1, none⟩ = some (.int .i64 0) := HM9.out.cell 1
  have y2 : wd.cell? ⟨w5.heap.size, 2, none⟩ = some (.int .i64 0) := HM9.out.cell 2
  have y3 : wd.cell? ⟨w5.heap.size, 3, none⟩ = some (.int .i64 0) := HM9.out.cell 3
  have y4 : wd.cell? ⟨w5.heap.size, 4, none⟩ = some (.slice none 0 0) := HM9.out.cell 4
  have y5 : wd.cell? ⟨w5.heap.size, 5, none⟩ = some (.slice none 0 0) := HM9.out.cell 5
  clear hwd
  refine plan_run fun m hm => ?_
  simp only [pickO, List.filterMap_cons, List.filterMap_nil, List.getElem?_toArray, List.getElem?_cons_zero, List.getElem?_cons_succ] at hm
  subst hm
  go_wp2_with fail
  refine ⟨rfl, by rfl, ?_⟩
  refine plan_pure (v := .int .i64 0) #[.pointer none] rfl (by rfl) Try.func14 (by kernel_rfl) rfl rfl (by simp only [List.map_toArray, List.map_cons, List.map_nil]; rfl) (fun w' hS => blocks_nil w') ?_
  try simp only [Act.put, List.setIfInBounds_toArray, List.set_cons_zero, List.set_cons_succ]
  refine plan_held (o := ⟨some 90, _, _, _, _, _⟩) (v := .agg #[.int .i64 0, .int .i64 0, .int .i64 0, .int .i64 0, .slice none 0 0, .slice none 0 0]) rfl (by rfl) (fun w' hS => ?_) ?_
  · obtain ⟨hS1, hS2, hS3, hS4, hS5, hS6⟩ := hS; go_simp
  try simp only [Act.put, List.setIfInBounds_toArray, List.set_cons_zero, List.set_cons_succ]
  refine plan_ev fun m hm => ?_
  simp only [pickO, List.filterMap_cons, List.filterMap_nil, List.getElem?_toArray, List.getElem?_cons_zero, List.getElem?_cons_succ] at hm
  subst hm
  go_wp2_with (first | (go_at_call 15; refine (rblocks_walk 0 0 0 0 (.slice none 0 0) none 0 0 (fun _ _ => 0) wd (by omega) (fun i hi => by omega) (fun i hi => by omega)).mono ?_; rintro e w10 ⟨rfl, hb10⟩; have HM10 := Lib.hid (HM9.out.bel hb10); have HB10 := Lib.hid (HB9.out.trans (hb10.mono HB9.out.size)); clear hb10))
  refine ⟨rfl, ⟨HM10.out.cell 0, HM10.out.cell 1, HM10.out.cell 2, HM10.out.cell 3, HM10.out.cell 4, HM10.out.cell 5⟩, ?_⟩
  try simp only [Act.put, List.setIfInBounds_toArray, List.set_cons_zero, List.set_cons_succ]
  refine plan_run fun m hm => ?_
  simp only [pickO, List.filterMap_cons, List.filterMap_nil, List.getElem?_toArray, List.getElem?_cons_zero, List.getElem?_cons_succ] at hm
  subst hm
  go_wp2_with fail
  refine ⟨rfl, by rfl, ?_⟩
  refine plan_fin ?_
  have y5' : w10.cell? ⟨w5.heap.size, 5, none⟩ = some (.slice none 0 0) := HM10.out.cell 5
  go_wp2_with (first | (go_at_call 12; refine (grid_nil _ _).mono ?_; rintro e w11 ⟨rfl, hb11⟩; have y5b : w11.cell? ⟨w5.heap.size, 5, none⟩ = some (.slice none 0 0) := (HM10.out.bel hb11).cell 5; have hl5 : w5.heap.size < w11.heap.size := (HM10.out.bel hb11).lt; have HB11 := Lib.hid (HB10.out.trans (hb11.mono HB10.out.size)); clear hb11))
  go_ret
  exact ⟨rfl, HB11.out.alloc HB11.out.size _⟩
set_option maxHeartbeats 0 in
set_option maxRecDepth 20000 in
theorem makes_neg (a b x : Int) (A : Option Addr) (n c : Nat) (f : Nat → Nat → Int) (hn : n ≤ 100) (w : World) (hR : RdS w A n 2 f) (h0 : faultV a b n f = 0) (hx : x < 0) : Calls Try.prog 4 #[.int .i64 a, .int .i64 b, .slice A n c, .int .i64 x] w fun e w' => e = .returned (.bool true) ∧ Below w.heap.size w w' := by
  have hg2 : decide ((100 : Int) < (n : Int)) = false := by simp; omega
  have HR := Lib.hid hR; have H0 := Lib.hid h0
  clear hR h0
  have HX : Hid (x < 0 ∨ (n : Int) ≤ x) := Lib.hid (Or.inl hx)
  have d0 : decide (x < 0) = true := by simpa using hx
  go_enter Try.func4, Try.ntmps4
  go_wp2_with (first | (go_at_call 7; refine (awake_walk _).mono ?_; rintro e w1 ⟨rfl, hb1⟩; have HB1 := Lib.hid hb1; clear hb1) | (go_at_call 9; refine (parts_walk A n c f w1 (by omega) (HR.out.bel HB1.out)).mono ?_; intro e w2 hp; obtain ⟨v2, rfl, hO2, hb2⟩ := hp.out; obtain ⟨A2, c2, rfl, _, hR2⟩ := hO2.form; have HR2 := Lib.hid hR2; have HB2 := Lib.hid (HB1.out.trans (hb2.mono HB1.out.size)); clear hp hO2 hb2 hR2) | (go_at_call 8; refine (new_walk a b A2 n c2 f w2 (by omega) HR2.out).mono ?_; intro e w3 hp; obtain ⟨G, pv, gs, p, gr, ac, dn, uw, uh, tot, iu, rfl, hI, hb3, hp', hg', hac, hdn, huw, huh, htot, hG⟩ := (NewPost.letters hp H0.out).out; have HOF := Lib.hid (owns_fact H0.out hp' hg' hac hdn huw huh); have HEQ := Lib.hid (And.intro hp' (And.intro hg' (And.intro hac (And.intro hdn (And.intro huw huh))))); have HTOT := Lib.hid htot; have HI := Lib.hid hI; have HB3 := Lib.hid (HB2.out.trans (hb3.mono HB2.out.size)); clear hp hb3 hI hp' hg' hac hdn huw huh htot) | (go_at_call 13; refine (rnew_walk a b A n c f w3 (by omega) (HR.out.bel HB3.out)).mono ?_; intro e w5 hp; obtain ⟨pv2, gs2, rfl, hpo, hgo, hb5⟩ := (RefPost.get hp H0.out HEQ.out).out; obtain ⟨A5, c5, rfl, _, hR5⟩ := hgo.form; obtain ⟨A6, c6, rfl, _, _⟩ := hpo.form; have HB5 := Lib.hid (HB3.out.trans (hb5.mono HB3.out.size)); have HB6 := Lib.hid (HB5.out.alloc HB5.out.size (.cells #[.int .i64 uw, .int .i64 uh, .int .i64 ac, .int .i64 dn, .slice A6 n c6, .slice A5 n c5] 39)); have HM6 := Lib.hid (Blk.new w5 39 #[.int .i64 uw, .int .i64 uh, .int .i64 ac, .int .i64 dn, .slice A6 n c6, .slice A5 n c5]); have ha6 : Below w5.heap.size w5 (w5.alloc (.cells #[.int .i64 uw, .int .i64 uh, .int .i64 ac, .int .i64 dn, .slice A6 n c6, .slice A5 n c5] 39)) := (Below.refl _ _).alloc (Nat.le_refl _) _; have HI6 := Lib.hid ((HI.out.bel hb5).bel ha6); have HR6 := Lib.hid (hR5.bel ha6); clear hp hb5 hgo hpo hR5 ha6))
  have HGB : Hid (∀ i, i < n → 0 ≤ gr i 0 ∧ gr i 0 ≤ 65536 ∧ 0 ≤ gr i 1 ∧ gr i 1 ≤ 65536) := Lib.hid fun i hi => by
    have := HOF.out.2.2 i hi
    omega
  go_wp2_with (first | (go_at_call 10; refine (units_walk _ G _ _ _ _ _ _ _ _ HI6.out.fr).mono ?_; rintro e w7 ⟨rfl, hb7⟩; have HI7 := Lib.hid (HI6.out.bel hb7); have HM7 := Lib.hid (HM6.out.bel hb7); have HR7 := Lib.hid (HR6.out.bel hb7); have HB7 := Lib.hid (HB6.out.trans (hb7.mono HB6.out.size)); clear hb7) | (go_at_call 11; refine (unit_walk _ G _ _ _ _ _ _ _ _ HI7.out.fr).mono ?_; rintro e w8 ⟨rfl, hb8⟩; have HI8 := Lib.hid (HI7.out.bel hb8); have HM8 := Lib.hid (HM7.out.bel hb8); have HR8 := Lib.hid (HR7.out.bel hb8); have HB8 := Lib.hid (HB7.out.trans (hb8.mono HB7.out.size)); clear hb8))
  refine region_plan (.run [0, 1, 2, 3, 4, 5, 6, 7, 8, 9, 10, 11, 12, 13, 14, 15, 16, 17, 18, 19, 20, 21, 22, 23, 24, 25, 26, 27, 28, 29, 30, 31, 32, 33, 34, 35] (.held 36 (.held 37 (.ev 38 (.run [39, 40] .fin))))) (fun w' => w'.cell? ⟨w5.heap.size, 0, none⟩ = some (.int .i64 uw) ∧ w'.cell? ⟨w5.heap.size, 1, none⟩ = some (.int .i64 uh) ∧ w'.cell? ⟨w5.heap.size, 2, none⟩ = some (.int .i64 ac) ∧ w'.cell? ⟨w5.heap.size, 3, none⟩ = some (.int .i64 dn) ∧ w'.cell? ⟨w5.heap.size, 4, none⟩ = some (.slice A6 n c6) ∧ w'.cell? ⟨w5.heap.size, 5, none⟩ = some (.slice A5 n c5) ∧ Blk w' G 67 (frC pv gs ac dn uw uh tot iu)) (by kernel_rfl) ⟨HM8.out.cell 0, HM8.out.cell 1, HM8.out.cell 2, HM8.out.cell 3, HM8.out.cell 4, HM8.out.cell 5, HI8.out.fr⟩ ?_
  intro wd hwd
  have HI9 := Lib.hid (HI8.out.drewE hwd)
  have HR9 := Lib.hid (HR8.out.drewE hwd)
  have HM9 := Lib.hid (HM8.out.drewE hwd)
  have HB9 := Lib.hid (belowD HB8.out hwd)
  have y0 : wd.cell? ⟨w5.heap.size, 0, none⟩ = some (.int .i64 uw) := HM9.out.cell 0
  have y1 : wd.cell? ⟨w5.heap.size, 1, none⟩ = some (.int .i64 uh) := HM9.out.cell 1
  have y2 : wd.cell? ⟨w5.heap.size, 2, none⟩ = some (.int .i64 ac) := HM9.out.cell 2
  have y3 : wd.cell? ⟨w5.heap.size, 3, none⟩ = some (.int .i64 dn) := HM9.out.cell 3
  have y4 : wd.cell? ⟨w5.heap.size, 4, none⟩ = some (.slice A6 n c6) := HM9.out.cell 4
  have y5 : wd.cell? ⟨w5.heap.size, 5, none⟩ = some (.slice A5 n c5) := HM9.out.cell 5
  clear hwd
  refine plan_run fun m hm => ?_
  simp only [pickO, List.filterMap_cons, List.filterMap_nil, List.getElem?_toArray, List.getElem?_cons_zero, List.getElem?_cons_succ] at hm
  subst hm
  go_wp2_with fail
  refine ⟨rfl, by rfl, ?_⟩
  refine plan_pure (v := .int .i64 tot) #[.pointer (some ⟨G, 0, none⟩)] rfl (by rfl) Try.func14 (by kernel_rfl) rfl rfl (by simp only [List.map_toArray, List.map_cons, List.map_nil]; rfl) (fun w' hS => blocks_walk w' G _ _ _ _ _ _ _ _ hS.2.2.2.2.2.2) ?_
  try simp only [Act.put, List.setIfInBounds_toArray, List.set_cons_zero, List.set_cons_succ]
  refine plan_held (o := ⟨some 90, _, _, _, _, _⟩) (v := .agg #[.int .i64 uw, .int .i64 uh, .int .i64 ac, .int .i64 dn, .slice A6 n c6, .slice A5 n c5]) rfl (by rfl) (fun w' hS => ?_) ?_
  · obtain ⟨hS1, hS2, hS3, hS4, hS5, hS6, _⟩ := hS; go_simp
  try simp only [Act.put, List.setIfInBounds_toArray, List.set_cons_zero, List.set_cons_succ]
  refine plan_ev fun m hm => ?_
  simp only [pickO, List.filterMap_cons, List.filterMap_nil, List.getElem?_toArray, List.getElem?_cons_zero, List.getElem?_cons_succ] at hm
  subst hm
  have hrb := rblocks_walk uw uh ac dn (.slice A6 n c6) A5 n c5 gr wd (by omega) HR9.out HGB.out
  unfold rfC at hrb
  rw [← HTOT.out] at hrb
  have HRB := Lib.hid hrb
  clear hrb
  go_wp2_with (first | (go_at_call 15; refine HRB.out.mono ?_; rintro e w10 ⟨rfl, hb10⟩; have HM10 := Lib.hid (HM9.out.bel hb10); have HI10 := Lib.hid (HI9.out.bel hb10); have HR10 := Lib.hid (HR9.out.bel hb10); have HB10 := Lib.hid (HB9.out.trans (hb10.mono HB9.out.size)); clear hb10))
  refine ⟨rfl, ⟨HM10.out.cell 0, HM10.out.cell 1, HM10.out.cell 2, HM10.out.cell 3, HM10.out.cell 4, HM10.out.cell 5, HI10.out.fr⟩, ?_⟩
  try simp only [Act.put, List.setIfInBounds_toArray, List.set_cons_zero, List.set_cons_succ]
  refine plan_run fun m hm => ?_
  simp only [pickO, List.filterMap_cons, List.filterMap_nil, List.getElem?_toArray, List.getElem?_cons_zero, List.getElem?_cons_succ] at hm
  subst hm
  go_wp2_with fail
  refine ⟨rfl, by rfl, ?_⟩
  refine plan_fin ?_
  obtain ⟨A4, c4, rfl, _, _⟩ := HI10.out.go.form
  go_wp2_with (first | (go_at_call 12; refine (grid_no w10 G pv A4 n c4 _ _ _ _ _ _ HI10.out.fr x HX.out).mono ?_; rintro e w11 ⟨rfl, hb11⟩; have y5b : w11.cell? ⟨w5.heap.size, 5, none⟩ = some (.slice A5 n c5) := (HM10.out.bel hb11).cell 5; have hl5 : w5.heap.size < w11.heap.size := (HM10.out.bel hb11).lt; have HB11 := Lib.hid (HB10.out.trans (hb11.mono HB10.out.size)); clear hb11))
  go_ret
  exact ⟨rfl, HB11.out.alloc HB11.out.size _⟩
set_option maxHeartbeats 0 in
set_option maxRecDepth 20000 in
theorem makes_big (a b x : Int) (A : Option Addr) (n c : Nat) (f : Nat → Nat → Int) (hn : n ≤ 100) (w : World) (hR : RdS w A n 2 f) (h0 : faultV a b n f = 0) (hx : (n : Int) ≤ x) : Calls Try.prog 4 #[.int .i64 a, .int .i64 b, .slice A n c, .int .i64 x] w fun e w' => e = .returned (.bool true) ∧ Below w.heap.size w w' := by
  have hg2 : decide ((100 : Int) < (n : Int)) = false := by simp; omega
  have HR := Lib.hid hR; have H0 := Lib.hid h0
  clear hR h0
  have HX : Hid (x < 0 ∨ (n : Int) ≤ x) := Lib.hid (Or.inr hx)
  have d0 : decide (x < 0) = false := by simp; omega
  have d1 : decide ((n : Int) ≤ x) = true := by simpa using hx
  go_enter Try.func4, Try.ntmps4
  go_wp2_with (first | (go_at_call 7; refine (awake_walk _).mono ?_; rintro e w1 ⟨rfl, hb1⟩; have HB1 := Lib.hid hb1; clear hb1) | (go_at_call 9; refine (parts_walk A n c f w1 (by omega) (HR.out.bel HB1.out)).mono ?_; intro e w2 hp; obtain ⟨v2, rfl, hO2, hb2⟩ := hp.out; obtain ⟨A2, c2, rfl, _, hR2⟩ := hO2.form; have HR2 := Lib.hid hR2; have HB2 := Lib.hid (HB1.out.trans (hb2.mono HB1.out.size)); clear hp hO2 hb2 hR2) | (go_at_call 8; refine (new_walk a b A2 n c2 f w2 (by omega) HR2.out).mono ?_; intro e w3 hp; obtain ⟨G, pv, gs, p, gr, ac, dn, uw, uh, tot, iu, rfl, hI, hb3, hp', hg', hac, hdn, huw, huh, htot, hG⟩ := (NewPost.letters hp H0.out).out; have HOF := Lib.hid (owns_fact H0.out hp' hg' hac hdn huw huh); have HEQ := Lib.hid (And.intro hp' (And.intro hg' (And.intro hac (And.intro hdn (And.intro huw huh))))); have HTOT := Lib.hid htot; have HI := Lib.hid hI; have HB3 := Lib.hid (HB2.out.trans (hb3.mono HB2.out.size)); clear hp hb3 hI hp' hg' hac hdn huw huh htot) | (go_at_call 13; refine (rnew_walk a b A n c f w3 (by omega) (HR.out.bel HB3.out)).mono ?_; intro e w5 hp; obtain ⟨pv2, gs2, rfl, hpo, hgo, hb5⟩ := (RefPost.get hp H0.out HEQ.out).out; obtain ⟨A5, c5, rfl, _, hR5⟩ := hgo.form; obtain ⟨A6, c6, rfl, _, _⟩ := hpo.form; have HB5 := Lib.hid (HB3.out.trans (hb5.mono HB3.out.size)); have HB6 := Lib.hid (HB5.out.alloc HB5.out.size (.cells #[.int .i64 uw, .int .i64 uh, .int .i64 ac, .int .i64 dn, .slice A6 n c6, .slice A5 n c5] 39)); have HM6 := Lib.hid (Blk.new w5 39 #[.int .i64 uw, .int .i64 uh, .int .i64 ac, .int .i64 dn, .slice A6 n c6, .slice A5 n c5]); have ha6 : Below w5.heap.size w5 (w5.alloc (.cells #[.int .i64 uw, .int .i64 uh, .int .i64 ac, .int .i64 dn, .slice A6 n c6, .slice A5 n c5] 39)) := (Below.refl _ _).alloc (Nat.le_refl _) _; have HI6 := Lib.hid ((HI.out.bel hb5).bel ha6); have HR6 := Lib.hid (hR5.bel ha6); clear hp hb5 hgo hpo hR5 ha6))
  have HGB : Hid (∀ i, i < n → 0 ≤ gr i 0 ∧ gr i 0 ≤ 65536 ∧ 0 ≤ gr i 1 ∧ gr i 1 ≤ 65536) := Lib.hid fun i hi => by
    have := HOF.out.2.2 i hi
    omega
  go_wp2_with (first | (go_at_call 10; refine (units_walk _ G _ _ _ _ _ _ _ _ HI6.out.fr).mono ?_; rintro e w7 ⟨rfl, hb7⟩; have HI7 := Lib.hid (HI6.out.bel hb7); have HM7 := Lib.hid (HM6.out.bel hb7); have HR7 := Lib.hid (HR6.out.bel hb7); have HB7 := Lib.hid (HB6.out.trans (hb7.mono HB6.out.size)); clear hb7) | (go_at_call 11; refine (unit_walk _ G _ _ _ _ _ _ _ _ HI7.out.fr).mono ?_; rintro e w8 ⟨rfl, hb8⟩; have HI8 := Lib.hid (HI7.out.bel hb8); have HM8 := Lib.hid (HM7.out.bel hb8); have HR8 := Lib.hid (HR7.out.bel hb8); have HB8 := Lib.hid (HB7.out.trans (hb8.mono HB7.out.size)); clear hb8))
  refine region_plan (.run [0, 1, 2, 3, 4, 5, 6, 7, 8, 9, 10, 11, 12, 13, 14, 15, 16, 17, 18, 19, 20, 21, 22, 23, 24, 25, 26, 27, 28, 29, 30, 31, 32, 33, 34, 35] (.held 36 (.held 37 (.ev 38 (.run [39, 40] .fin))))) (fun w' => w'.cell? ⟨w5.heap.size, 0, none⟩ = some (.int .i64 uw) ∧ w'.cell? ⟨w5.heap.size, 1, none⟩ = some (.int .i64 uh) ∧ w'.cell? ⟨w5.heap.size, 2, none⟩ = some (.int .i64 ac) ∧ w'.cell? ⟨w5.heap.size, 3, none⟩ = some (.int .i64 dn) ∧ w'.cell? ⟨w5.heap.size, 4, none⟩ = some (.slice A6 n c6) ∧ w'.cell? ⟨w5.heap.size, 5, none⟩ = some (.slice A5 n c5) ∧ Blk w' G 67 (frC pv gs ac dn uw uh tot iu)) (by kernel_rfl) ⟨HM8.out.cell 0, HM8.out.cell 1, HM8.out.cell 2, HM8.out.cell 3, HM8.out.cell 4, HM8.out.cell 5, HI8.out.fr⟩ ?_
  intro wd hwd
  have HI9 := Lib.hid (HI8.out.drewE hwd)
  have HR9 := Lib.hid (HR8.out.drewE hwd)
  have HM9 := Lib.hid (HM8.out.drewE hwd)
  have HB9 := Lib.hid (belowD HB8.out hwd)
  have y0 : wd.cell? ⟨w5.heap.size, 0, none⟩ = some (.int .i64 uw) := HM9.out.cell 0
  have y1 : wd.cell? ⟨w5.heap.size, 1, none⟩ = some (.int .i64 uh) := HM9.out.cell 1
  have y2 : wd.cell? ⟨w5.heap.size, 2, none⟩ = some (.int .i64 ac) := HM9.out.cell 2
  have y3 : wd.cell? ⟨w5.heap.size, 3, none⟩ = some (.int .i64 dn) := HM9.out.cell 3
  have y4 : wd.cell? ⟨w5.heap.size, 4, none⟩ = some (.slice A6 n c6) := HM9.out.cell 4
  have y5 : wd.cell? ⟨w5.heap.size, 5, none⟩ = some (.slice A5 n c5) := HM9.out.cell 5
  clear hwd
  refine plan_run fun m hm => ?_
  simp only [pickO, List.filterMap_cons, List.filterMap_nil, List.getElem?_toArray, List.getElem?_cons_zero, List.getElem?_cons_succ] at hm
  subst hm
  go_wp2_with fail
  refine ⟨rfl, by rfl, ?_⟩
  refine plan_pure (v := .int .i64 tot) #[.pointer (some ⟨G, 0, none⟩)] rfl (by rfl) Try.func14 (by kernel_rfl) rfl rfl (by simp only [List.map_toArray, List.map_cons, List.map_nil]; rfl) (fun w' hS => blocks_walk w' G _ _ _ _ _ _ _ _ hS.2.2.2.2.2.2) ?_
  try simp only [Act.put, List.setIfInBounds_toArray, List.set_cons_zero, List.set_cons_succ]
  refine plan_held (o := ⟨some 90, _, _, _, _, _⟩) (v := .agg #[.int .i64 uw, .int .i64 uh, .int .i64 ac, .int .i64 dn, .slice A6 n c6, .slice A5 n c5]) rfl (by rfl) (fun w' hS => ?_) ?_
  · obtain ⟨hS1, hS2, hS3, hS4, hS5, hS6, _⟩ := hS; go_simp
  try simp only [Act.put, List.setIfInBounds_toArray, List.set_cons_zero, List.set_cons_succ]
  refine plan_ev fun m hm => ?_
  simp only [pickO, List.filterMap_cons, List.filterMap_nil, List.getElem?_toArray, List.getElem?_cons_zero, List.getElem?_cons_succ] at hm
  subst hm
  have hrb := rblocks_walk uw uh ac dn (.slice A6 n c6) A5 n c5 gr wd (by omega) HR9.out HGB.out
  unfold rfC at hrb
  rw [← HTOT.out] at hrb
  have HRB := Lib.hid hrb
  clear hrb
  go_wp2_with (first | (go_at_call 15; refine HRB.out.mono ?_; rintro e w10 ⟨rfl, hb10⟩; have HM10 := Lib.hid (HM9.out.bel hb10); have HI10 := Lib.hid (HI9.out.bel hb10); have HR10 := Lib.hid (HR9.out.bel hb10); have HB10 := Lib.hid (HB9.out.trans (hb10.mono HB9.out.size)); clear hb10))
  refine ⟨rfl, ⟨HM10.out.cell 0, HM10.out.cell 1, HM10.out.cell 2, HM10.out.cell 3, HM10.out.cell 4, HM10.out.cell 5, HI10.out.fr⟩, ?_⟩
  try simp only [Act.put, List.setIfInBounds_toArray, List.set_cons_zero, List.set_cons_succ]
  refine plan_run fun m hm => ?_
  simp only [pickO, List.filterMap_cons, List.filterMap_nil, List.getElem?_toArray, List.getElem?_cons_zero, List.getElem?_cons_succ] at hm
  subst hm
  go_wp2_with fail
  refine ⟨rfl, by rfl, ?_⟩
  refine plan_fin ?_
  obtain ⟨A4, c4, rfl, _, _⟩ := HI10.out.go.form
  go_wp2_with (first | (go_at_call 12; refine (grid_no w10 G pv A4 n c4 _ _ _ _ _ _ HI10.out.fr x HX.out).mono ?_; rintro e w11 ⟨rfl, hb11⟩; have y5b : w11.cell? ⟨w5.heap.size, 5, none⟩ = some (.slice A5 n c5) := (HM10.out.bel hb11).cell 5; have hl5 : w5.heap.size < w11.heap.size := (HM10.out.bel hb11).lt; have HB11 := Lib.hid (HB10.out.trans (hb11.mono HB10.out.size)); clear hb11))
  go_ret
  exact ⟨rfl, HB11.out.alloc HB11.out.size _⟩
set_option maxHeartbeats 0 in
set_option maxRecDepth 20000 in
theorem makes_in (a b x : Int) (A : Option Addr) (n c : Nat) (f : Nat → Nat → Int) (hn : n ≤ 100) (w : World) (hR : RdS w A n 2 f) (h0 : faultV a b n f = 0) (i : Nat) (hi : i < n) (hx : x = i) : Calls Try.prog 4 #[.int .i64 a, .int .i64 b, .slice A n c, .int .i64 x] w fun e w' => e = .returned (.bool true) ∧ Below w.heap.size w w' := by
  have hg2 : decide ((100 : Int) < (n : Int)) = false := by simp; omega
  have HR := Lib.hid hR; have H0 := Lib.hid h0
  clear hR h0
  subst hx
  have d0 : decide ((i : Int) < 0) = false := by simp
  have d1 : decide (n ≤ i) = false := by simp; omega
  go_enter Try.func4, Try.ntmps4
  go_wp2_with (first | (go_at_call 7; refine (awake_walk _).mono ?_; rintro e w1 ⟨rfl, hb1⟩; have HB1 := Lib.hid hb1; clear hb1) | (go_at_call 9; refine (parts_walk A n c f w1 (by omega) (HR.out.bel HB1.out)).mono ?_; intro e w2 hp; obtain ⟨v2, rfl, hO2, hb2⟩ := hp.out; obtain ⟨A2, c2, rfl, _, hR2⟩ := hO2.form; have HR2 := Lib.hid hR2; have HB2 := Lib.hid (HB1.out.trans (hb2.mono HB1.out.size)); clear hp hO2 hb2 hR2) | (go_at_call 8; refine (new_walk a b A2 n c2 f w2 (by omega) HR2.out).mono ?_; intro e w3 hp; obtain ⟨G, pv, gs, p, gr, ac, dn, uw, uh, tot, iu, rfl, hI, hb3, hp', hg', hac, hdn, huw, huh, htot, hG⟩ := (NewPost.letters hp H0.out).out; have HOF := Lib.hid (owns_fact H0.out hp' hg' hac hdn huw huh); have HEQ := Lib.hid (And.intro hp' (And.intro hg' (And.intro hac (And.intro hdn (And.intro huw huh))))); have HTOT := Lib.hid htot; have HI := Lib.hid hI; have HB3 := Lib.hid (HB2.out.trans (hb3.mono HB2.out.size)); clear hp hb3 hI hp' hg' hac hdn huw huh htot) | (go_at_call 13; refine (rnew_walk a b A n c f w3 (by omega) (HR.out.bel HB3.out)).mono ?_; intro e w5 hp; obtain ⟨pv2, gs2, rfl, hpo, hgo, hb5⟩ := (RefPost.get hp H0.out HEQ.out).out; obtain ⟨A5, c5, rfl, _, hR5⟩ := hgo.form; obtain ⟨A6, c6, rfl, _, _⟩ := hpo.form; have HB5 := Lib.hid (HB3.out.trans (hb5.mono HB3.out.size)); have HB6 := Lib.hid (HB5.out.alloc HB5.out.size (.cells #[.int .i64 uw, .int .i64 uh, .int .i64 ac, .int .i64 dn, .slice A6 n c6, .slice A5 n c5] 39)); have HM6 := Lib.hid (Blk.new w5 39 #[.int .i64 uw, .int .i64 uh, .int .i64 ac, .int .i64 dn, .slice A6 n c6, .slice A5 n c5]); have ha6 : Below w5.heap.size w5 (w5.alloc (.cells #[.int .i64 uw, .int .i64 uh, .int .i64 ac, .int .i64 dn, .slice A6 n c6, .slice A5 n c5] 39)) := (Below.refl _ _).alloc (Nat.le_refl _) _; have HI6 := Lib.hid ((HI.out.bel hb5).bel ha6); have HR6 := Lib.hid (hR5.bel ha6); clear hp hb5 hgo hpo hR5 ha6))
  have HGB : Hid (∀ i, i < n → 0 ≤ gr i 0 ∧ gr i 0 ≤ 65536 ∧ 0 ≤ gr i 1 ∧ gr i 1 ≤ 65536) := Lib.hid fun i hi => by
    have := HOF.out.2.2 i hi
    omega
  go_wp2_with (first | (go_at_call 10; refine (units_walk _ G _ _ _ _ _ _ _ _ HI6.out.fr).mono ?_; rintro e w7 ⟨rfl, hb7⟩; have HI7 := Lib.hid (HI6.out.bel hb7); have HM7 := Lib.hid (HM6.out.bel hb7); have HR7 := Lib.hid (HR6.out.bel hb7); have HB7 := Lib.hid (HB6.out.trans (hb7.mono HB6.out.size)); clear hb7) | (go_at_call 11; refine (unit_walk _ G _ _ _ _ _ _ _ _ HI7.out.fr).mono ?_; rintro e w8 ⟨rfl, hb8⟩; have HI8 := Lib.hid (HI7.out.bel hb8); have HM8 := Lib.hid (HM7.out.bel hb8); have HR8 := Lib.hid (HR7.out.bel hb8); have HB8 := Lib.hid (HB7.out.trans (hb8.mono HB7.out.size)); clear hb8))
  refine region_plan (.run [0, 1, 2, 3, 4, 5, 6, 7, 8, 9, 10, 11, 12, 13, 14, 15, 16, 17, 18, 19, 20, 21, 22, 23, 24, 25, 26, 27, 28, 29, 30, 31, 32, 33, 34, 35] (.held 36 (.held 37 (.ev 38 (.run [39, 40] .fin))))) (fun w' => w'.cell? ⟨w5.heap.size, 0, none⟩ = some (.int .i64 uw) ∧ w'.cell? ⟨w5.heap.size, 1, none⟩ = some (.int .i64 uh) ∧ w'.cell? ⟨w5.heap.size, 2, none⟩ = some (.int .i64 ac) ∧ w'.cell? ⟨w5.heap.size, 3, none⟩ = some (.int .i64 dn) ∧ w'.cell? ⟨w5.heap.size, 4, none⟩ = some (.slice A6 n c6) ∧ w'.cell? ⟨w5.heap.size, 5, none⟩ = some (.slice A5 n c5) ∧ Blk w' G 67 (frC pv gs ac dn uw uh tot iu)) (by kernel_rfl) ⟨HM8.out.cell 0, HM8.out.cell 1, HM8.out.cell 2, HM8.out.cell 3, HM8.out.cell 4, HM8.out.cell 5, HI8.out.fr⟩ ?_
  intro wd hwd
  have HI9 := Lib.hid (HI8.out.drewE hwd)
  have HR9 := Lib.hid (HR8.out.drewE hwd)
  have HM9 := Lib.hid (HM8.out.drewE hwd)
  have HB9 := Lib.hid (belowD HB8.out hwd)
  have y0 : wd.cell? ⟨w5.heap.size, 0, none⟩ = some (.int .i64 uw) := HM9.out.cell 0
  have y1 : wd.cell? ⟨w5.heap.size, 1, none⟩ = some (.int .i64 uh) := HM9.out.cell 1
  have y2 : wd.cell? ⟨w5.heap.size, 2, none⟩ = some (.int .i64 ac) := HM9.out.cell 2
  have y3 : wd.cell? ⟨w5.heap.size, 3, none⟩ = some (.int .i64 dn) := HM9.out.cell 3
  have y4 : wd.cell? ⟨w5.heap.size, 4, none⟩ = some (.slice A6 n c6) := HM9.out.cell 4
  have y5 : wd.cell? ⟨w5.heap.size, 5, none⟩ = some (.slice A5 n c5) := HM9.out.cell 5
  clear hwd
  refine plan_run fun m hm => ?_
  simp only [pickO, List.filterMap_cons, List.filterMap_nil, List.getElem?_toArray, List.getElem?_cons_zero, List.getElem?_cons_succ] at hm
  subst hm
  go_wp2_with fail
  refine ⟨rfl, by rfl, ?_⟩
  refine plan_pure (v := .int .i64 tot) #[.pointer (some ⟨G, 0, none⟩)] rfl (by rfl) Try.func14 (by kernel_rfl) rfl rfl (by simp only [List.map_toArray, List.map_cons, List.map_nil]; rfl) (fun w' hS => blocks_walk w' G _ _ _ _ _ _ _ _ hS.2.2.2.2.2.2) ?_
  try simp only [Act.put, List.setIfInBounds_toArray, List.set_cons_zero, List.set_cons_succ]
  refine plan_held (o := ⟨some 90, _, _, _, _, _⟩) (v := .agg #[.int .i64 uw, .int .i64 uh, .int .i64 ac, .int .i64 dn, .slice A6 n c6, .slice A5 n c5]) rfl (by rfl) (fun w' hS => ?_) ?_
  · obtain ⟨hS1, hS2, hS3, hS4, hS5, hS6, _⟩ := hS; go_simp
  try simp only [Act.put, List.setIfInBounds_toArray, List.set_cons_zero, List.set_cons_succ]
  refine plan_ev fun m hm => ?_
  simp only [pickO, List.filterMap_cons, List.filterMap_nil, List.getElem?_toArray, List.getElem?_cons_zero, List.getElem?_cons_succ] at hm
  subst hm
  have hrb := rblocks_walk uw uh ac dn (.slice A6 n c6) A5 n c5 gr wd (by omega) HR9.out HGB.out
  unfold rfC at hrb
  rw [← HTOT.out] at hrb
  have HRB := Lib.hid hrb
  clear hrb
  go_wp2_with (first | (go_at_call 15; refine HRB.out.mono ?_; rintro e w10 ⟨rfl, hb10⟩; have HM10 := Lib.hid (HM9.out.bel hb10); have HI10 := Lib.hid (HI9.out.bel hb10); have HR10 := Lib.hid (HR9.out.bel hb10); have HB10 := Lib.hid (HB9.out.trans (hb10.mono HB9.out.size)); clear hb10))
  refine ⟨rfl, ⟨HM10.out.cell 0, HM10.out.cell 1, HM10.out.cell 2, HM10.out.cell 3, HM10.out.cell 4, HM10.out.cell 5, HI10.out.fr⟩, ?_⟩
  try simp only [Act.put, List.setIfInBounds_toArray, List.set_cons_zero, List.set_cons_succ]
  refine plan_run fun m hm => ?_
  simp only [pickO, List.filterMap_cons, List.filterMap_nil, List.getElem?_toArray, List.getElem?_cons_zero, List.getElem?_cons_succ] at hm
  subst hm
  go_wp2_with fail
  refine ⟨rfl, by rfl, ?_⟩
  refine plan_fin ?_
  obtain ⟨A4, c4, rfl, _, hR4⟩ := HI10.out.go.form
  have hgo := grid_ok w10 G pv A4 n c4 gr _ _ _ _ _ _ HI10.out.fr hR4 i hi
  obtain ⟨g5, o5, rfl, hg5, q0, q1, q2, q3⟩ := HR10.out.at4 hi
  obtain ⟨x0, hx0⟩ : ∃ x0, x0 = gr i 0 := ⟨_, rfl⟩
  obtain ⟨x1, hx1⟩ : ∃ x1, x1 = gr i 1 := ⟨_, rfl⟩
  obtain ⟨x2, hx2⟩ : ∃ x2, x2 = gr i 2 := ⟨_, rfl⟩
  obtain ⟨x3, hx3⟩ : ∃ x3, x3 = gr i 3 := ⟨_, rfl⟩
  rw [← hx0, ← hx1, ← hx2, ← hx3] at hgo
  rw [← hx0] at q0
  rw [← hx1] at q1
  rw [← hx2] at q2
  rw [← hx3] at q3
  have HGO := Lib.hid hgo; have HG5 := Lib.hid hg5; have Q0 := Lib.hid q0; have Q1 := Lib.hid q1; have Q2 := Lib.hid q2; have Q3 := Lib.hid q3
  clear hgo hg5 q0 q1 q2 q3 hx0 hx1 hx2 hx3 hR4
  go_wp2_with fail
  refine HGO.out.mono ?_
  rintro e w11 ⟨rfl, hb11⟩
  have y5b : w11.cell? ⟨w5.heap.size, 5, none⟩ = some (.slice (some ⟨g5, o5, none⟩) n c5) := (HM10.out.bel hb11).cell 5; have hl5 : w5.heap.size < w11.heap.size := (HM10.out.bel hb11).lt; have HB11 := Lib.hid (HB10.out.trans (hb11.mono HB10.out.size))
  have e0 : w11.cell? ⟨g5, o5 + i * 4, none⟩ = some (.int .i64 x0) := (hb11.cell (p := ⟨g5, o5 + i * 4, none⟩) HG5.out).trans Q0.out
  have e1 : w11.cell? ⟨g5, o5 + i * 4 + 1, none⟩ = some (.int .i64 x1) := (hb11.cell (p := ⟨g5, o5 + i * 4 + 1, none⟩) HG5.out).trans Q1.out
  have e2 : w11.cell? ⟨g5, o5 + i * 4 + 2, none⟩ = some (.int .i64 x2) := (hb11.cell (p := ⟨g5, o5 + i * 4 + 2, none⟩) HG5.out).trans Q2.out
  have e3 : w11.cell? ⟨g5, o5 + i * 4 + 3, none⟩ = some (.int .i64 x3) := (hb11.cell (p := ⟨g5, o5 + i * 4 + 3, none⟩) HG5.out).trans Q3.out
  have hlg : g5 < w11.heap.size := Nat.lt_of_lt_of_le HG5.out hb11.size
  have hne5 : ¬ g5 = w11.heap.size := by omega
  clear hb11
  go_wp2_with fail
  go_ret
  exact ⟨rfl, (HB11.out.alloc HB11.out.size _).alloc (by have := HB11.out.size; simp; omega) _⟩
theorem frameMakes_walk (a b x : Int) (A : Option Addr) (n c : Nat) (f : Nat → Nat → Int) (w : World) (hR : RdS w A n 2 f) : Calls Try.prog 4 #[.int .i64 a, .int .i64 b, .slice A n c, .int .i64 x] w fun e w' => e = .returned (.bool true) ∧ Below w.heap.size w w' := by
  by_cases hn : n ≤ 100
  · by_cases h0 : faultV a b n f = 0
    · by_cases h1 : x < 0
      · exact makes_neg a b x A n c f hn w hR h0 h1
      · by_cases h2 : (n : Int) ≤ x
        · exact makes_big a b x A n c f hn w hR h0 h2
        · exact makes_in a b x A n c f hn w hR h0 x.toNat (by omega) (by omega)
    · exact makes_no a b x A n c f hn w hR h0
  · exact makes_long a b x A n c (by omega) w
namespace lawFrameMakes
open Go.ChangeShapes Go.WideShapes Go.ChangeAt Go.RowKit
open Go.ChangeMaps (open_string shut_string)
theorem own : ownKnob Try.prog.godebug = none := by kernel_rfl
theorem laidOut : laidOutB Try.prog = true := by kernel_rfl

set_option maxRecDepth 100000 in
theorem lifted (os : Os) (started : os.Started) (H : Type) (enc : TypeId × Value → H) :
    ReturnsInHanded {} Try.checked os 4 .any (Rows.frameMakesSpec.pre6 enc Try.prog Try.f4 Rows.frameMakesRow.domain false) (Rows.frameMakesSpec.post enc Try.prog Try.f4 false true false false) := by
  refine returnsInHanded_of_change_sized (C := Try.checked) own started (by kernel_rfl) Try.func4
    (ChangeSpec.witness6 (enc := enc) (C := Try.checked) false ⟨#[], #[.int .i64 0, .int .i64 0, .slice none 0 0, .int .i64 0], []⟩ 8 (by kernel_rfl) (by kernel_rfl) (by kernel_rfl) (by kernel_rfl)) ?_
  intro W base args ds gs before hval0 hW hcnd hsz0 _
  have hsz : (DataW.weightsEach Try.prog (Try.f4.params.toList ++ Rows.frameMakesSpec.plain.varTypes Try.prog) (ds ++ gs)).all (· ≤ reachBytes) = true := hsz0
  have hval : ∀ (j : Nat) t v, Try.f4.params[j]? = some t → args[j]? = some v → Value.okWide Try.prog W .any base t v := hval0
  have hW' := hW
  obtain ⟨p, q, hA0, hV, hbefore, hfz, hnd⟩ := hW
  obtain ⟨rfl, rfl⟩ := trodVars_none hV
  have hA : DataW.TrodAll enc Try.prog W 0 (fun _ => true) true Try.f4.params.toList args.toList ds p := hA0
  rw [Try.params4] at hA hval hsz
  obtain ⟨v0, vs1, d0, ds1, p0, q0, hargs, rfl, hps, h0, r0⟩ := trodAll_cons hA
  obtain ⟨v1, vs2, d1, ds2, p1, q1, rfl, rfl, rfl, h1, r1⟩ := trodAll_cons r0
  obtain ⟨v2, vs3, d2, ds3, p2, q2, rfl, rfl, rfl, h2, r2⟩ := trodAll_cons r1
  obtain ⟨v3, vs4, d3, ds4, p3, q3, rfl, rfl, rfl, h3, r3⟩ := trodAll_cons r2
  obtain ⟨rfl, rfl, rfl⟩ := trodAll_nil r3
  obtain rfl : args = #[v0, v1, v2, v3] := by cases args; simp_all
  have o0 := hval 0 3 v0 rfl rfl
  have o1 := hval 1 3 v1 rfl rfl
  have o2 := hval 2 22 v2 rfl rfl
  have o3 := hval 3 3 v3 rfl rfl
  clear hA0 hval0
  obtain ⟨a, rfl, rfl, rfl, wa⟩ := open_int Try.underlying3 o0 h0
  obtain ⟨b, rfl, rfl, rfl, wb⟩ := open_int Try.underlying3 o1 h1
  obtain ⟨A, n, c, f, rfl, hnc, hI⟩ := openInS Try.underlying22 Try.underlying69 (by kernel_rfl) (by kernel_rfl) (by decide) (fun _ => IntKind.i64) (by intro j f h; match j, h with | 0, h => (cases h; exact Try.underlying3) | 1, h => (cases h; exact Try.underlying3) | j + 2, h => simp at h) o2 h2
  obtain ⟨x, rfl, rfl, rfl, wx⟩ := open_int Try.underlying3 o3 h3
  refine (frameMakes_walk a b x A n c f W hI.rd).mono fun e W' ⟨he, hb⟩ => ?_
  subst he
  exact ⟨_, rfl, law_post laidOut (by rw [Try.params4]; intro t ht; simp only [List.mem_cons, List.not_mem_nil, or_false] at ht; rcases ht with rfl | rfl | rfl | rfl <;> exact ⟨by kernel_rfl, of_decide_eq_true (by kernel_rfl)⟩) (by kernel_rfl) Try.underlying4 hW' rfl rfl hb⟩
theorem said : Rows.FrameMakesSaid :=
  OpenClaim.holds_of_wide 4 Try.f4 rfl rfl rfl rfl rfl rfl rfl ⟨rfl, rfl, rfl, rfl, rfl⟩ rfl rfl rfl rfl rfl (by kernel_rfl) Try.func4 (by kernel_rfl)
    (of_decide_eq_true (by kernel_rfl)) (by unfold Func.isWrapper; first | (rw [if_pos (by decide +kernel)]; kernel_rfl) | (rw [if_neg (by decide +kernel)]; exact ⟨rfl, rfl⟩))
    (fun os started H enc _ => lifted os started H enc)
#print axioms said
end lawFrameMakes
end Go.Proofs.Ytjfnlgmllhjonaa
