/- A component's own part is within its grid, less than a unit smaller. No condition. -/
import Derived.Test.YtjfnlgmllhjonaaFrH
import Derived.Test.YtjfnlgmllhjonaaInS
import Derived.ShutString
import Derived.ChangeOld
import Derived.SizedLaws
namespace Go.Proofs.Ytjfnlgmllhjonaa
open Go.RowKit
set_option linter.unusedSimpArgs false
set_option linter.unusedVariables false
theorem InS.rd {w : World} {A : Option Addr} {n q : Nat} {f : Nat → Nat → Int} (h : InS w A n q (fun _ => IntKind.i64) f) : RdS w A n q f := fun i hi => by
  obtain ⟨g, off, h1, h2, h3⟩ := h i hi
  exact ⟨g, off, h1, h2, fun j hj => (h3 j hj).1⟩
theorem owns_long (a b : Int) (A : Option Addr) (n c : Nat) (hn : 100 < n) (w : World) : Calls Try.prog 3 #[.int .i64 a, .int .i64 b, .slice A n c] w fun e w' => e = .returned (.bool true) ∧ Below w.heap.size w w' := by
  have hg2 : decide ((100 : Int) < (n : Int)) = true := by simp; omega
  go_enter Try.func3, Try.ntmps3
  go_wp2_with fail
  refine (awake_walk _).mono ?_
  rintro e w1 ⟨rfl, hb1⟩
  have HB1 := Lib.hid hb1; clear hb1
  go_wp2_with fail
  refine (awake_walk _).mono ?_
  rintro e w2 ⟨rfl, hb2⟩
  have HB2 := Lib.hid (HB1.out.trans (hb2.mono HB1.out.size)); clear hb2
  go_wp2_with fail
  go_ret
  exact ⟨rfl, HB2.out⟩
set_option maxHeartbeats 0 in
set_option maxRecDepth 20000 in
theorem owns_no (a b : Int) (A : Option Addr) (n c : Nat) (f : Nat → Nat → Int) (hn : n ≤ 100) (w : World) (hR : RdS w A n 2 f) (h0 : faultV a b n f ≠ 0) : Calls Try.prog 3 #[.int .i64 a, .int .i64 b, .slice A n c] w fun e w' => e = .returned (.bool true) ∧ Below w.heap.size w w' := by
  have hg2 : decide ((100 : Int) < (n : Int)) = false := by simp; omega
  obtain ⟨q, hq⟩ : ∃ q, q = faultV a b n f := ⟨_, rfl⟩
  have q0 : (q != 0) = true := by rw [hq]; simpa using h0
  have HR := Lib.hid hR; have H0 := Lib.hid h0; have HQ := Lib.hid hq
  clear hR h0 hq
  go_enter Try.func3, Try.ntmps3
  go_wp2_with (first | (go_at_call 7; refine (awake_walk _).mono ?_; rintro e w1 ⟨rfl, hb1⟩; have HB1 := Lib.hid hb1; clear hb1) | (go_at_call 9; refine (parts_walk A n c f w1 (by omega) (HR.out.bel HB1.out)).mono ?_; intro e w2 hp; obtain ⟨v2, rfl, hO2, hb2⟩ := hp.out; obtain ⟨A2, c2, rfl, _, hR2⟩ := hO2.form; have HR2 := Lib.hid hR2; have HB2 := Lib.hid (HB1.out.trans (hb2.mono HB1.out.size)); clear hp hO2 hb2 hR2) | (go_at_call 8; refine (new_walk a b A2 n c2 f w2 (by omega) HR2.out).mono ?_; intro e w3 hp; obtain ⟨rfl, hb3⟩ := NewPost.no hp H0.out; rw [← HQ.out]; have HB3 := Lib.hid (HB2.out.trans (hb3.mono HB2.out.size)); clear hp hb3))
  go_ret
  exact ⟨rfl, HB3.out⟩
set_option maxHeartbeats 0 in
set_option maxRecDepth 20000 in
theorem owns_yes (a b : Int) (A : Option Addr) (n c : Nat) (f : Nat → Nat → Int) (hn : n ≤ 100) (w : World) (hR : RdS w A n 2 f) (h0 : faultV a b n f = 0) : Calls Try.prog 3 #[.int .i64 a, .int .i64 b, .slice A n c] w fun e w' => e = .returned (.bool true) ∧ Below w.heap.size w w' := by
  have hg2 : decide ((100 : Int) < (n : Int)) = false := by simp; omega
  have HR := Lib.hid hR; have H0 := Lib.hid h0
  clear hR h0
  go_enter Try.func3, Try.ntmps3
  go_wp2_with (first | (go_at_call 7; refine (awake_walk _).mono ?_; rintro e w1 ⟨rfl, hb1⟩; have HB1 := Lib.hid hb1; clear hb1) | (go_at_call 9; refine (parts_walk A n c f w1 (by omega) (HR.out.bel HB1.out)).mono ?_; intro e w2 hp; obtain ⟨v2, rfl, hO2, hb2⟩ := hp.out; obtain ⟨A2, c2, rfl, _, hR2⟩ := hO2.form; have HR2 := Lib.hid hR2; have HB2 := Lib.hid (HB1.out.trans (hb2.mono HB1.out.size)); clear hp hO2 hb2 hR2) | (go_at_call 8; refine (new_walk a b A2 n c2 f w2 (by omega) HR2.out).mono ?_; intro e w3 hp; obtain ⟨G, pv, gs, p, gr, ac, dn, uw, uh, tot, iu, rfl, hI, hb3, hp', hg', hac, hdn, huw, huh, htot, hG⟩ := (NewPost.letters hp H0.out).out; have HOF := Lib.hid (owns_fact H0.out hp' hg' hac hdn huw huh); have HI := Lib.hid hI; have HB3 := Lib.hid (HB2.out.trans (hb3.mono HB2.out.size)); clear hp hb3 hI hp' hg' hac hdn huw huh htot))
  obtain ⟨⟨r1, r2, r3, r4, r5, r6, r7, r8⟩, ⟨s1, s2, s3, s4⟩, hgi⟩ := HOF.out
  have m1 := mul_rng (x := ac) (y := uw) (A := 16384) (B := 32) (by omega) r2 (by omega) r6
  have m2 := mul_rng (x := ac - 1) (y := uw) (A := 16384) (B := 32) (by omega) (by omega) (by omega) r6
  have m3 := mul_rng (x := dn) (y := uh) (A := 16384) (B := 32) (by omega) r4 (by omega) r8
  have m4 := mul_rng (x := dn - 1) (y := uh) (A := 16384) (B := 32) (by omega) (by omega) (by omega) r8
  have t1 : decide (ac * uw < a) = false := by simp; omega
  have t2 : decide (a ≤ (ac - 1) * uw) = false := by simp; omega
  have t3 : decide (dn * uh < b) = false := by simp; omega
  have t4 : decide (b ≤ (dn - 1) * uh) = false := by simp; omega
  have HGI := Lib.hid hgi; clear hgi
  go_wp2_with (first | (go_at_call 10; refine (units_walk _ G _ _ _ _ _ _ _ _ HI.out.fr).mono ?_; rintro e w4 ⟨rfl, hb4⟩; have HI4 := Lib.hid (HI.out.bel hb4); have HB4 := Lib.hid (HB3.out.trans (hb4.mono HB3.out.size)); clear hb4) | (go_at_call 11; refine (unit_walk _ G _ _ _ _ _ _ _ _ HI4.out.fr).mono ?_; rintro e w5 ⟨rfl, hb5⟩; have HI5 := Lib.hid (HI4.out.bel hb5); have HB5 := Lib.hid (HB4.out.trans (hb5.mono HB4.out.size)); clear hb5))
  clear t1 t2 t3 t4 m1 m2 m3 m4 s1 s2 s3 s4
  go_loopw [13] (fun i wr => ∃ (k : Nat), k ≤ n ∧ i = .int .i64 k ∧ Hid (NwI w2.heap.size wr G pv gs n n p gr ac dn uw uh tot iu) ∧ Hid (Below w.heap.size w wr)) (fun i _ => n - (intOf i).toNat)
  case atStart => exact ⟨0, by omega, rfl, HI5, HB5⟩
  case round =>
    obtain ⟨k, hk, rfl, HI, hb⟩ := hrel
    obtain ⟨A4, c4, rfl, _, hR4⟩ := HI.out.go.form
    have HR4 := Lib.hid hR4; clear hR4
    by_cases hlt : k < n
    · obtain ⟨⟨u1, u2, u3, u4⟩, ⟨u5, u6⟩, ⟨u7, u8⟩, u9, u10⟩ := HGI.out k hlt
      obtain ⟨g0, hg0⟩ : ∃ g0, g0 = gr k 0 := ⟨_, rfl⟩
      obtain ⟨g1, hg1⟩ : ∃ g1, g1 = gr k 1 := ⟨_, rfl⟩
      obtain ⟨g2, hg2'⟩ : ∃ g2, g2 = gr k 2 := ⟨_, rfl⟩
      obtain ⟨g3, hg3⟩ : ∃ g3, g3 = gr k 3 := ⟨_, rfl⟩
      rw [← hg0] at u2 u5 u7 u9
      rw [← hg1] at u4 u6 u8 u10
      rw [← hg2'] at u1 u2 u9
      rw [← hg3] at u3 u4 u10
      have hcall := grid_ok wr G pv A4 n c4 gr _ _ _ _ _ _ HI.out.fr HR4.out k hlt
      rw [← hg0, ← hg1, ← hg2', ← hg3] at hcall
      have d0 := Int.ediv_le_self ac (show 0 ≤ g0 by omega)
      have d1 := Int.ediv_le_self dn (show 0 ≤ g1 by omega)
      have d2 := Int.ediv_nonneg (show 0 ≤ g0 by omega) (show 0 ≤ ac by omega)
      have d3 := Int.ediv_nonneg (show 0 ≤ g1 by omega) (show 0 ≤ dn by omega)
      have t1 : decide (g2 < 1) = false := by simp; omega
      have t2 : decide (g3 < 1) = false := by simp; omega
      have t3 : decide (g0 < g2) = false := by simp; omega
      have t4 : decide (g1 < g3) = false := by simp; omega
      have t5 : ((g0 % ac) != 0) = false := by simp [u7]
      have t6 : ((g1 % dn) != 0) = false := by simp [u8]
      have t7 : decide (g2 ≤ g0 - g0 / ac) = false := by simp; omega
      have t8 : decide (g3 ≤ g1 - g1 / dn) = false := by simp; omega
      have HC := Lib.hid hcall
      clear hcall hg0 hg1 hg2' hg3 u7 u8
      go_wp2_with (first | (go_at_call 12; refine HC.out.mono ?_; rintro e w6 ⟨rfl, hb6⟩; have hI6 := HI.out.bel hb6; have hb6' := hb.out.trans (hb6.mono hb.out.size); have ha6 : Below w6.heap.size w6 (w6.alloc (.cells #[.int .i64 g0, .int .i64 g1, .int .i64 g2, .int .i64 g3] 33)) := (Below.refl _ _).alloc (Nat.le_refl _) _; have HI6 := Lib.hid (hI6.bel ha6); have HB6 := Lib.hid (hb6'.trans (ha6.mono hb6'.size)); clear hb6 hI6 hb6' ha6))
      refine region_plan (.run [0, 1, 2, 3, 4, 5, 6, 7, 8, 9, 10, 11, 12, 13, 14, 15, 16, 17, 18, 19, 20, 21, 22, 23, 24, 25, 26, 27, 28, 29, 30, 31, 32, 33, 34, 35, 36, 37, 38, 39, 40, 41, 42, 43, 44, 45, 46, 47, 48, 49, 50, 51, 52, 53, 54, 55, 56, 57, 58, 59, 60, 61, 62, 63] .fin) (fun w' => True) (by kernel_rfl) trivial ?_
      intro wd hwd
      have HI7 := Lib.hid (HI6.out.drewE hwd)
      have HB7 := Lib.hid (belowD HB6.out hwd)
      have c0 : wd.cell? ⟨w6.heap.size, 0, none⟩ = some (.int .i64 g0) := by rw [hwd]; exact (Blk.new w6 33 #[.int .i64 g0, .int .i64 g1, .int .i64 g2, .int .i64 g3]).cell 0
      have c1 : wd.cell? ⟨w6.heap.size, 1, none⟩ = some (.int .i64 g1) := by rw [hwd]; exact (Blk.new w6 33 #[.int .i64 g0, .int .i64 g1, .int .i64 g2, .int .i64 g3]).cell 1
      have c2 : wd.cell? ⟨w6.heap.size, 2, none⟩ = some (.int .i64 g2) := by rw [hwd]; exact (Blk.new w6 33 #[.int .i64 g0, .int .i64 g1, .int .i64 g2, .int .i64 g3]).cell 2
      have c3 : wd.cell? ⟨w6.heap.size, 3, none⟩ = some (.int .i64 g3) := by rw [hwd]; exact (Blk.new w6 33 #[.int .i64 g0, .int .i64 g1, .int .i64 g2, .int .i64 g3]).cell 3
      clear hwd
      refine plan_run fun m hm => ?_
      simp only [pickO, List.filterMap_cons, List.filterMap_nil, List.getElem?_toArray, List.getElem?_cons_zero, List.getElem?_cons_succ] at hm
      subst hm
      go_wp2_with fail
      refine ⟨rfl, by rfl, ?_⟩
      refine plan_fin ?_
      go_wp2
      exact ⟨⟨k + 1, by omega, by go_num, HI7, HB7⟩, by simp [intOf]; omega⟩
    · obtain rfl : k = n := by omega
      go_wp2
      go_ret
      exact ⟨rfl, hb.out⟩
theorem frameOwns_walk (a b : Int) (A : Option Addr) (n c : Nat) (f : Nat → Nat → Int) (w : World) (hR : RdS w A n 2 f) : Calls Try.prog 3 #[.int .i64 a, .int .i64 b, .slice A n c] w fun e w' => e = .returned (.bool true) ∧ Below w.heap.size w w' := by
  by_cases hn : n ≤ 100
  · by_cases h0 : faultV a b n f = 0
    · exact owns_yes a b A n c f hn w hR h0
    · exact owns_no a b A n c f hn w hR h0
  · exact owns_long a b A n c (by omega) w

namespace lawFrameOwns
open Go.ChangeShapes Go.WideShapes Go.ChangeAt Go.RowKit
open Go.ChangeMaps (open_string shut_string)
theorem own : ownKnob Try.prog.godebug = none := by kernel_rfl
theorem laidOut : laidOutB Try.prog = true := by kernel_rfl

set_option maxRecDepth 100000 in
theorem lifted (os : Os) (started : os.Started) (H : Type) (enc : TypeId × Value → H) :
    ReturnsInHanded {} Try.checked os 3 .any (Rows.frameOwnsSpec.pre6 enc Try.prog Try.f3 Rows.frameOwnsRow.domain false) (Rows.frameOwnsSpec.post enc Try.prog Try.f3 false true false false) := by
  refine returnsInHanded_of_change_sized (C := Try.checked) own started (by kernel_rfl) Try.func3
    (ChangeSpec.witness6 (enc := enc) (C := Try.checked) false ⟨#[], #[.int .i64 0, .int .i64 0, .slice none 0 0], []⟩ 8 (by kernel_rfl) (by kernel_rfl) (by kernel_rfl) (by kernel_rfl)) ?_
  intro W base args ds gs before hval0 hW hcnd hsz0 _
  have hsz : (DataW.weightsEach Try.prog (Try.f3.params.toList ++ Rows.frameOwnsSpec.plain.varTypes Try.prog) (ds ++ gs)).all (· ≤ reachBytes) = true := hsz0
  have hval : ∀ (j : Nat) t v, Try.f3.params[j]? = some t → args[j]? = some v → Value.okWide Try.prog W .any base t v := hval0
  have hW' := hW
  obtain ⟨p, q, hA0, hV, hbefore, hfz, hnd⟩ := hW
  obtain ⟨rfl, rfl⟩ := trodVars_none hV
  have hA : DataW.TrodAll enc Try.prog W 0 (fun _ => true) true Try.f3.params.toList args.toList ds p := hA0
  rw [Try.params3] at hA hval hsz
  obtain ⟨v0, vs1, d0, ds1, p0, q0, hargs, rfl, hps, h0, r0⟩ := trodAll_cons hA
  obtain ⟨v1, vs2, d1, ds2, p1, q1, rfl, rfl, rfl, h1, r1⟩ := trodAll_cons r0
  obtain ⟨v2, vs3, d2, ds3, p2, q2, rfl, rfl, rfl, h2, r2⟩ := trodAll_cons r1
  obtain ⟨rfl, rfl, rfl⟩ := trodAll_nil r2
  obtain rfl : args = #[v0, v1, v2] := by cases args; simp_all
  have o0 := hval 0 3 v0 rfl rfl
  have o1 := hval 1 3 v1 rfl rfl
  have o2 := hval 2 22 v2 rfl rfl
  clear hA0 hval0
  obtain ⟨a, rfl, rfl, rfl, wa⟩ := open_int Try.underlying3 o0 h0
  obtain ⟨b, rfl, rfl, rfl, wb⟩ := open_int Try.underlying3 o1 h1
  obtain ⟨A, n, c, f, rfl, hnc, hI⟩ := openInS Try.underlying22 Try.underlying69 (by kernel_rfl) (by kernel_rfl) (by decide) (fun _ => IntKind.i64) (by intro j f h; match j, h with | 0, h => (cases h; exact Try.underlying3) | 1, h => (cases h; exact Try.underlying3) | j + 2, h => simp at h) o2 h2
  refine (frameOwns_walk a b A n c f W hI.rd).mono fun e W' ⟨he, hb⟩ => ?_
  subst he
  exact ⟨_, rfl, law_post laidOut (by rw [Try.params3]; intro t ht; simp only [List.mem_cons, List.not_mem_nil, or_false] at ht; rcases ht with rfl | rfl | rfl <;> exact ⟨by kernel_rfl, of_decide_eq_true (by kernel_rfl)⟩) (by kernel_rfl) Try.underlying4 hW' rfl rfl hb⟩
theorem said : Rows.FrameOwnsSaid :=
  OpenClaim.holds_of_wide 3 Try.f3 rfl rfl rfl rfl rfl rfl rfl ⟨rfl, rfl, rfl, rfl, rfl⟩ rfl rfl rfl rfl rfl (by kernel_rfl) Try.func3 (by kernel_rfl)
    (of_decide_eq_true (by kernel_rfl)) (by unfold Func.isWrapper; first | (rw [if_pos (by decide +kernel)]; kernel_rfl) | (rw [if_neg (by decide +kernel)]; exact ⟨rfl, rfl⟩))
    (fun os started H enc _ => lifted os started H enc)
#print axioms said
end lawFrameOwns
end Go.Proofs.Ytjfnlgmllhjonaa
