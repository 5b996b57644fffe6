/- The factors as the program has them, New's contract whole, the document's example. No condition. -/
import Derived.Test.YtjfnlgmllhjonaaFrE
import Derived.Test.YtjfnlgmllhjonaaFrF
namespace Go.Proofs.Ytjfnlgmllhjonaa
open Go.RowKit
set_option linter.unusedSimpArgs false
set_option linter.unusedVariables false
theorem new_walk (a b : Int) (A : Option Addr) (n c : Nat) (f : Nat → Nat → Int) (w : World) (hn : n ≤ 1000) (hR : RdS w A n 2 f) :
    Calls Try.prog 8 #[.int .i64 a, .int .i64 b, .slice A n c] w (NewPost w a b n f) := by
  by_cases h0 : rightV a b n f = 0
  · have h2 := right_zero h0
    by_cases h1 : n = 1
    · exact new_ok1 a b A n c f w hn hR h0 h1
    · exact new_okN a b A n c f w hn hR h0 (by omega)
  · have hf : faultV a b n f = rightV a b n f := by unfold faultV; rw [if_pos h0]
    exact (new_no a b A n c f w hn hR h0).mono fun e w' ⟨he, hb⟩ => NewPost.fail hf h0 he hb
theorem NewPost.get {w w' : World} {a b : Int} {n : Nat} {f : Nat → Nat → Int} {e : Ending} (h : NewPost w a b n f e w') (h0 : faultV a b n f = 0) : Hid (NewOk w a b n (pF n f) e w') := by
  rcases h with ⟨_, h⟩ | ⟨h, _⟩
  · exact Lib.hid h
  · exact absurd h0 h
theorem NewPost.no {w w' : World} {a b : Int} {n : Nat} {f : Nat → Nat → Int} {e : Ending} (h : NewPost w a b n f e w') (h0 : faultV a b n f ≠ 0) : e = .returned (.tuple #[.pointer none, .int .i64 (faultV a b n f)]) ∧ Below w.heap.size w w' := by
  rcases h with ⟨h, _⟩ | ⟨_, h⟩
  · exact absurd h h0
  · exact h
set_option maxHeartbeats 0 in
theorem parts_walk (A : Option Addr) (n c : Nat) (f : Nat → Nat → Int) (w : World) (hn : n ≤ 1000) (hR : RdS w A n 2 f) :
    Calls Try.prog 9 #[.slice A n c] w fun e w' => Hid (∃ v', e = .returned v' ∧ OwnS w' w.heap.size 62 2 v' n f ∧ Below w.heap.size w w') := by
  have HR := Lib.hid hR; clear hR
  go_enter Try.func9, Try.ntmps9
  go_wp2_with fail
  go_loopw [3, 4] (fun v i wr => ∃ (k : Nat) (vv : Value), k ≤ n ∧ v = vv ∧ i = .int .i64 k ∧ Hid (OwnS wr w.heap.size 62 2 vv k f) ∧ Hid (Below w.heap.size w wr)) (fun _ i _ => n - (intOf i).toNat)
  case atStart => exact ⟨0, _, by omega, rfl, rfl, Lib.hid (OwnS.nil _ _ _ _ _), Lib.hid (Below.refl _ _)⟩
  case round =>
    obtain ⟨k, vv, hk, rfl, rfl, hO, hb⟩ := hrel
    obtain ⟨A3, c3, rfl, hnc3, _⟩ := hO.out.form
    by_cases hlt : k < n
    · obtain ⟨g, off, rfl, hg, q0, q1⟩ := (HR.out.bel hb.out).at2 hlt
      obtain ⟨x, hx⟩ : ∃ x, x = f k 0 := ⟨_, rfl⟩
      obtain ⟨y, hy⟩ : ∃ y, y = f k 1 := ⟨_, rfl⟩
      rw [← hx] at q0
      rw [← hy] at q1
      have HX := Lib.hid hx; have HY := Lib.hid hy
      clear hx hy hg
      go_wp2_with fail
      refine region_plan (.run [0, 1, 2, 3, 4, 5, 6, 7, 8, 9, 10, 11] (.ev 12 (.ev 13 (.run [14] .fin)))) (fun w' => True) (by kernel_rfl) trivial ?_
      intro wd hwd
      have HO := Lib.hid (hO.out.drewE hwd)
      have HB := Lib.hid (belowD hb.out hwd)
      have q0' : wd.cell? ⟨g, off + k * 2, none⟩ = some (.int .i64 x) := by rw [hwd]; exact q0
      have q1' : wd.cell? ⟨g, off + k * 2 + 1, none⟩ = some (.int .i64 y) := by rw [hwd]; exact q1
      clear q0 q1
      clear hwd
      refine plan_run fun m hm => ?_
      simp only [pickO, List.filterMap_cons, List.filterMap_nil, List.getElem?_toArray, List.getElem?_cons_zero, List.getElem?_cons_succ] at hm
      subst hm
      go_wp2_with fail
      refine ⟨rfl, by rfl, ?_⟩
      refine plan_ev fun m hm => ?_
      simp only [pickO, List.filterMap_cons, List.filterMap_nil, List.getElem?_toArray, List.getElem?_cons_zero, List.getElem?_cons_succ] at hm
      subst hm
      go_wp2_with fail
      refine ⟨rfl, trivial, ?_⟩
      try simp only [Act.put, List.setIfInBounds_toArray, List.set_cons_zero, List.set_cons_succ]
      refine plan_ev fun m hm => ?_
      simp only [pickO, List.filterMap_cons, List.filterMap_nil, List.getElem?_toArray, List.getElem?_cons_zero, List.getElem?_cons_succ] at hm
      subst hm
      refine appS (q := 2) (by_ := 16) (cs := #[.int .i64 x, .int .i64 y]) (fun j => if j = 0 then x else y) Try.underlying28 (by kernel_rfl) (by decide) (by decide) rfl (.tmp 11) (.tmp 23) rfl rfl rfl rfl HO.out (by omega) HB.out.size ?_
      intro v7 w7 hO7 _ _ hb7
      have HO8 : Hid (OwnS w7 w.heap.size 62 2 v7 (k + 1) f) := Lib.hid (hO7.congr fun i hi q hq => by
          by_cases e : i = k
          · subst e; rw [if_pos rfl, HX.out, HY.out]; rcases (by omega : q = 0 ∨ q = 1) with rfl | rfl <;> rfl
          · rw [if_neg e])
      have HB8 := Lib.hid (HB.out.trans hb7)
      obtain ⟨A8, c8, rfl, _, _⟩ := hO7.form
      clear hO7 hb7
      refine ⟨rfl, trivial, ?_⟩
      try simp only [Act.put, List.setIfInBounds_toArray, List.set_cons_zero, List.set_cons_succ]
      refine plan_run fun m hm => ?_
      simp only [pickO, List.filterMap_cons, List.filterMap_nil, List.getElem?_toArray, List.getElem?_cons_zero, List.getElem?_cons_succ] at hm
      subst hm
      go_wp2_with fail
      refine ⟨rfl, by rfl, ?_⟩
      refine plan_fin ?_
      go_wp2
      exact ⟨⟨k + 1, _, by omega, rfl, by go_num, HO8, HB8⟩, by simp [intOf]; omega⟩
    · obtain rfl : k = n := by omega
      go_wp2
      go_ret
      exact Lib.hid ⟨_, rfl, hO.out, hb.out⟩
def exF : Nat → Nat → Int := fun i _ => if i = 0 then 2 else 1
set_option maxHeartbeats 0 in
theorem awake_walk (w : World) : Calls Try.prog 7 #[] w fun e w' => e = .returned (.bool true) ∧ Below w.heap.size w w' := by
  have hal : Below w.heap.size w (w.alloc (.cells #[.int .i64 2, .int .i64 2, .int .i64 1, .int .i64 1, .int .i64 1, .int .i64 1] 62)) := (Below.refl _ _).alloc (Nat.le_refl _) _
  have hR : RdS (w.alloc (.cells #[.int .i64 2, .int .i64 2, .int .i64 1, .int .i64 1, .int .i64 1, .int .i64 1] 62)) (some ⟨w.heap.size, 0, none⟩) 3 2 exF := by
    intro i hi
    refine ⟨_, _, rfl, by simp, fun j hj => ?_⟩
    have hB := (Blk.new w 62 #[.int .i64 2, .int .i64 2, .int .i64 1, .int .i64 1, .int .i64 1, .int .i64 1]).cell (0 + (i * 2 + j))
    rw [hB]
    rcases (by omega : i = 0 ∨ i = 1 ∨ i = 2) with rfl | rfl | rfl <;> rcases (by omega : j = 0 ∨ j = 1) with rfl | rfl <;> rfl
  have hN := (new_walk 17 9 (some ⟨w.heap.size, 0, none⟩) 3 3 exF _ (by omega) hR).mono fun e w' h => NewPost.get h (by rfl)
  have v0 : gridU 17 9 (pF 3 exF) 3 0 0 = 4 := by rfl
  have v1 : gridU 17 9 (pF 3 exF) 3 0 1 = 2 := by rfl
  have v2 : gridU 17 9 (pF 3 exF) 3 0 2 = 3 := by rfl
  have v3 : gridU 17 9 (pF 3 exF) 3 0 3 = 2 := by rfl
  have a0 : acU 17 (pF 3 exF) 3 0 = 2 := by rfl
  have a1 : acU 9 (pF 3 exF) 3 1 = 1 := by rfl
  have HN := Lib.hid hN; have HAL := Lib.hid hal; have V0 := Lib.hid v0; have V1 := Lib.hid v1; have V2 := Lib.hid v2; have V3 := Lib.hid v3; have A0 := Lib.hid a0; have A1 := Lib.hid a1
  clear hN hR hal v0 v1 v2 v3 a0 a1
  go_enter Try.func7, Try.ntmps7
  go_wp2_with (first | (go_at_call 8; refine HN.out.mono ?_; intro e w2 hp; obtain ⟨G, pv, gs, rfl, hI, hb2⟩ := hp.out; have HI := Lib.hid hI; have HB2 := Lib.hid (HAL.out.trans (hb2.mono HAL.out.size)); obtain ⟨A4, c4, rfl, hnc4, hR4⟩ := hI.go.form; have HR4 := Lib.hid hR4; clear hI hb2 hp hR4 hnc4) | (go_at_call 12; (have hgr := grid_ok w2 G pv A4 3 c4 _ _ _ _ _ _ _ HI.out.fr HR4.out 0 (by omega)); rw [V0.out, V1.out, V2.out, V3.out] at hgr; refine hgr.mono ?_; clear hgr; rintro e w3 ⟨rfl, hb3⟩; have HB3 := Lib.hid (HB2.out.trans (hb3.mono HB2.out.size)); have HF3 := Lib.hid (HI.out.fr.bel hb3); clear hb3) | (go_at_call 10; (have hun := units_walk (w3.alloc (.cells #[.int .i64 4, .int .i64 2, .int .i64 3, .int .i64 2] 33)) G _ _ _ _ _ _ _ _ (HF3.out.alloc _)); rw [A0.out, A1.out] at hun; refine hun.mono ?_; clear hun; rintro e w4 ⟨rfl, hb4⟩; have hc4 := fun k => ((Blk.new w3 33 #[.int .i64 4, .int .i64 2, .int .i64 3, .int .i64 2]).bel hb4).cell k; have e0 : w4.cell? ⟨w3.heap.size, 0, none⟩ = some (.int .i64 4) := hc4 0; have e1 : w4.cell? ⟨w3.heap.size, 1, none⟩ = some (.int .i64 2) := hc4 1; have e2 : w4.cell? ⟨w3.heap.size, 2, none⟩ = some (.int .i64 3) := hc4 2; have e3 : w4.cell? ⟨w3.heap.size, 3, none⟩ = some (.int .i64 2) := hc4 3; have HB4 := Lib.hid ((HB3.out.alloc HB3.out.size (.cells #[.int .i64 4, .int .i64 2, .int .i64 3, .int .i64 2] 33)).trans (hb4.mono (by have := HB3.out.size; simp; omega))); clear hb4 hc4))
  go_ret
  exact ⟨rfl, HB4.out⟩
end Go.Proofs.Ytjfnlgmllhjonaa
