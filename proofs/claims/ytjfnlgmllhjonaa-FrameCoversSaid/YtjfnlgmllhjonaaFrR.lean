/- The document's Rises (gen_frr.py). No condition. -/
import Derived.Test.YtjfnlgmllhjonaaFrP
import Derived.Test.YtjfnlgmllhjonaaFrI
namespace Go.Proofs.Ytjfnlgmllhjonaa
open Go.RowKit
set_option linter.unusedSimpArgs false
set_option linter.unusedVariables false
set_option maxRecDepth 100000
/-- Whole numbers that lie in a row. -/
def RdZ (w : World) (C : Option Addr) (m : Nat) (f : Nat → Int) : Prop := ∀ j, j < m → ∃ g off, C = some ⟨g, off, none⟩ ∧ g < w.heap.size ∧ w.cell? ⟨g, off + j, none⟩ = some (.int .i64 (f j))
theorem RdZ.bel {w w' : World} {C : Option Addr} {m : Nat} {f : Nat → Int} (h : RdZ w C m f) (hb : Below w.heap.size w w') : RdZ w' C m f := fun i hi => by
  obtain ⟨g, off, h1, h2, h3⟩ := h i hi
  exact ⟨g, off, h1, Nat.lt_of_lt_of_le h2 hb.size, (hb.cell (p := ⟨g, off + i, none⟩) h2).trans h3⟩
/-- It is a component, beyond the one ahead of it. -/
def goodZ (ng : Nat) (f : Nat → Int) (i : Nat) : Prop := 0 ≤ f i ∧ f i < ng ∧ (0 < i → f (i - 1) < f i)
instance (ng : Nat) (f : Nat → Int) (i : Nat) : Decidable (goodZ ng f i) := by unfold goodZ; exact inferInstance
def risesB (ng m : Nat) (f : Nat → Int) : Bool := decide (0 < m ∧ ∀ i, i < m → goodZ ng f i)
set_option maxHeartbeats 2000000 in
theorem rises_walk (w : World) (uw uh ac dn : Int) (pv : Value) (Ag C : Option Addr) (ng cg m cc : Nat) (f : Nat → Int) (hC : RdZ w C m f) (hm : m ≤ 1000000) :
    Calls Try.prog 19 #[.agg (rfC uw uh ac dn pv (.slice Ag ng cg)), .slice C m cc] w fun e w' => e = .returned (.bool (risesB ng m f)) ∧ Below w.heap.size w w' := by
  have HC := Lib.hid hC
  obtain ⟨res, hres⟩ : ∃ z, z = risesB ng m f := ⟨_, rfl⟩
  rw [← hres]
  have HR := Lib.hid hres
  have HF0 : Hid (Blk (w.alloc (.cells (rfC uw uh ac dn pv (.slice Ag ng cg)) 39)) w.heap.size 39 (rfC uw uh ac dn pv (.slice Ag ng cg)) ∧ Below w.heap.size w (w.alloc (.cells (rfC uw uh ac dn pv (.slice Ag ng cg)) 39))) := Lib.hid ⟨Blk.new _ _ _, (Below.refl _ _).alloc (Nat.le_refl _) _⟩
  clear hC hres
  unfold rfC
  go_enter Try.func19, Try.ntmps19
  go_wp2_with fail
  go_loopw [5] (fun t wr => ∃ k : Nat, k ≤ m ∧ t = .int .i64 k ∧ Hid (∀ i, i < k → goodZ ng f i) ∧ Hid (Below w.heap.size w wr ∧ Blk wr w.heap.size 39 (rfC uw uh ac dn pv (.slice Ag ng cg)))) (fun t _ => m - (intOf t).toNat)
  case atStart => exact ⟨0, by omega, rfl, Lib.hid (fun i hi => absurd hi (Nat.not_lt_zero i)), Lib.hid ⟨HF0.out.2, HF0.out.1⟩⟩
  case round =>
    obtain ⟨k, hk, rfl, HG, HBB⟩ := hrel
    have HB := Lib.hid HBB.out.1
    have HF := Lib.hid HBB.out.2
    clear HF0
    by_cases hkm : k < m
    case neg =>
      obtain rfl : m = k := by omega
      have HRES : Hid (res = decide (0 < m)) := Lib.hid (by
        rw [HR.out, risesB, Bool.eq_iff_iff, decide_eq_true_eq, decide_eq_true_eq]
        exact ⟨fun h => by omega, fun h => ⟨by omega, HG.out⟩⟩)
      go_wp2_with fail
      go_ret
      exact ⟨by rw [HRES.out]; rfl, HB.out⟩
    case pos =>
    obtain ⟨gc, oc, hCe, hgc, hq0⟩ := HC.out k hkm
    have hq1 : 0 < k → w.cell? ⟨gc, oc + (k - 1), none⟩ = some (.int .i64 (f (k - 1))) := fun h0 => by
      obtain ⟨g', o', e', _, h1⟩ := HC.out (k - 1) (by omega)
      rw [hCe] at e'
      cases e'
      exact h1
    have hbad : ¬ goodZ ng f k → res = false := fun h => by
      rw [HR.out, risesB]
      exact decide_eq_false fun h1 => h (h1.2 k hkm)
    have hgood : goodZ ng f k → ∀ i, i < k + 1 → goodZ ng f i := fun h i hi => by
      by_cases e : i = k
      · rw [e]; exact h
      · exact HG.out i (by omega)
    subst hCe
    obtain ⟨x, hx⟩ : ∃ z, z = f k := ⟨_, rfl⟩
    obtain ⟨y, hy⟩ : ∃ z, z = f (k - 1) := ⟨_, rfl⟩
    have hiff : goodZ ng f k ↔ (0 ≤ x ∧ x < ng ∧ (0 < k → y < x)) := by rw [hx, hy]; exact Iff.rfl
    rw [← hx] at hq0
    rw [← hy] at hq1
    rw [hiff] at hbad hgood
    have HQ0 := Lib.hid hq0; have HQ1 := Lib.hid hq1; have HBAD := Lib.hid hbad; have HGOOD := Lib.hid hgood
    clear hq0 hq1 hbad hgood hiff hx hy
    go_upto_region 4 with fail
    by_cases h1 : x < 0
    case pos =>
      have HRES := Lib.hid (HBAD.out (by omega))
      have d1 : decide (x < 0) = true := by simpa using h1
      clear h1
      refine region_plan (.run [0, 1, 2, 3, 4, 5] (.held 6 (.held 7 (.held 8 (.held 9 (.held 10 (.held 11 (.held 12 (.held 13 (.run [14, 15] (.held 16 (.held 17 (.held 18 (.held 19 (.held 20 (.held 21 (.held 22 (.held 23 (.held 24 (.held 25 (.held 26 (.held 27 (.held 28 (.held 29 (.run [30] .fin))))))))))))))))))))))))) (fun w' => True) (by kernel_rfl) trivial ?_
      intro wd hwd
      have HBW : Hid (Below w.heap.size w wd ∧ Blk wd w.heap.size 39 (rfC uw uh ac dn pv (.slice Ag ng cg))) := Lib.hid ⟨hwd ▸ HB.out.drew, by rw [hwd]; exact HF.out⟩
      have hbd : Below w.heap.size w wd := hwd ▸ HB.out.drew
      have HBd := Lib.hid hbd
      have f5 : wd.cell? ⟨w.heap.size, 5, none⟩ = some (.slice Ag ng cg) := by rw [hwd]; exact HF.out.cell 5
      have u0 : wd.cell? ⟨gc, oc + k, none⟩ = some (.int .i64 x) := (hbd.cell (p := ⟨gc, oc + k, none⟩) hgc).trans HQ0.out
      clear hbd
      clear hwd
      refine plan_run fun m hm => ?_
      simp only [pickO, List.filterMap_cons, List.filterMap_nil, List.getElem?_toArray, List.getElem?_cons_zero, List.getElem?_cons_succ] at hm
      subst hm
      go_wp2_with fail
      refine ⟨rfl, by rfl, ?_⟩
      refine plan_off (o := ⟨some 18, _, _, _, _, _⟩) rfl (by rfl) ?_
      try simp only [Act.put, List.setIfInBounds_toArray, List.set_cons_zero, List.set_cons_succ]
      refine plan_off (o := ⟨some 19, _, _, _, _, _⟩) rfl (by rfl) ?_
      try simp only [Act.put, List.setIfInBounds_toArray, List.set_cons_zero, List.set_cons_succ]
      refine plan_off (o := ⟨some 20, _, _, _, _, _⟩) rfl (by rfl) ?_
      try simp only [Act.put, List.setIfInBounds_toArray, List.set_cons_zero, List.set_cons_succ]
      refine plan_off (o := ⟨some 21, _, _, _, _, _⟩) rfl (by rfl) ?_
      try simp only [Act.put, List.setIfInBounds_toArray, List.set_cons_zero, List.set_cons_succ]
      refine plan_off (o := ⟨some 22, _, _, _, _, _⟩) rfl (by rfl) ?_
      try simp only [Act.put, List.setIfInBounds_toArray, List.set_cons_zero, List.set_cons_succ]
      refine plan_off (o := ⟨some 23, _, _, _, _, _⟩) rfl (by rfl) ?_
      try simp only [Act.put, List.setIfInBounds_toArray, List.set_cons_zero, List.set_cons_succ]
      refine plan_off (o := ⟨some 24, _, _, _, _, _⟩) rfl (by rfl) ?_
      try simp only [Act.put, List.setIfInBounds_toArray, List.set_cons_zero, List.set_cons_succ]
      refine plan_off (o := ⟨some 25, _, _, _, _, _⟩) rfl (by rfl) ?_
      try simp only [Act.put, List.setIfInBounds_toArray, List.set_cons_zero, List.set_cons_succ]
      refine plan_run fun m hm => ?_
      simp only [pickO, List.filterMap_cons, List.filterMap_nil, List.getElem?_toArray, List.getElem?_cons_zero, List.getElem?_cons_succ] at hm
      subst hm
      go_wp2_with fail
      refine ⟨rfl, by rfl, ?_⟩
      refine plan_off (o := ⟨some 28, _, _, _, _, _⟩) rfl (by rfl) ?_
      try simp only [Act.put, List.setIfInBounds_toArray, List.set_cons_zero, List.set_cons_succ]
      refine plan_off (o := ⟨some 29, _, _, _, _, _⟩) rfl (by rfl) ?_
      try simp only [Act.put, List.setIfInBounds_toArray, List.set_cons_zero, List.set_cons_succ]
      refine plan_off (o := ⟨some 30, _, _, _, _, _⟩) rfl (by rfl) ?_
      try simp only [Act.put, List.setIfInBounds_toArray, List.set_cons_zero, List.set_cons_succ]
      refine plan_off (o := ⟨some 31, _, _, _, _, _⟩) rfl (by rfl) ?_
      try simp only [Act.put, List.setIfInBounds_toArray, List.set_cons_zero, List.set_cons_succ]
      refine plan_off (o := ⟨some 32, _, _, _, _, _⟩) rfl (by rfl) ?_
      try simp only [Act.put, List.setIfInBounds_toArray, List.set_cons_zero, List.set_cons_succ]
      refine plan_off (o := ⟨some 33, _, _, _, _, _⟩) rfl (by rfl) ?_
      try simp only [Act.put, List.setIfInBounds_toArray, List.set_cons_zero, List.set_cons_succ]
      refine plan_off (o := ⟨some 34, _, _, _, _, _⟩) rfl (by rfl) ?_
      try simp only [Act.put, List.setIfInBounds_toArray, List.set_cons_zero, List.set_cons_succ]
      refine plan_off (o := ⟨some 35, _, _, _, _, _⟩) rfl (by rfl) ?_
      try simp only [Act.put, List.setIfInBounds_toArray, List.set_cons_zero, List.set_cons_succ]
      refine plan_off (o := ⟨some 36, _, _, _, _, _⟩) rfl (by rfl) ?_
      try simp only [Act.put, List.setIfInBounds_toArray, List.set_cons_zero, List.set_cons_succ]
      refine plan_off (o := ⟨some 37, _, _, _, _, _⟩) rfl (by rfl) ?_
      try simp only [Act.put, List.setIfInBounds_toArray, List.set_cons_zero, List.set_cons_succ]
      refine plan_off (o := ⟨some 38, _, _, _, _, _⟩) rfl (by rfl) ?_
      try simp only [Act.put, List.setIfInBounds_toArray, List.set_cons_zero, List.set_cons_succ]
      refine plan_off (o := ⟨some 39, _, _, _, _, _⟩) rfl (by rfl) ?_
      try simp only [Act.put, List.setIfInBounds_toArray, List.set_cons_zero, List.set_cons_succ]
      refine plan_off (o := ⟨some 40, _, _, _, _, _⟩) rfl (by rfl) ?_
      try simp only [Act.put, List.setIfInBounds_toArray, List.set_cons_zero, List.set_cons_succ]
      refine plan_off (o := ⟨some 41, _, _, _, _, _⟩) rfl (by rfl) ?_
      try simp only [Act.put, List.setIfInBounds_toArray, List.set_cons_zero, List.set_cons_succ]
      refine plan_run fun m hm => ?_
      simp only [pickO, List.filterMap_cons, List.filterMap_nil, List.getElem?_toArray, List.getElem?_cons_zero, List.getElem?_cons_succ] at hm
      subst hm
      go_wp2_with fail
      refine ⟨rfl, by rfl, ?_⟩
      refine plan_fin ?_
      go_wp2_with fail
      go_ret
      exact ⟨by rw [HRES.out]; rfl, HBd.out⟩
    case neg =>
    have d1 : decide (x < 0) = false := by simpa using h1
    by_cases h2 : x < ng
    case neg =>
      have HRES := Lib.hid (HBAD.out (by omega))
      have d2 : decide ((ng : Int) ≤ x) = true := by simp; omega
      clear h1 h2
      refine region_plan (.run [0, 1, 2, 3, 4, 5, 6, 7, 8, 9, 10, 11, 12, 13, 14, 15] (.held 16 (.held 17 (.held 18 (.held 19 (.held 20 (.held 21 (.held 22 (.held 23 (.held 24 (.held 25 (.held 26 (.held 27 (.held 28 (.held 29 (.run [30] .fin)))))))))))))))) (fun w' => True) (by kernel_rfl) trivial ?_
      intro wd hwd
      have HBW : Hid (Below w.heap.size w wd ∧ Blk wd w.heap.size 39 (rfC uw uh ac dn pv (.slice Ag ng cg))) := Lib.hid ⟨hwd ▸ HB.out.drew, by rw [hwd]; exact HF.out⟩
      have hbd : Below w.heap.size w wd := hwd ▸ HB.out.drew
      have HBd := Lib.hid hbd
      have f5 : wd.cell? ⟨w.heap.size, 5, none⟩ = some (.slice Ag ng cg) := by rw [hwd]; exact HF.out.cell 5
      have u0 : wd.cell? ⟨gc, oc + k, none⟩ = some (.int .i64 x) := (hbd.cell (p := ⟨gc, oc + k, none⟩) hgc).trans HQ0.out
      clear hbd
      clear hwd
      refine plan_run fun m hm => ?_
      simp only [pickO, List.filterMap_cons, List.filterMap_nil, List.getElem?_toArray, List.getElem?_cons_zero, List.getElem?_cons_succ] at hm
      subst hm
      go_wp2_with fail
      refine ⟨rfl, by rfl, ?_⟩
      refine plan_off (o := ⟨some 28, _, _, _, _, _⟩) rfl (by rfl) ?_
      try simp only [Act.put, List.setIfInBounds_toArray, List.set_cons_zero, List.set_cons_succ]
      refine plan_off (o := ⟨some 29, _, _, _, _, _⟩) rfl (by rfl) ?_
      try simp only [Act.put, List.setIfInBounds_toArray, List.set_cons_zero, List.set_cons_succ]
      refine plan_off (o := ⟨some 30, _, _, _, _, _⟩) rfl (by rfl) ?_
      try simp only [Act.put, List.setIfInBounds_toArray, List.set_cons_zero, List.set_cons_succ]
      refine plan_off (o := ⟨some 31, _, _, _, _, _⟩) rfl (by rfl) ?_
      try simp only [Act.put, List.setIfInBounds_toArray, List.set_cons_zero, List.set_cons_succ]
      refine plan_off (o := ⟨some 32, _, _, _, _, _⟩) rfl (by rfl) ?_
      try simp only [Act.put, List.setIfInBounds_toArray, List.set_cons_zero, List.set_cons_succ]
      refine plan_off (o := ⟨some 33, _, _, _, _, _⟩) rfl (by rfl) ?_
      try simp only [Act.put, List.setIfInBounds_toArray, List.set_cons_zero, List.set_cons_succ]
      refine plan_off (o := ⟨some 34, _, _, _, _, _⟩) rfl (by rfl) ?_
      try simp only [Act.put, List.setIfInBounds_toArray, List.set_cons_zero, List.set_cons_succ]
      refine plan_off (o := ⟨some 35, _, _, _, _, _⟩) rfl (by rfl) ?_
      try simp only [Act.put, List.setIfInBounds_toArray, List.set_cons_zero, List.set_cons_succ]
      refine plan_off (o := ⟨some 36, _, _, _, _, _⟩) rfl (by rfl) ?_
      try simp only [Act.put, List.setIfInBounds_toArray, List.set_cons_zero, List.set_cons_succ]
      refine plan_off (o := ⟨some 37, _, _, _, _, _⟩) rfl (by rfl) ?_
      try simp only [Act.put, List.setIfInBounds_toArray, List.set_cons_zero, List.set_cons_succ]
      refine plan_off (o := ⟨some 38, _, _, _, _, _⟩) rfl (by rfl) ?_
      try simp only [Act.put, List.setIfInBounds_toArray, List.set_cons_zero, List.set_cons_succ]
      refine plan_off (o := ⟨some 39, _, _, _, _, _⟩) rfl (by rfl) ?_
      try simp only [Act.put, List.setIfInBounds_toArray, List.set_cons_zero, List.set_cons_succ]
      refine plan_off (o := ⟨some 40, _, _, _, _, _⟩) rfl (by rfl) ?_
      try simp only [Act.put, List.setIfInBounds_toArray, List.set_cons_zero, List.set_cons_succ]
      refine plan_off (o := ⟨some 41, _, _, _, _, _⟩) rfl (by rfl) ?_
      try simp only [Act.put, List.setIfInBounds_toArray, List.set_cons_zero, List.set_cons_succ]
      refine plan_run fun m hm => ?_
      simp only [pickO, List.filterMap_cons, List.filterMap_nil, List.getElem?_toArray, List.getElem?_cons_zero, List.getElem?_cons_succ] at hm
      subst hm
      go_wp2_with fail
      refine ⟨rfl, by rfl, ?_⟩
      refine plan_fin ?_
      go_wp2_with fail
      go_ret
      exact ⟨by rw [HRES.out]; rfl, HBd.out⟩
    case pos =>
    have d2 : decide ((ng : Int) ≤ x) = false := by simp; omega
    by_cases h3 : 0 < k
    case neg =>
      have d3 : decide ((0 : Int) < (k : Int)) = false := by simp; omega
      have HN := Lib.hid (HGOOD.out ⟨by omega, h2, fun h => absurd h h3⟩)
      clear h1 h2
      refine region_plan (.run [0, 1, 2, 3, 4, 5, 6, 7, 8, 9, 10, 11, 12, 13, 14, 15, 16, 17, 18] (.held 19 (.held 20 (.held 21 (.held 22 (.held 23 (.held 24 (.held 25 (.held 26 (.held 27 (.held 28 (.run [29, 30] .fin)))))))))))) (fun w' => True) (by kernel_rfl) trivial ?_
      intro wd hwd
      have HBW : Hid (Below w.heap.size w wd ∧ Blk wd w.heap.size 39 (rfC uw uh ac dn pv (.slice Ag ng cg))) := Lib.hid ⟨hwd ▸ HB.out.drew, by rw [hwd]; exact HF.out⟩
      have hbd : Below w.heap.size w wd := hwd ▸ HB.out.drew
      have HBd := Lib.hid hbd
      have f5 : wd.cell? ⟨w.heap.size, 5, none⟩ = some (.slice Ag ng cg) := by rw [hwd]; exact HF.out.cell 5
      have u0 : wd.cell? ⟨gc, oc + k, none⟩ = some (.int .i64 x) := (hbd.cell (p := ⟨gc, oc + k, none⟩) hgc).trans HQ0.out
      clear hbd
      clear hwd
      refine plan_run fun m hm => ?_
      simp only [pickO, List.filterMap_cons, List.filterMap_nil, List.getElem?_toArray, List.getElem?_cons_zero, List.getElem?_cons_succ] at hm
      subst hm
      go_wp2_with fail
      refine ⟨rfl, by rfl, ?_⟩
      refine plan_off (o := ⟨some 31, _, _, _, _, _⟩) rfl (by rfl) ?_
      try simp only [Act.put, List.setIfInBounds_toArray, List.set_cons_zero, List.set_cons_succ]
      refine plan_off (o := ⟨some 32, _, _, _, _, _⟩) rfl (by rfl) ?_
      try simp only [Act.put, List.setIfInBounds_toArray, List.set_cons_zero, List.set_cons_succ]
      refine plan_off (o := ⟨some 33, _, _, _, _, _⟩) rfl (by rfl) ?_
      try simp only [Act.put, List.setIfInBounds_toArray, List.set_cons_zero, List.set_cons_succ]
      refine plan_off (o := ⟨some 34, _, _, _, _, _⟩) rfl (by rfl) ?_
      try simp only [Act.put, List.setIfInBounds_toArray, List.set_cons_zero, List.set_cons_succ]
      refine plan_off (o := ⟨some 35, _, _, _, _, _⟩) rfl (by rfl) ?_
      try simp only [Act.put, List.setIfInBounds_toArray, List.set_cons_zero, List.set_cons_succ]
      refine plan_off (o := ⟨some 36, _, _, _, _, _⟩) rfl (by rfl) ?_
      try simp only [Act.put, List.setIfInBounds_toArray, List.set_cons_zero, List.set_cons_succ]
      refine plan_off (o := ⟨some 37, _, _, _, _, _⟩) rfl (by rfl) ?_
      try simp only [Act.put, List.setIfInBounds_toArray, List.set_cons_zero, List.set_cons_succ]
      refine plan_off (o := ⟨some 38, _, _, _, _, _⟩) rfl (by rfl) ?_
      try simp only [Act.put, List.setIfInBounds_toArray, List.set_cons_zero, List.set_cons_succ]
      refine plan_off (o := ⟨some 39, _, _, _, _, _⟩) rfl (by rfl) ?_
      try simp only [Act.put, List.setIfInBounds_toArray, List.set_cons_zero, List.set_cons_succ]
      refine plan_off (o := ⟨some 40, _, _, _, _, _⟩) rfl (by rfl) ?_
      try simp only [Act.put, List.setIfInBounds_toArray, List.set_cons_zero, List.set_cons_succ]
      refine plan_run fun m hm => ?_
      simp only [pickO, List.filterMap_cons, List.filterMap_nil, List.getElem?_toArray, List.getElem?_cons_zero, List.getElem?_cons_succ] at hm
      subst hm
      go_wp2_with fail
      refine ⟨rfl, by rfl, ?_⟩
      refine plan_fin ?_
      go_wp2_with fail
      go_roundw
      case rel => exact ⟨k + 1, by omega, by go_num, HN, HBW⟩
      case measure => simp [intOf]; omega
    case pos =>
    have d3 : decide ((0 : Int) < (k : Int)) = true := by simp; omega
    obtain ⟨k1, hk1⟩ : ∃ z, z = k - 1 := ⟨_, rfl⟩
    have hk1' : (k : Int) - 1 = k1 := by omega
    have HQ2 := Lib.hid (HQ1.out h3)
    rw [← hk1] at HQ2
    by_cases h4 : y < x
    case neg =>
      have HRES := Lib.hid (HBAD.out (by omega))
      have d4 : decide (x ≤ y) = true := by simp; omega
      clear h1 h2 hk1
      refine region_plan (.run [0, 1, 2, 3, 4, 5, 6, 7, 8, 9, 10, 11, 12, 13, 14, 15, 16, 17, 18, 19, 20, 21, 22, 23, 24, 25, 26, 27, 28, 29, 30] .fin) (fun w' => True) (by kernel_rfl) trivial ?_
      intro wd hwd
      have HBW : Hid (Below w.heap.size w wd ∧ Blk wd w.heap.size 39 (rfC uw uh ac dn pv (.slice Ag ng cg))) := Lib.hid ⟨hwd ▸ HB.out.drew, by rw [hwd]; exact HF.out⟩
      have hbd : Below w.heap.size w wd := hwd ▸ HB.out.drew
      have HBd := Lib.hid hbd
      have f5 : wd.cell? ⟨w.heap.size, 5, none⟩ = some (.slice Ag ng cg) := by rw [hwd]; exact HF.out.cell 5
      have u0 : wd.cell? ⟨gc, oc + k, none⟩ = some (.int .i64 x) := (hbd.cell (p := ⟨gc, oc + k, none⟩) hgc).trans HQ0.out
      have v0 : wd.cell? ⟨gc, oc + k1, none⟩ = some (.int .i64 y) := (hbd.cell (p := ⟨gc, oc + k1, none⟩) hgc).trans HQ2.out
      clear hbd
      clear hwd
      refine plan_run fun m hm => ?_
      simp only [pickO, List.filterMap_cons, List.filterMap_nil, List.getElem?_toArray, List.getElem?_cons_zero, List.getElem?_cons_succ] at hm
      subst hm
      go_wp2_with fail
      refine ⟨rfl, by rfl, ?_⟩
      refine plan_fin ?_
      go_wp2_with fail
      go_ret
      exact ⟨by rw [HRES.out]; rfl, HBd.out⟩
    case pos =>
      have d4 : decide (x ≤ y) = false := by simp; omega
      have HN := Lib.hid (HGOOD.out ⟨by omega, h2, fun _ => h4⟩)
      clear h1 h2 hk1
      refine region_plan (.run [0, 1, 2, 3, 4, 5, 6, 7, 8, 9, 10, 11, 12, 13, 14, 15, 16, 17, 18, 19, 20, 21, 22, 23, 24, 25, 26, 27, 28, 29, 30] .fin) (fun w' => True) (by kernel_rfl) trivial ?_
      intro wd hwd
      have HBW : Hid (Below w.heap.size w wd ∧ Blk wd w.heap.size 39 (rfC uw uh ac dn pv (.slice Ag ng cg))) := Lib.hid ⟨hwd ▸ HB.out.drew, by rw [hwd]; exact HF.out⟩
      have hbd : Below w.heap.size w wd := hwd ▸ HB.out.drew
      have HBd := Lib.hid hbd
      have f5 : wd.cell? ⟨w.heap.size, 5, none⟩ = some (.slice Ag ng cg) := by rw [hwd]; exact HF.out.cell 5
      have u0 : wd.cell? ⟨gc, oc + k, none⟩ = some (.int .i64 x) := (hbd.cell (p := ⟨gc, oc + k, none⟩) hgc).trans HQ0.out
      have v0 : wd.cell? ⟨gc, oc + k1, none⟩ = some (.int .i64 y) := (hbd.cell (p := ⟨gc, oc + k1, none⟩) hgc).trans HQ2.out
      clear hbd
      clear hwd
      refine plan_run fun m hm => ?_
      simp only [pickO, List.filterMap_cons, List.filterMap_nil, List.getElem?_toArray, List.getElem?_cons_zero, List.getElem?_cons_succ] at hm
      subst hm
      go_wp2_with fail
      refine ⟨rfl, by rfl, ?_⟩
      refine plan_fin ?_
      go_wp2_with fail
      go_roundw
      case rel => exact ⟨k + 1, by omega, by go_num, HN, HBW⟩
      case measure => simp [intOf]; omega
end Go.Proofs.Ytjfnlgmllhjonaa
