/- Every call of a writer, in every order, answers what the document says, and makes its bytes. No condition. -/
import Derived.Test.YtidockifeofgfaaWrW
import Derived.Test.YtidockifeofgfaaInS
import Derived.ShutString
import Derived.ChangeOld
import Derived.SizedLaws
namespace Go.Proofs.Ytidockifeofgfaa
open Go.RowKit
set_option linter.unusedSimpArgs false
set_option linter.unusedVariables false
def KA2 : Nat → IntKind := fun j => if j = 0 then .u8 else .i64
set_option maxHeartbeats 0 in
set_option maxRecDepth 20000 in
theorem writes_ok (A : Option Addr) (n c : Nat) (f : Nat → Nat → Int) (hnc : n ≤ c) (hn : n ≤ 200) (w : World) (hI : InS w A n 3 KA2 f) :
    Calls Try.prog 4 #[.slice A n c] w fun e w' => e = .returned (.bool true) ∧ Below w.heap.size w w' := by
  have HI := Lib.hid hI; clear hI
  have hg2 : decide ((200 : Int) < (n : Int)) = false := by simp; omega
  go_enter Try.func4, Try.ntmps4
  go_wp2_with (first | (go_at_call 8; refine (awake_true _).mono ?_; rintro e w1 ⟨rfl, hb1⟩; have HB1 := Lib.hid hb1; clear hb1) | (go_at_call 9; refine (newWriter_walk _).mono ?_; rintro e w2 ⟨rfl, hW2, hb2⟩; have HW2 := Lib.hid hW2; have HB2 := Lib.hid (HB1.out.trans (hb2.mono HB1.out.size)); have HS2 := Lib.hid hb2.size; have HL2 := Lib.hid hW2.1.lt; clear hW2 hb2))
  have hGB : w.heap.size ≤ w1.heap.size := HB1.out.size
  have hMB : w.heap.size ≤ w2.heap.size := HB2.out.size
  have hGM : w1.heap.size ≠ w2.heap.size := by have := HL2.out; omega
  go_loopw [5] (fun i wr => ∃ k : Nat, k ≤ n ∧ i = .int .i64 k ∧ Hid (∃ vv l h c t D y L, WB wr w.heap.size w1.heap.size w2.heap.size vv l h c t D y L ∧ InvW l h c t D L k) ∧ Hid (Below w.heap.size w wr)) (fun i _ => n - (intOf i).toNat)
  case atStart => exact ⟨0, by omega, rfl, Lib.hid ⟨_, [], 0, 0, 0, ⟨#[]⟩, .slice none 0 0, [], ⟨⟨(HW2.out.1.alloc _), (OwnU.nil _ _)⟩, Blk.new _ _ _, OwnI.nil _ _⟩, ⟨⟨[], rfl, by rw [packL_lt (by simp)]; rfl⟩, by rw [restL_lt (by simp)]; rfl, by rw [restL_lt (by simp)]; rfl, rfl, fun b hb => (by cases hb), by simp, by simp, by decide⟩⟩, Lib.hid (HB2.out.alloc HB2.out.size _)⟩
  case round =>
    obtain ⟨k, hk, rfl, hS, hb⟩ := hrel
    obtain ⟨vv, l, h, cc, t, D, y, L, hW, hI⟩ := hS.out
    have HW := Lib.hid hW
    have HIn := Lib.hid hI
    clear hW hI hS
    by_cases hlt : k < n
    · obtain ⟨bb, off, rfl, hbl, hcell⟩ := HI.out k hlt
      have hq0 := (hcell 0 (by decide)).1
      have hq00 := (hcell 0 (by decide)).2
      have hq1 := (hcell 1 (by decide)).1
      have hq2 := (hcell 2 (by decide)).1
      obtain ⟨d, hd⟩ : ∃ d, d = f k 0 := ⟨_, rfl⟩
      obtain ⟨x, hx⟩ : ∃ x, x = f k 1 := ⟨_, rfl⟩
      obtain ⟨yy, hy⟩ : ∃ yy, yy = f k 2 := ⟨_, rfl⟩
      rw [← hd] at hq0 hq00
      rw [← hx] at hq1
      rw [← hy] at hq2
      have hdw : 0 ≤ d ∧ d < 256 := by have hmin : IntKind.u8.min = 0 := rfl; have hmax : IntKind.u8.max = 255 := rfl; simp [KA2, Lit.wf, hmin, hmax] at hq00; omega
      have hqa : wr.cell? ⟨bb, off + k * 3, none⟩ = some (.int .u8 d) := (hb.out.cell (p := ⟨bb, off + k * 3, none⟩) hbl).trans hq0
      have hqb : wr.cell? ⟨bb, off + k * 3 + 1, none⟩ = some (.int .i64 x) := (hb.out.cell (p := ⟨bb, off + (k * 3 + 1), none⟩) hbl).trans hq1
      have hqc : wr.cell? ⟨bb, off + k * 3 + 2, none⟩ = some (.int .i64 yy) := (hb.out.cell (p := ⟨bb, off + (k * 3 + 2), none⟩) hbl).trans hq2
      clear hcell hq0 hq00 hx hd hy
      have Hq1 := Lib.hid hq1; have Hq2 := Lib.hid hq2
      by_cases h5 : d % 6 < 5
      · obtain ⟨l1, h1, c1', t1, L1, e0, hI1, hp1, hp2⟩ := wput_both x yy l h cc t D L k (by omega) HIn.out
        have hI1t := hI1.tot
        have HI1 := Lib.hid hI1
        clear hI1
        clear hq1 hq2
        have hq1 := Hq1.out; have hq2 := Hq2.out
        go_wp2_with fail
        refine region_plan (.run [0, 1, 2, 3, 4, 5, 6, 7, 8, 9, 10] (.ev 11 (.run [12] .fin))) (fun w' => True) (by kernel_rfl) trivial ?_
        intro wd hwd
        have HW := Lib.hid (HW.out.drewE hwd)
        have hb := Lib.hid (belowD hb.out hwd)
        have q1 : wd.cell? ⟨bb, off + k * 3 + 1, none⟩ = some (.int .i64 x) := (hb.out.cell (p := ⟨bb, off + (k * 3 + 1), none⟩) hbl).trans hq1
        have q2 : wd.cell? ⟨bb, off + k * 3 + 2, none⟩ = some (.int .i64 yy) := (hb.out.cell (p := ⟨bb, off + (k * 3 + 2), none⟩) hbl).trans hq2
        clear hwd
        refine plan_run fun m hm => ?_
        simp only [pickO, List.filterMap_cons, List.filterMap_nil, List.getElem?_toArray, List.getElem?_cons_zero, List.getElem?_cons_succ] at hm
        subst hm
        go_wp2_with fail
        refine ⟨rfl, by rfl, ?_⟩
        refine plan_ev fun m hm => ?_
        simp only [pickO, List.filterMap_cons, List.filterMap_nil, List.getElem?_toArray, List.getElem?_cons_zero, List.getElem?_cons_succ] at hm
        subst hm
        go_wp2_with (first | (go_at_call 10; refine (hp1 _ w.heap.size w1.heap.size w2.heap.size vv y HW.out hGB).mono ?_; intro e w4 hp; obtain ⟨vv1, rfl, hW4, hb4⟩ := hp.out; have HW4 := Lib.hid hW4; have HB4 := Lib.hid (hb.out.trans hb4); clear hW4 hb4 hp))
        refine ⟨rfl, trivial, ?_⟩
        try simp only [Act.put, List.setIfInBounds_toArray, List.set_cons_zero, List.set_cons_succ]
        refine plan_run fun m hm => ?_
        simp only [pickO, List.filterMap_cons, List.filterMap_nil, List.getElem?_toArray, List.getElem?_cons_zero, List.getElem?_cons_succ] at hm
        subst hm
        go_wp2_with fail
        refine ⟨rfl, by rfl, ?_⟩
        refine plan_fin ?_
        go_wp2_with fail
        have cD := HW4.out.var.cell 0
        have cY := HW4.out.var.cell 1
        refine region_plan (.run [0, 1, 2, 3, 4, 5, 6, 7, 8, 9, 10] (.ev 11 (.run [12, 13, 14] (.ev 15 (.run [16] .fin))))) (fun w' => True) (by kernel_rfl) trivial ?_
        intro wd2 hwd
        have HW4 := Lib.hid (HW4.out.drewE hwd)
        have HB4 := Lib.hid (belowD HB4.out hwd)
        have cD : wd2.cell? ⟨w2.heap.size, 0, none⟩ = some (.string D) := HW4.out.var.cell 0
        have cY : wd2.cell? ⟨w2.heap.size, 1, none⟩ = some y := HW4.out.var.cell 1
        have q1 : wd2.cell? ⟨bb, off + k * 3 + 1, none⟩ = some (.int .i64 x) := (HB4.out.cell (p := ⟨bb, off + (k * 3 + 1), none⟩) hbl).trans hq1
        have q2 : wd2.cell? ⟨bb, off + k * 3 + 2, none⟩ = some (.int .i64 yy) := (HB4.out.cell (p := ⟨bb, off + (k * 3 + 2), none⟩) hbl).trans hq2
        clear hwd
        refine plan_run fun m hm => ?_
        simp only [pickO, List.filterMap_cons, List.filterMap_nil, List.getElem?_toArray, List.getElem?_cons_zero, List.getElem?_cons_succ] at hm
        subst hm
        go_wp2_with fail
        refine ⟨rfl, by rfl, ?_⟩
        refine plan_ev fun m hm => ?_
        simp only [pickO, List.filterMap_cons, List.filterMap_nil, List.getElem?_toArray, List.getElem?_cons_zero, List.getElem?_cons_succ] at hm
        subst hm
        go_wp2_with (first | (go_at_call 13; refine (hp2 _ w.heap.size _ HW4.out.own HB4.out.size).mono ?_; intro e w5 hp; obtain ⟨y1, rfl, hO5, hb5⟩ := hp.out; have HO5 := Lib.hid hO5; have HW5 := Lib.hid (HW4.out.bel hb5); have HB5 := Lib.hid (HB4.out.trans (hb5.mono HB4.out.size)); clear hO5 hb5 hp))
        refine ⟨rfl, trivial, ?_⟩
        try simp only [Act.put, List.setIfInBounds_toArray, List.set_cons_zero, List.set_cons_succ]
        refine plan_run fun m hm => ?_
        simp only [pickO, List.filterMap_cons, List.filterMap_nil, List.getElem?_toArray, List.getElem?_cons_zero, List.getElem?_cons_succ] at hm
        subst hm
        go_wp2_with fail
        refine ⟨rfl, by rfl, ?_⟩
        refine plan_ev fun m hm => ?_
        simp only [pickO, List.filterMap_cons, List.filterMap_nil, List.getElem?_toArray, List.getElem?_cons_zero, List.getElem?_cons_succ] at hm
        subst hm
        obtain ⟨A1, c1, e1, _⟩ := HO5.out.form
        obtain ⟨N1, hN1⟩ : ∃ N1, N1 = L1.length := ⟨_, rfl⟩
        rw [← hN1] at e1 hI1t
        subst e1
        refine wpList_store_far rfl 35 (.tmp 4) (.tmp 56) rfl w2.heap.size #[.string D, .slice A1 N1 c1] _ 35 rfl rfl HW5.out.var (by kernel_rfl) rfl (by simp [Value.oneCell']) ?_
        intro w6 hB6 hf6 hb6 hs6 _
        have HW6 : Hid (WB w6 w.heap.size w1.heap.size w2.heap.size vv1 l1 h1 c1' t1 D (.slice A1 N1 c1) L1) := Lib.hid ⟨⟨hf6 _ _ _ hGM HW5.out.wr.1, ownsRow_keep HW5.out.wr.2 fun g' cs hB => hf6 _ _ _ (hB.ne HW5.out.var (by decide)) hB⟩, hB6, HO5.out.keep fun g' cs hB => hf6 _ _ _ (hB.ne HW5.out.var (by decide)) hB⟩
        have HB6 := Lib.hid (hb6 w.heap.size w hMB HB5.out)
        have HN1 := Lib.hid hN1
        clear hB6 hf6 hb6 hs6 hN1
        refine ⟨rfl, trivial, ?_⟩
        try simp only [Act.put, List.setIfInBounds_toArray, List.set_cons_zero, List.set_cons_succ]
        refine plan_run fun m hm => ?_
        simp only [pickO, List.filterMap_cons, List.filterMap_nil, List.getElem?_toArray, List.getElem?_cons_zero, List.getElem?_cons_succ] at hm
        subst hm
        go_wp2_with fail
        refine ⟨rfl, by rfl, ?_⟩
        refine plan_fin ?_
        go_wp2_with fail
        obtain ⟨SS, TT, hST, hTT, hend1, hend2⟩ := wend_both l1 h1 c1' t1 D L1 (k + 1) (by omega) HI1.out
        have hDD := HI1.out.sz
        subst hST
        by_cases hk8 : k % 8 = 0
        · have g8 : (((k : Int) % 8) == 0) = true := by simp; omega
          refine region_plan (.run [0, 1, 2, 3, 4, 6] (.held 7 (.run [8] (.ev 5 (.run [9, 10, 11, 12, 13, 14, 15, 16, 18] (.held 19 (.run [20] (.held 21 (.ev 17 (.ev 22 (.run [23, 24, 25, 26] .fin))))))))))) (fun w' => w'.cell? ⟨w2.heap.size, 0, none⟩ = some (.string D) ∧ w'.cell? ⟨w2.heap.size, 1, none⟩ = some (.slice A1 N1 c1)) (by kernel_rfl) ⟨HW6.out.var.cell 0, HW6.out.var.cell 1⟩ ?_
          intro wd3 hwd
          have HW6 := Lib.hid (HW6.out.drewE hwd)
          have HB6 := Lib.hid (belowD HB6.out hwd)
          clear hwd
          refine plan_run fun m hm => ?_
          simp only [pickO, List.filterMap_cons, List.filterMap_nil, List.getElem?_toArray, List.getElem?_cons_zero, List.getElem?_cons_succ] at hm
          subst hm
          go_wp2_with fail
          refine ⟨rfl, by rfl, ?_⟩
          refine plan_held (v := .slice A1 N1 c1) rfl (by rfl) (fun w' hS => ?_) ?_
          · obtain ⟨hS1, hS2⟩ := hS; go_simp
          try simp only [Act.put, List.setIfInBounds_toArray, List.set_cons_zero, List.set_cons_succ]
          refine plan_run fun m hm => ?_
          simp only [pickO, List.filterMap_cons, List.filterMap_nil, List.getElem?_toArray, List.getElem?_cons_zero, List.getElem?_cons_succ] at hm
          subst hm
          go_wp2_with fail
          refine ⟨rfl, by rfl, ?_⟩
          refine plan_ev fun m hm => ?_
          simp only [pickO, List.filterMap_cons, List.filterMap_nil, List.getElem?_toArray, List.getElem?_cons_zero, List.getElem?_cons_succ] at hm
          subst hm
          go_wp2_with (first | (go_at_call 15; refine (len_walk _ w.heap.size w1.heap.size vv1 l1 h1 c1' t1 HW6.out.wr).mono ?_; rintro e w7 ⟨rfl, rfl⟩))
          refine ⟨rfl, ⟨HW6.out.var.cell 0, HW6.out.var.cell 1⟩, ?_⟩
          try simp only [Act.put, List.setIfInBounds_toArray, List.set_cons_zero, List.set_cons_succ]
          refine plan_run fun m hm => ?_
          simp only [pickO, List.filterMap_cons, List.filterMap_nil, List.getElem?_toArray, List.getElem?_cons_zero, List.getElem?_cons_succ] at hm
          subst hm
          go_wp2_with fail
          refine ⟨rfl, by rfl, ?_⟩
          refine plan_held (v := .string D) rfl (by rfl) (fun w' hS => ?_) ?_
          · obtain ⟨hS1, hS2⟩ := hS; go_simp
          try simp only [Act.put, List.setIfInBounds_toArray, List.set_cons_zero, List.set_cons_succ]
          refine plan_run fun m hm => ?_
          simp only [pickO, List.filterMap_cons, List.filterMap_nil, List.getElem?_toArray, List.getElem?_cons_zero, List.getElem?_cons_succ] at hm
          subst hm
          go_wp2_with fail
          refine ⟨rfl, by rfl, ?_⟩
          refine plan_held (v := .slice A1 N1 c1) rfl (by rfl) (fun w' hS => ?_) ?_
          · obtain ⟨hS1, hS2⟩ := hS; go_simp
          try simp only [Act.put, List.setIfInBounds_toArray, List.set_cons_zero, List.set_cons_succ]
          refine plan_ev fun m hm => ?_
          simp only [pickO, List.filterMap_cons, List.filterMap_nil, List.getElem?_toArray, List.getElem?_cons_zero, List.getElem?_cons_succ] at hm
          subst hm
          go_wp2_with (first | (go_at_call 12; refine (hend1 _ w.heap.size w1.heap.size w2.heap.size vv1 _ HW6.out).mono ?_; rintro e w8 ⟨rfl, hb8⟩; have HW8 := Lib.hid (HW6.out.bel hb8); have HB8 := Lib.hid (HB6.out.trans (hb8.mono HB6.out.size)); clear hb8))
          refine ⟨rfl, ⟨HW8.out.var.cell 0, HW8.out.var.cell 1⟩, ?_⟩
          try simp only [Act.put, List.setIfInBounds_toArray, List.set_cons_zero, List.set_cons_succ]
          refine plan_ev fun m hm => ?_
          simp only [pickO, List.filterMap_cons, List.filterMap_nil, List.getElem?_toArray, List.getElem?_cons_zero, List.getElem?_cons_succ] at hm
          subst hm
          go_wp2_with (first | (go_at_call 16; refine (hend2 _ w.heap.size _ HW8.out.own).mono ?_; rintro e w9 ⟨rfl, hb9⟩; have HW9 := Lib.hid (HW8.out.bel hb9); have HB9 := Lib.hid (HB8.out.trans (hb9.mono HB8.out.size)); clear hb9))
          refine ⟨rfl, ⟨HW9.out.var.cell 0, HW9.out.var.cell 1⟩, ?_⟩
          try simp only [Act.put, List.setIfInBounds_toArray, List.set_cons_zero, List.set_cons_succ]
          refine plan_run fun m hm => ?_
          simp only [pickO, List.filterMap_cons, List.filterMap_nil, List.getElem?_toArray, List.getElem?_cons_zero, List.getElem?_cons_succ] at hm
          subst hm
          go_wp2_with fail
          refine ⟨rfl, by rfl, ?_⟩
          refine plan_fin ?_
          go_wp2
          exact ⟨⟨k + 1, by omega, by go_num, Lib.hid ⟨_, _, _, _, _, _, _, _, HW9.out, HI1.out⟩, HB9⟩, by simp [intOf]; omega⟩
        · have g8 : (((k : Int) % 8) == 0) = false := by simp; omega
          refine region_plan (.run [0, 1, 2, 3, 4, 6] (.held 7 (.run [8] (.ev 5 (.run [9, 10, 11, 12, 13, 14, 15, 16, 18] (.held 19 (.run [20] (.held 21 (.ev 17 (.ev 22 (.run [23, 24, 25, 26] .fin))))))))))) (fun w' => w'.cell? ⟨w2.heap.size, 0, none⟩ = some (.string D) ∧ w'.cell? ⟨w2.heap.size, 1, none⟩ = some (.slice A1 N1 c1)) (by kernel_rfl) ⟨HW6.out.var.cell 0, HW6.out.var.cell 1⟩ ?_
          intro wd3 hwd
          have HW6 := Lib.hid (HW6.out.drewE hwd)
          have HB6 := Lib.hid (belowD HB6.out hwd)
          clear hwd
          refine plan_run fun m hm => ?_
          simp only [pickO, List.filterMap_cons, List.filterMap_nil, List.getElem?_toArray, List.getElem?_cons_zero, List.getElem?_cons_succ] at hm
          subst hm
          go_wp2_with fail
          refine ⟨rfl, by rfl, ?_⟩
          refine plan_held (v := .slice A1 N1 c1) rfl (by rfl) (fun w' hS => ?_) ?_
          · obtain ⟨hS1, hS2⟩ := hS; go_simp
          try simp only [Act.put, List.setIfInBounds_toArray, List.set_cons_zero, List.set_cons_succ]
          refine plan_run fun m hm => ?_
          simp only [pickO, List.filterMap_cons, List.filterMap_nil, List.getElem?_toArray, List.getElem?_cons_zero, List.getElem?_cons_succ] at hm
          subst hm
          go_wp2_with fail
          refine ⟨rfl, by rfl, ?_⟩
          refine plan_ev fun m hm => ?_
          simp only [pickO, List.filterMap_cons, List.filterMap_nil, List.getElem?_toArray, List.getElem?_cons_zero, List.getElem?_cons_succ] at hm
          subst hm
          go_wp2_with (first | (go_at_call 15; refine (len_walk _ w.heap.size w1.heap.size vv1 l1 h1 c1' t1 HW6.out.wr).mono ?_; rintro e w7 ⟨rfl, rfl⟩))
          refine ⟨rfl, ⟨HW6.out.var.cell 0, HW6.out.var.cell 1⟩, ?_⟩
          try simp only [Act.put, List.setIfInBounds_toArray, List.set_cons_zero, List.set_cons_succ]
          refine plan_run fun m hm => ?_
          simp only [pickO, List.filterMap_cons, List.filterMap_nil, List.getElem?_toArray, List.getElem?_cons_zero, List.getElem?_cons_succ] at hm
          subst hm
          go_wp2_with fail
          refine ⟨rfl, by rfl, ?_⟩
          refine plan_off rfl (by rfl) ?_
          try simp only [Act.put, List.setIfInBounds_toArray, List.set_cons_zero, List.set_cons_succ]
          refine plan_run fun m hm => ?_
          simp only [pickO, List.filterMap_cons, List.filterMap_nil, List.getElem?_toArray, List.getElem?_cons_zero, List.getElem?_cons_succ] at hm
          subst hm
          go_wp2_with fail
          refine ⟨rfl, by rfl, ?_⟩
          refine plan_off rfl (by rfl) ?_
          try simp only [Act.put, List.setIfInBounds_toArray, List.set_cons_zero, List.set_cons_succ]
          refine plan_ev fun m hm => ?_
          simp only [pickO, List.filterMap_cons, List.filterMap_nil, List.getElem?_toArray, List.getElem?_cons_zero, List.getElem?_cons_succ] at hm
          subst hm
          go_wp2_with fail
          refine ⟨rfl, ⟨HW6.out.var.cell 0, HW6.out.var.cell 1⟩, ?_⟩
          try simp only [Act.put, List.setIfInBounds_toArray, List.set_cons_zero, List.set_cons_succ]
          refine plan_ev fun m hm => ?_
          simp only [pickO, List.filterMap_cons, List.filterMap_nil, List.getElem?_toArray, List.getElem?_cons_zero, List.getElem?_cons_succ] at hm
          subst hm
          go_wp2_with fail
          refine ⟨rfl, ⟨HW6.out.var.cell 0, HW6.out.var.cell 1⟩, ?_⟩
          try simp only [Act.put, List.setIfInBounds_toArray, List.set_cons_zero, List.set_cons_succ]
          refine plan_run fun m hm => ?_
          simp only [pickO, List.filterMap_cons, List.filterMap_nil, List.getElem?_toArray, List.getElem?_cons_zero, List.getElem?_cons_succ] at hm
          subst hm
          go_wp2_with fail
          refine ⟨rfl, by rfl, ?_⟩
          refine plan_fin ?_
          go_wp2
          exact ⟨⟨k + 1, by omega, by go_num, Lib.hid ⟨_, _, _, _, _, _, _, _, HW6.out, HI1.out⟩, HB6⟩, by simp [intOf]; omega⟩
      · obtain ⟨l1, h1, c1', t1, D1, L1, e0, hI1, hp1, hp2⟩ := wmark_both x l h cc t D L k (by omega) HIn.out
        have hI1t := hI1.tot
        have HI1 := Lib.hid hI1
        clear hI1
        go_wp2_with (first | (go_at_call 11; refine (hp1 _ w.heap.size w1.heap.size w2.heap.size vv y HW.out hGB).mono ?_; intro e w4 hp; obtain ⟨vv1, rfl, hW4, hb4⟩ := hp.out; have HW4 := Lib.hid hW4; have HB4 := Lib.hid (hb.out.trans hb4); clear hW4 hb4 hp))
        refine region_plan (.run [0, 1, 2, 3, 4, 5] (.ev 6 (.run [7, 8, 9] (.ev 10 (.run [11] .fin))))) (fun w' => True) (by kernel_rfl) trivial ?_
        intro wd2 hwd
        have HW4 := Lib.hid (HW4.out.drewE hwd)
        have HB4 := Lib.hid (belowD HB4.out hwd)
        have cD : wd2.cell? ⟨w2.heap.size, 0, none⟩ = some (.string D) := HW4.out.var.cell 0
        have cY : wd2.cell? ⟨w2.heap.size, 1, none⟩ = some y := HW4.out.var.cell 1
        have q1 : wd2.cell? ⟨bb, off + k * 3 + 1, none⟩ = some (.int .i64 x) := (HB4.out.cell (p := ⟨bb, off + (k * 3 + 1), none⟩) hbl).trans hq1
        clear hwd
        refine plan_run fun m hm => ?_
        simp only [pickO, List.filterMap_cons, List.filterMap_nil, List.getElem?_toArray, List.getElem?_cons_zero, List.getElem?_cons_succ] at hm
        subst hm
        go_wp2_with fail
        refine ⟨rfl, by rfl, ?_⟩
        refine plan_ev fun m hm => ?_
        simp only [pickO, List.filterMap_cons, List.filterMap_nil, List.getElem?_toArray, List.getElem?_cons_zero, List.getElem?_cons_succ] at hm
        subst hm
        go_wp2_with (first | (go_at_call 14; refine (hp2 _ w.heap.size _ HW4.out.own HB4.out.size).mono ?_; intro e w5 hp; obtain ⟨y1, rfl, hO5, hb5⟩ := hp.out; have HO5 := Lib.hid hO5; have HW5 := Lib.hid (HW4.out.bel hb5); have HB5 := Lib.hid (HB4.out.trans (hb5.mono HB4.out.size)); clear hO5 hb5 hp))
        refine ⟨rfl, trivial, ?_⟩
        try simp only [Act.put, List.setIfInBounds_toArray, List.set_cons_zero, List.set_cons_succ]
        refine plan_run fun m hm => ?_
        simp only [pickO, List.filterMap_cons, List.filterMap_nil, List.getElem?_toArray, List.getElem?_cons_zero, List.getElem?_cons_succ] at hm
        subst hm
        go_wp2_with fail
        refine ⟨rfl, by rfl, ?_⟩
        refine plan_ev fun m hm => ?_
        simp only [pickO, List.filterMap_cons, List.filterMap_nil, List.getElem?_toArray, List.getElem?_cons_zero, List.getElem?_cons_succ] at hm
        subst hm
        obtain ⟨A1, c1, e1, _⟩ := HO5.out.form
        obtain ⟨N1, hN1⟩ : ∃ N1, N1 = L1.length := ⟨_, rfl⟩
        rw [← hN1] at e1 hI1t
        subst e1
        refine wpList_store_far rfl 35 (.tmp 4) (.tmp 73) rfl w2.heap.size #[.string D1, .slice A1 N1 c1] _ 35 rfl rfl HW5.out.var (by kernel_rfl) rfl (by simp [Value.oneCell']) ?_
        intro w6 hB6 hf6 hb6 hs6 _
        have HW6 : Hid (WB w6 w.heap.size w1.heap.size w2.heap.size vv1 l1 h1 c1' t1 D1 (.slice A1 N1 c1) L1) := Lib.hid ⟨⟨hf6 _ _ _ hGM HW5.out.wr.1, ownsRow_keep HW5.out.wr.2 fun g' cs hB => hf6 _ _ _ (hB.ne HW5.out.var (by decide)) hB⟩, hB6, HO5.out.keep fun g' cs hB => hf6 _ _ _ (hB.ne HW5.out.var (by decide)) hB⟩
        have HB6 := Lib.hid (hb6 w.heap.size w hMB HB5.out)
        have HN1 := Lib.hid hN1
        clear hB6 hf6 hb6 hs6 hN1
        refine ⟨rfl, trivial, ?_⟩
        try simp only [Act.put, List.setIfInBounds_toArray, List.set_cons_zero, List.set_cons_succ]
        refine plan_run fun m hm => ?_
        simp only [pickO, List.filterMap_cons, List.filterMap_nil, List.getElem?_toArray, List.getElem?_cons_zero, List.getElem?_cons_succ] at hm
        subst hm
        go_wp2_with fail
        refine ⟨rfl, by rfl, ?_⟩
        refine plan_fin ?_
        go_wp2_with fail
        obtain ⟨SS, TT, hST, hTT, hend1, hend2⟩ := wend_both l1 h1 c1' t1 D1 L1 (k + 1) (by omega) HI1.out
        have hDD := HI1.out.sz
        subst hST
        by_cases hk8 : k % 8 = 0
        · have g8 : (((k : Int) % 8) == 0) = true := by simp; omega
          refine region_plan (.run [0, 1, 2, 3, 4, 6] (.held 7 (.run [8] (.ev 5 (.run [9, 10, 11, 12, 13, 14, 15, 16, 18] (.held 19 (.run [20] (.held 21 (.ev 17 (.ev 22 (.run [23, 24, 25, 26] .fin))))))))))) (fun w' => w'.cell? ⟨w2.heap.size, 0, none⟩ = some (.string D1) ∧ w'.cell? ⟨w2.heap.size, 1, none⟩ = some (.slice A1 N1 c1)) (by kernel_rfl) ⟨HW6.out.var.cell 0, HW6.out.var.cell 1⟩ ?_
          intro wd3 hwd
          have HW6 := Lib.hid (HW6.out.drewE hwd)
          have HB6 := Lib.hid (belowD HB6.out hwd)
          clear hwd
          refine plan_run fun m hm => ?_
          simp only [pickO, List.filterMap_cons, List.filterMap_nil, List.getElem?_toArray, List.getElem?_cons_zero, List.getElem?_cons_succ] at hm
          subst hm
          go_wp2_with fail
          refine ⟨rfl, by rfl, ?_⟩
          refine plan_held (v := .slice A1 N1 c1) rfl (by rfl) (fun w' hS => ?_) ?_
          · obtain ⟨hS1, hS2⟩ := hS; go_simp
          try simp only [Act.put, List.setIfInBounds_toArray, List.set_cons_zero, List.set_cons_succ]
          refine plan_run fun m hm => ?_
          simp only [pickO, List.filterMap_cons, List.filterMap_nil, List.getElem?_toArray, List.getElem?_cons_zero, List.getElem?_cons_succ] at hm
          subst hm
          go_wp2_with fail
          refine ⟨rfl, by rfl, ?_⟩
          refine plan_ev fun m hm => ?_
          simp only [pickO, List.filterMap_cons, List.filterMap_nil, List.getElem?_toArray, List.getElem?_cons_zero, List.getElem?_cons_succ] at hm
          subst hm
          go_wp2_with (first | (go_at_call 15; refine (len_walk _ w.heap.size w1.heap.size vv1 l1 h1 c1' t1 HW6.out.wr).mono ?_; rintro e w7 ⟨rfl, rfl⟩))
          refine ⟨rfl, ⟨HW6.out.var.cell 0, HW6.out.var.cell 1⟩, ?_⟩
          try simp only [Act.put, List.setIfInBounds_toArray, List.set_cons_zero, List.set_cons_succ]
          refine plan_run fun m hm => ?_
          simp only [pickO, List.filterMap_cons, List.filterMap_nil, List.getElem?_toArray, List.getElem?_cons_zero, List.getElem?_cons_succ] at hm
          subst hm
          go_wp2_with fail
          refine ⟨rfl, by rfl, ?_⟩
          refine plan_held (v := .string D1) rfl (by rfl) (fun w' hS => ?_) ?_
          · obtain ⟨hS1, hS2⟩ := hS; go_simp
          try simp only [Act.put, List.setIfInBounds_toArray, List.set_cons_zero, List.set_cons_succ]
          refine plan_run fun m hm => ?_
          simp only [pickO, List.filterMap_cons, List.filterMap_nil, List.getElem?_toArray, List.getElem?_cons_zero, List.getElem?_cons_succ] at hm
          subst hm
          go_wp2_with fail
          refine ⟨rfl, by rfl, ?_⟩
          refine plan_held (v := .slice A1 N1 c1) rfl (by rfl) (fun w' hS => ?_) ?_
          · obtain ⟨hS1, hS2⟩ := hS; go_simp
          try simp only [Act.put, List.setIfInBounds_toArray, List.set_cons_zero, List.set_cons_succ]
          refine plan_ev fun m hm => ?_
          simp only [pickO, List.filterMap_cons, List.filterMap_nil, List.getElem?_toArray, List.getElem?_cons_zero, List.getElem?_cons_succ] at hm
          subst hm
          go_wp2_with (first | (go_at_call 12; refine (hend1 _ w.heap.size w1.heap.size w2.heap.size vv1 _ HW6.out).mono ?_; rintro e w8 ⟨rfl, hb8⟩; have HW8 := Lib.hid (HW6.out.bel hb8); have HB8 := Lib.hid (HB6.out.trans (hb8.mono HB6.out.size)); clear hb8))
          refine ⟨rfl, ⟨HW8.out.var.cell 0, HW8.out.var.cell 1⟩, ?_⟩
          try simp only [Act.put, List.setIfInBounds_toArray, List.set_cons_zero, List.set_cons_succ]
          refine plan_ev fun m hm => ?_
          simp only [pickO, List.filterMap_cons, List.filterMap_nil, List.getElem?_toArray, List.getElem?_cons_zero, List.getElem?_cons_succ] at hm
          subst hm
          go_wp2_with (first | (go_at_call 16; refine (hend2 _ w.heap.size _ HW8.out.own).mono ?_; rintro e w9 ⟨rfl, hb9⟩; have HW9 := Lib.hid (HW8.out.bel hb9); have HB9 := Lib.hid (HB8.out.trans (hb9.mono HB8.out.size)); clear hb9))
          refine ⟨rfl, ⟨HW9.out.var.cell 0, HW9.out.var.cell 1⟩, ?_⟩
          try simp only [Act.put, List.setIfInBounds_toArray, List.set_cons_zero, List.set_cons_succ]
          refine plan_run fun m hm => ?_
          simp only [pickO, List.filterMap_cons, List.filterMap_nil, List.getElem?_toArray, List.getElem?_cons_zero, List.getElem?_cons_succ] at hm
          subst hm
          go_wp2_with fail
          refine ⟨rfl, by rfl, ?_⟩
          refine plan_fin ?_
          go_wp2
          exact ⟨⟨k + 1, by omega, by go_num, Lib.hid ⟨_, _, _, _, _, _, _, _, HW9.out, HI1.out⟩, HB9⟩, by simp [intOf]; omega⟩
        · have g8 : (((k : Int) % 8) == 0) = false := by simp; omega
          refine region_plan (.run [0, 1, 2, 3, 4, 6] (.held 7 (.run [8] (.ev 5 (.run [9, 10, 11, 12, 13, 14, 15, 16, 18] (.held 19 (.run [20] (.held 21 (.ev 17 (.ev 22 (.run [23, 24, 25, 26] .fin))))))))))) (fun w' => w'.cell? ⟨w2.heap.size, 0, none⟩ = some (.string D1) ∧ w'.cell? ⟨w2.heap.size, 1, none⟩ = some (.slice A1 N1 c1)) (by kernel_rfl) ⟨HW6.out.var.cell 0, HW6.out.var.cell 1⟩ ?_
          intro wd3 hwd
          have HW6 := Lib.hid (HW6.out.drewE hwd)
          have HB6 := Lib.hid (belowD HB6.out hwd)
          clear hwd
          refine plan_run fun m hm => ?_
          simp only [pickO, List.filterMap_cons, List.filterMap_nil, List.getElem?_toArray, List.getElem?_cons_zero, List.getElem?_cons_succ] at hm
          subst hm
          go_wp2_with fail
          refine ⟨rfl, by rfl, ?_⟩
          refine plan_held (v := .slice A1 N1 c1) rfl (by rfl) (fun w' hS => ?_) ?_
          · obtain ⟨hS1, hS2⟩ := hS; go_simp
          try simp only [Act.put, List.setIfInBounds_toArray, List.set_cons_zero, List.set_cons_succ]
          refine plan_run fun m hm => ?_
          simp only [pickO, List.filterMap_cons, List.filterMap_nil, List.getElem?_toArray, List.getElem?_cons_zero, List.getElem?_cons_succ] at hm
          subst hm
          go_wp2_with fail
          refine ⟨rfl, by rfl, ?_⟩
          refine plan_ev fun m hm => ?_
          simp only [pickO, List.filterMap_cons, List.filterMap_nil, List.getElem?_toArray, List.getElem?_cons_zero, List.getElem?_cons_succ] at hm
          subst hm
          go_wp2_with (first | (go_at_call 15; refine (len_walk _ w.heap.size w1.heap.size vv1 l1 h1 c1' t1 HW6.out.wr).mono ?_; rintro e w7 ⟨rfl, rfl⟩))
          refine ⟨rfl, ⟨HW6.out.var.cell 0, HW6.out.var.cell 1⟩, ?_⟩
          try simp only [Act.put, List.setIfInBounds_toArray, List.set_cons_zero, List.set_cons_succ]
          refine plan_run fun m hm => ?_
          simp only [pickO, List.filterMap_cons, List.filterMap_nil, List.getElem?_toArray, List.getElem?_cons_zero, List.getElem?_cons_succ] at hm
          subst hm
          go_wp2_with fail
          refine ⟨rfl, by rfl, ?_⟩
          refine plan_off rfl (by rfl) ?_
          try simp only [Act.put, List.setIfInBounds_toArray, List.set_cons_zero, List.set_cons_succ]
          refine plan_run fun m hm => ?_
          simp only [pickO, List.filterMap_cons, List.filterMap_nil, List.getElem?_toArray, List.getElem?_cons_zero, List.getElem?_cons_succ] at hm
          subst hm
          go_wp2_with fail
          refine ⟨rfl, by rfl, ?_⟩
          refine plan_off rfl (by rfl) ?_
          try simp only [Act.put, List.setIfInBounds_toArray, List.set_cons_zero, List.set_cons_succ]
          refine plan_ev fun m hm => ?_
          simp only [pickO, List.filterMap_cons, List.filterMap_nil, List.getElem?_toArray, List.getElem?_cons_zero, List.getElem?_cons_succ] at hm
          subst hm
          go_wp2_with fail
          refine ⟨rfl, ⟨HW6.out.var.cell 0, HW6.out.var.cell 1⟩, ?_⟩
          try simp only [Act.put, List.setIfInBounds_toArray, List.set_cons_zero, List.set_cons_succ]
          refine plan_ev fun m hm => ?_
          simp only [pickO, List.filterMap_cons, List.filterMap_nil, List.getElem?_toArray, List.getElem?_cons_zero, List.getElem?_cons_succ] at hm
          subst hm
          go_wp2_with fail
          refine ⟨rfl, ⟨HW6.out.var.cell 0, HW6.out.var.cell 1⟩, ?_⟩
          try simp only [Act.put, List.setIfInBounds_toArray, List.set_cons_zero, List.set_cons_succ]
          refine plan_run fun m hm => ?_
          simp only [pickO, List.filterMap_cons, List.filterMap_nil, List.getElem?_toArray, List.getElem?_cons_zero, List.getElem?_cons_succ] at hm
          subst hm
          go_wp2_with fail
          refine ⟨rfl, by rfl, ?_⟩
          refine plan_fin ?_
          go_wp2
          exact ⟨⟨k + 1, by omega, by go_num, Lib.hid ⟨_, _, _, _, _, _, _, _, HW6.out, HI1.out⟩, HB6⟩, by simp [intOf]; omega⟩
    · obtain rfl : k = n := by omega
      obtain ⟨SS, TT, hST, hTT, hend1, hend2⟩ := wend_both l h cc t D L k (by omega) HIn.out
      have hDD := HIn.out.sz
      subst hST
      go_wp2_with fail
      refine region_plan (.run [0, 2] (.held 3 (.run [4] (.held 5 (.ev 1 (.ev 6 (.run [7, 8, 9] .fin))))))) (fun w' => w'.cell? ⟨w2.heap.size, 0, none⟩ = some (.string D) ∧ w'.cell? ⟨w2.heap.size, 1, none⟩ = some y) (by kernel_rfl) ⟨HW.out.var.cell 0, HW.out.var.cell 1⟩ ?_
      intro wd hwd
      have HW := Lib.hid (HW.out.drewE hwd)
      have hb := Lib.hid (belowD hb.out hwd)
      clear hwd
      refine plan_run fun m hm => ?_
      simp only [pickO, List.filterMap_cons, List.filterMap_nil, List.getElem?_toArray, List.getElem?_cons_zero, List.getElem?_cons_succ] at hm
      subst hm
      go_wp2_with fail
      refine ⟨rfl, by rfl, ?_⟩
      refine plan_held (v := .string D) rfl (by rfl) (fun w' hS => ?_) ?_
      · obtain ⟨hS1, hS2⟩ := hS; go_simp
      try simp only [Act.put, List.setIfInBounds_toArray, List.set_cons_zero, List.set_cons_succ]
      refine plan_run fun m hm => ?_
      simp only [pickO, List.filterMap_cons, List.filterMap_nil, List.getElem?_toArray, List.getElem?_cons_zero, List.getElem?_cons_succ] at hm
      subst hm
      go_wp2_with fail
      refine ⟨rfl, by rfl, ?_⟩
      refine plan_held (v := y) rfl (by rfl) (fun w' hS => ?_) ?_
      · obtain ⟨hS1, hS2⟩ := hS; go_simp
      try simp only [Act.put, List.setIfInBounds_toArray, List.set_cons_zero, List.set_cons_succ]
      refine plan_ev fun m hm => ?_
      simp only [pickO, List.filterMap_cons, List.filterMap_nil, List.getElem?_toArray, List.getElem?_cons_zero, List.getElem?_cons_succ] at hm
      subst hm
      go_wp2_with (first | (go_at_call 12; refine (hend1 _ w.heap.size w1.heap.size w2.heap.size vv _ HW.out).mono ?_; rintro e w8 ⟨rfl, hb8⟩; have HW8 := Lib.hid (HW.out.bel hb8); have HB8 := Lib.hid (hb.out.trans (hb8.mono hb.out.size)); clear hb8))
      refine ⟨rfl, ⟨HW8.out.var.cell 0, HW8.out.var.cell 1⟩, ?_⟩
      try simp only [Act.put, List.setIfInBounds_toArray, List.set_cons_zero, List.set_cons_succ]
      refine plan_ev fun m hm => ?_
      simp only [pickO, List.filterMap_cons, List.filterMap_nil, List.getElem?_toArray, List.getElem?_cons_zero, List.getElem?_cons_succ] at hm
      subst hm
      go_wp2_with (first | (go_at_call 16; refine (hend2 _ w.heap.size _ HW8.out.own).mono ?_; rintro e w9 ⟨rfl, hb9⟩; have HW9 := Lib.hid (HW8.out.bel hb9); have HB9 := Lib.hid (HB8.out.trans (hb9.mono HB8.out.size)); clear hb9))
      refine ⟨rfl, ⟨HW9.out.var.cell 0, HW9.out.var.cell 1⟩, ?_⟩
      try simp only [Act.put, List.setIfInBounds_toArray, List.set_cons_zero, List.set_cons_succ]
      refine plan_run fun m hm => ?_
      simp only [pickO, List.filterMap_cons, List.filterMap_nil, List.getElem?_toArray, List.getElem?_cons_zero, List.getElem?_cons_succ] at hm
      subst hm
      go_wp2_with fail
      refine ⟨rfl, by rfl, ?_⟩
      refine plan_fin ?_
      go_wp2
      go_ret
      exact ⟨by first | rfl | simp, HB9.out⟩
theorem writes_long (A : Option Addr) (n c : Nat) (hn : 200 < n) (w : World) :
    Calls Try.prog 4 #[.slice A n c] w fun e w' => e = .returned (.bool true) ∧ Below w.heap.size w w' := by
  have hg2 : decide ((200 : Int) < (n : Int)) = true := by simp; omega
  go_enter Try.func4, Try.ntmps4
  go_wp2_with fail
  refine (awake_true _).mono ?_
  rintro e w1 ⟨rfl, hb1⟩
  have HB1 := Lib.hid hb1; clear hb1
  go_wp2_with fail
  refine (awake_true _).mono ?_
  rintro e w2 ⟨rfl, hb2⟩
  have HB2 := Lib.hid (HB1.out.trans (hb2.mono HB1.out.size)); clear hb2
  go_wp2_with fail
  go_ret
  exact ⟨rfl, HB2.out⟩
theorem bitsWrites_walk (A : Option Addr) (n c : Nat) (f : Nat → Nat → Int) (hnc : n ≤ c) (w : World) (hI : InS w A n 3 KA2 f) :
    Calls Try.prog 4 #[.slice A n c] w fun e w' => e = .returned (.bool true) ∧ Below w.heap.size w w' := by
  by_cases hn : n ≤ 200
  · exact writes_ok A n c f hnc hn w hI
  · exact writes_long A n c (by omega) w

namespace lawBitsWrites
open Go.ChangeShapes Go.WideShapes Go.ChangeAt Go.RowKit
open Go.ChangeMaps (open_string shut_string)
theorem own : ownKnob Try.prog.godebug = none := by kernel_rfl
theorem laidOut : laidOutB Try.prog = true := by kernel_rfl

set_option maxRecDepth 100000 in
theorem lifted (os : Os) (started : os.Started) (H : Type) (enc : TypeId × Value → H) :
    ReturnsInHanded {} Try.checked os 4 .any (Rows.bitsWritesSpec.pre6 enc Try.prog Try.f4 Rows.bitsWritesRow.domain false) (Rows.bitsWritesSpec.post enc Try.prog Try.f4 false true false false) := by
  refine returnsInHanded_of_change_sized (C := Try.checked) own started (by kernel_rfl) Try.func4
    (ChangeSpec.witness6 (enc := enc) (C := Try.checked) false ⟨#[], #[.slice none 0 0], []⟩ 8 (by kernel_rfl) (by kernel_rfl) (by kernel_rfl) (by kernel_rfl)) ?_
  intro W base args ds gs before hval0 hW hcnd hsz0 _
  have hsz : (DataW.weightsEach Try.prog (Try.f4.params.toList ++ Rows.bitsWritesSpec.plain.varTypes Try.prog) (ds ++ gs)).all (· ≤ reachBytes) = true := hsz0
  have hval : ∀ (j : Nat) t v, Try.f4.params[j]? = some t → args[j]? = some v → Value.okWide Try.prog W .any base t v := hval0
  have hW' := hW
  obtain ⟨p, q, hA0, hV, hbefore, hfz, hnd⟩ := hW
  obtain ⟨rfl, rfl⟩ := trodVars_none hV
  have hA : DataW.TrodAll enc Try.prog W 0 (fun _ => true) true Try.f4.params.toList args.toList ds p := hA0
  rw [Try.params4] at hA hval hsz
  obtain ⟨v0, vs1, d0, ds1, p0, q0, hargs, rfl, hps, h0, r0⟩ := trodAll_cons hA
  obtain ⟨rfl, rfl, rfl⟩ := trodAll_nil r0
  obtain rfl : args = #[v0] := by cases args; simp_all
  have o0 := hval 0 22 v0 rfl rfl
  clear hA0 hval0
  obtain ⟨A, n, c, f, rfl, hnc, hI⟩ := openInS Try.underlying22 Try.underlying27 (by kernel_rfl) (by kernel_rfl) (by decide) KA2 (by intro j f h; match j, h with | 0, h => (cases h; exact Try.underlying5) | 1, h => (cases h; exact Try.underlying3) | 2, h => (cases h; exact Try.underlying3) | j + 3, h => simp at h) o0 h0
  refine (bitsWrites_walk A n c f hnc W hI).mono fun e W' ⟨he, hb⟩ => ?_
  subst he
  exact ⟨_, rfl, law_post laidOut (by rw [Try.params4]; intro t ht; simp only [List.mem_cons, List.not_mem_nil, or_false] at ht; subst ht; exact ⟨by kernel_rfl, of_decide_eq_true (by kernel_rfl)⟩) (by kernel_rfl) Try.underlying4 hW' rfl rfl hb⟩
theorem said : Rows.BitsWritesSaid :=
  OpenClaim.holds_of_wide 4 Try.f4 rfl rfl rfl rfl rfl rfl rfl ⟨rfl, rfl, rfl, rfl, rfl⟩ rfl rfl rfl rfl rfl (by kernel_rfl) Try.func4 (by kernel_rfl)
    (of_decide_eq_true (by kernel_rfl)) (by unfold Func.isWrapper; first | (rw [if_pos (by decide +kernel)]; kernel_rfl) | (rw [if_neg (by decide +kernel)]; exact ⟨rfl, rfl⟩))
    (fun os started H enc _ => lifted os started H enc)
#print axioms said
end lawBitsWrites
end Go.Proofs.Ytidockifeofgfaa
