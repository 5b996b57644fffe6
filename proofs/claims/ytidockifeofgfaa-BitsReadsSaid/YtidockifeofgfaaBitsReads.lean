/- Every call of a reader of any bytes, in every order, answers what the document says. No condition. -/
import Derived.Test.YtidockifeofgfaaRdW
import Derived.Test.YtidockifeofgfaaInS
import Derived.Test.YtidockifeofgfaaSeqF
import Derived.ShutString
import Derived.ChangeOld
import Derived.SizedLaws
namespace Go.Proofs.Ytidockifeofgfaa
open Go.RowKit
set_option linter.unusedSimpArgs false
set_option linter.unusedVariables false
def KA3 : Nat → IntKind := fun j => if j = 0 then .u8 else .i64
set_option maxHeartbeats 0 in
set_option maxRecDepth 20000 in
theorem reads_ok (s : ByteArray) (x : Int) (A : Option Addr) (n c : Nat) (f : Nat → Nat → Int) (hs : s.size ≤ 4000) (hnc : n ≤ c) (hn : n ≤ 200) (w : World) (hI : InS w A n 3 KA3 f) :
    Calls Try.prog 5 #[.string s, .int .i64 x, .slice A n c] w fun e w' => e = .returned (.bool true) ∧ Below w.heap.size w w' := by
  have HI := Lib.hid hI; clear hI
  have hg1 : decide ((4000 : Int) < (s.size : Int)) = false := by simp; omega
  have hg2 : decide ((200 : Int) < (n : Int)) = false := by simp; omega
  go_enter Try.func5, Try.ntmps5
  go_wp2_with (first | (go_at_call 8; refine (awake_true _).mono ?_; rintro e w1 ⟨rfl, hb1⟩; have HB1 := Lib.hid hb1; clear hb1) | (go_at_call 17; refine (newReader_walk s x (by omega) _).mono ?_; rintro e w2 ⟨rfl, hW2, hb2⟩; have HW2 := Lib.hid hW2; have HB2 := Lib.hid (HB1.out.trans (hb2.mono HB1.out.size)); have HL2 := Lib.hid (Blk.lt hW2); clear hW2 hb2) | ((with_reducible show wpList _ _ _ (⟨some 41, _, _, _, _, _⟩ :: _) _ _); refine wpList_max (x.toNat : Int) (.tmp 40) (.const (.int .i64 0)) _ rfl rfl rfl rfl (by split <;> omega) ?_) | ((with_reducible show wpList _ _ _ (⟨some 44, _, _, _, _, _⟩ :: _) _ _); refine wpList_min (clampA s x : Int) (.tmp 41) (.tmp 43) _ rfl rfl rfl rfl (by unfold clampA; split <;> omega) ?_))
  have hGB : w.heap.size ≤ w1.heap.size := HB1.out.size
  have hMB : w.heap.size ≤ w2.heap.size := HB2.out.size
  have hGM : w1.heap.size ≠ w2.heap.size := by have := HL2.out; omega
  have hGB2 : w1.heap.size < (w2.heap.size + 1) := by have := HL2.out; omega
  go_loopw [9] (fun i wr => ∃ k : Nat, k ≤ n ∧ i = .int .i64 k ∧ Hid (∃ (a : Nat) (H : List Int) (y : Value), RB wr (w2.heap.size + 1) w1.heap.size w2.heap.size s a H y ∧ InvR s a H) ∧ Hid (Below w.heap.size w wr)) (fun i _ => n - (intOf i).toNat)
  case atStart => exact ⟨0, by omega, rfl, Lib.hid ⟨clampA s x, [], .slice none 0 0, ⟨Blk.alloc HW2.out _, Blk.new _ _ _, Or.inl ⟨rfl, rfl⟩, (fun _ _ _ _ e => by injection e with e; cases e)⟩, ⟨(fun b hb => by cases hb), by decide, by unfold clampA; omega⟩⟩, Lib.hid (HB2.out.alloc HB2.out.size _)⟩
  case round =>
    obtain ⟨k, hk, rfl, hS, hb⟩ := hrel
    obtain ⟨a, H, y, hW, hIn⟩ := hS.out
    have HW := Lib.hid hW
    have HIn := Lib.hid hIn
    clear hW hIn hS
    by_cases hlt : k < n
    · obtain ⟨bb, off, rfl, hbl, hcell⟩ := HI.out k hlt
      have hq0 := (hcell 0 (by decide)).1
      have hq00 := (hcell 0 (by decide)).2
      have hq2 := (hcell 2 (by decide)).1
      obtain ⟨d, hd⟩ : ∃ d, d = f k 0 := ⟨_, rfl⟩
      obtain ⟨yy, hy⟩ : ∃ yy, yy = f k 2 := ⟨_, rfl⟩
      rw [← hd] at hq0 hq00
      rw [← hy] at hq2
      have hdw : 0 ≤ d ∧ d < 256 := by have hmin : IntKind.u8.min = 0 := rfl; have hmax : IntKind.u8.max = 255 := rfl; simp [KA3, Lit.wf, hmin, hmax] at hq00; omega
      have hqa : wr.cell? ⟨bb, off + k * 3, none⟩ = some (.int .u8 d) := (hb.out.cell (p := ⟨bb, off + k * 3, none⟩) hbl).trans hq0
      have hqc : wr.cell? ⟨bb, off + k * 3 + 2, none⟩ = some (.int .i64 yy) := (hb.out.cell (p := ⟨bb, off + (k * 3 + 2), none⟩) hbl).trans hq2
      clear hcell hq0 hq00 hd hy
      have h6 : (d % 6 = 0 ∨ d % 6 = 1 ∨ d % 6 = 2 ∨ d % 6 = 3) ∨ d % 6 = 4 ∨ d % 6 = 5 := by omega
      rcases h6 with h6 | h6 | h6
      · rcases h6 with h6 | h6 | h6 | h6
        all_goals
          obtain ⟨a1, H1, V, e0, hI1, hp1, hp2⟩ := rbits_both yy s a H (by omega) HIn.out
          have HI1 := Lib.hid hI1
          clear hI1
          go_wp2_with (first | (go_at_call 18; refine (hp1 _ (w2.heap.size + 1) w1.heap.size w2.heap.size y HW.out hGB2 hGM).mono ?_; rintro e w4 ⟨rfl, hr4, hv4, hh4, hi4, ho4⟩; have HP4 : Hid (PRE w4 (w2.heap.size + 1) w1.heap.size w2.heap.size s a a1 H H1 y) := Lib.hid ⟨hr4, hv4, hh4, hi4⟩; have HB4 := Lib.hid (hb.out.trans (ho4.below hGB hb.out.size)); have HZ4 : Hid ((w2.heap.size + 1) ≤ w4.heap.size) := Lib.hid hv4.lt; clear hr4 hv4 hh4 hi4 ho4))
          refine region_plan (.held 0 (.run [1, 2, 3, 4] (.held 5 (.two 6 11 (.run [7, 8, 9, 10] (.ev 11 (.run [12] (.ev 13 (.run [14] .fin))))) (.ev 6 (.run [7, 8, 9, 10, 12] (.ev 13 (.run [14] .fin)))))))) (fun w' => w'.cell? ⟨w2.heap.size, 0, none⟩ = some (.string s) ∧ w'.cell? ⟨w2.heap.size, 1, none⟩ = some (.int .i64 a) ∧ w'.cell? ⟨w2.heap.size, 2, none⟩ = some y ∧ w'.cell? ⟨bb, off + k * 3 + 2, none⟩ = some (.int .i64 yy)) (by kernel_rfl) ⟨HP4.out.var.cell 0, HP4.out.var.cell 1, HP4.out.var.cell 2, (HB4.out.cell (p := ⟨bb, off + (k * 3 + 2), none⟩) hbl).trans hq2⟩ ?_
          intro wd2 hwd
          have HP4 := Lib.hid (HP4.out.drewE hwd)
          have HB4 := Lib.hid (belowD HB4.out hwd)
          have HZ4 : Hid ((w2.heap.size + 1) ≤ wd2.heap.size) := Lib.hid (hwd ▸ HZ4.out)
          clear hwd
          refine plan_held (v := .agg #[.string s, .int .i64 a, y]) rfl (by rfl) (fun w' hS => ?_) ?_
          · obtain ⟨hS1, hS2, hS3, hS4⟩ := hS; go_simp
          try simp only [Act.put, List.setIfInBounds_toArray, List.set_cons_zero, List.set_cons_succ]
          refine plan_run fun m hm => ?_
          simp only [pickO, List.filterMap_cons, List.filterMap_nil, List.getElem?_toArray, List.getElem?_cons_zero, List.getElem?_cons_succ] at hm
          subst hm
          go_wp2_with fail
          refine ⟨rfl, by rfl, ?_⟩
          refine plan_held (v := .int .i64 yy) rfl (by rfl) (fun w' hS => ?_) ?_
          · obtain ⟨hS1, hS2, hS3, hS4⟩ := hS; go_simp
          try simp only [Act.put, List.setIfInBounds_toArray, List.set_cons_zero, List.set_cons_succ]
          refine plan_two (fun m hm => ?_) (fun m hm => ?_)
          · simp only [pickO, List.filterMap_cons, List.filterMap_nil, List.getElem?_toArray, List.getElem?_cons_zero, List.getElem?_cons_succ] at hm
            subst hm
            go_wp2_with (first | (go_at_call 19; refine (hp2 _ (w2.heap.size + 1) y HP4.out.held HP4.out.hi HZ4.out).mono ?_; intro e w5 hp; obtain ⟨y1, rfl, hy1, hi1, hn1, hb5⟩ := hp.out; have HM5 : Hid (MID w5 (w2.heap.size + 1) w1.heap.size w2.heap.size s a a1 H1 y y1) := Lib.hid ⟨HP4.out.rd.bel hb5, HP4.out.var.bel hb5, hy1, hi1⟩; have HB5 := Lib.hid (HB4.out.trans (hb5.mono HB4.out.size)); clear hy1 hi1 hn1 hb5 hp))
            refine ⟨rfl, ⟨HM5.out.var.cell 0, HM5.out.var.cell 1, HM5.out.var.cell 2, (HB5.out.cell (p := ⟨bb, off + (k * 3 + 2), none⟩) hbl).trans hq2⟩, ?_⟩
            try simp only [Act.put, List.setIfInBounds_toArray, List.set_cons_zero, List.set_cons_succ]
            refine plan_run fun m hm => ?_
            simp only [pickO, List.filterMap_cons, List.filterMap_nil, List.getElem?_toArray, List.getElem?_cons_zero, List.getElem?_cons_succ] at hm
            subst hm
            go_wp2_with fail
            refine ⟨rfl, by rfl, ?_⟩
            refine plan_ev fun m hm => ?_
            simp only [pickO, List.filterMap_cons, List.filterMap_nil, List.getElem?_toArray, List.getElem?_cons_zero, List.getElem?_cons_succ] at hm
            subst hm
            go_wp2_with fail
            have hbX : Below w5.heap.size w5 (w5.alloc (.cells #[.string { data := #[] }, .int .i64 0, .slice none 0 0] 44)) := (Below.refl _ _).alloc (Nat.le_refl _) _
            have HN5 := Lib.hid (HM5.out.held.ne (Nat.le_refl _))
            have HBS := Lib.hid HB5.out.size
            have hTM : w2.heap.size ≠ w5.heap.size := by have := HM5.out.var.lt; omega
            have hTG : w1.heap.size ≠ w5.heap.size := by have := Blk.lt HM5.out.rd; omega
            have HB5 := Lib.hid (HB5.out.trans (hbX.mono HB5.out.size))
            have HM5 := Lib.hid (HM5.out.bel hbX)
            have HT5 : Hid (Blk (w5.alloc (.cells #[.string { data := #[] }, .int .i64 0, .slice none 0 0] 44)) w5.heap.size 44 #[.string { data := #[] }, .int .i64 0, .slice none 0 0]) := Lib.hid (Blk.new _ _ _)
            clear hbX
            refine ⟨rfl, ⟨HM5.out.var.cell 0, HM5.out.var.cell 1, HM5.out.var.cell 2, (HB5.out.cell (p := ⟨bb, off + (k * 3 + 2), none⟩) hbl).trans hq2⟩, ?_⟩
            try simp only [Act.put, List.setIfInBounds_toArray, List.set_cons_zero, List.set_cons_succ]
            refine plan_run fun m hm => ?_
            simp only [pickO, List.filterMap_cons, List.filterMap_nil, List.getElem?_toArray, List.getElem?_cons_zero, List.getElem?_cons_succ] at hm
            subst hm
            go_wp2_with fail
            refine ⟨rfl, by rfl, ?_⟩
            refine plan_ev fun m hm => ?_
            simp only [pickO, List.filterMap_cons, List.filterMap_nil, List.getElem?_toArray, List.getElem?_cons_zero, List.getElem?_cons_succ] at hm
            subst hm
            have hwT : w.heap.size ≤ w5.heap.size := by exact HBS.out
            refine wpList_store_far rfl 44 (.tmp 13) (.tmp 82) rfl w5.heap.size #[.string s, .int .i64 a1, y1] _ 44 rfl rfl HT5.out (by kernel_rfl) rfl (one3 HM5.out.held.one) ?_
            intro w6 hT6 hf6 hb6 hs6 hh6
            have t0 : w6.cell? ⟨w5.heap.size, 0, none⟩ = some (.string s) := hT6.cell 0
            have t1 : w6.cell? ⟨w5.heap.size, 1, none⟩ = some (.int .i64 a1) := hT6.cell 1
            have t2 : w6.cell? ⟨w5.heap.size, 2, none⟩ = some y1 := hT6.cell 2
            have HM6 := Lib.hid (HM5.out.far hTG hTM HN5.out hs6 hh6)
            have HB6 := Lib.hid (hb6 w.heap.size w hwT HB5.out)
            clear hT6 hf6 hb6 hs6 hh6
            refine ⟨rfl, ⟨HM6.out.var.cell 0, HM6.out.var.cell 1, HM6.out.var.cell 2, (HB6.out.cell (p := ⟨bb, off + (k * 3 + 2), none⟩) hbl).trans hq2⟩, ?_⟩
            try simp only [Act.put, List.setIfInBounds_toArray, List.set_cons_zero, List.set_cons_succ]
            refine plan_run fun m hm => ?_
            simp only [pickO, List.filterMap_cons, List.filterMap_nil, List.getElem?_toArray, List.getElem?_cons_zero, List.getElem?_cons_succ] at hm
            subst hm
            go_wp2_with fail
            refine ⟨rfl, by rfl, ?_⟩
            refine plan_fin ?_
            go_wp2_with ((with_reducible show wpList _ _ _ (⟨none, .store 44 (.tmp 8) (.tmp 92), _, _, _, _⟩ :: _) _ _); refine wpList_store_far rfl 44 (.tmp 8) (.tmp 92) rfl w2.heap.size #[.string s, .int .i64 a1, y1] _ 44 rfl rfl HM6.out.var (by kernel_rfl) rfl (one3 HM6.out.held.one) ?_; intro w7 hM7 hf7 hb7 hs7 hh7; have HW8 : Hid (RB w7 (w2.heap.size + 1) w1.heap.size w2.heap.size s a1 H1 y1) := Lib.hid ⟨(hh7 _ hGM).trans HM6.out.rd, hM7, HM6.out.held.far (Or.inr fun g o n c e => (by have := HM6.out.hi g o n c e; omega)) hs7 hh7, HM6.out.hi⟩; have HB8 := Lib.hid (hb7 w.heap.size w hMB HB6.out); clear hM7 hf7 hb7 hs7 hh7)
            refine region_plan (.run [0, 2] (.held 3 (.ev 1 (.run [4] .fin)))) (fun w' => w'.cell? ⟨w2.heap.size, 1, none⟩ = some (.int .i64 a1)) (by kernel_rfl) (HW8.out.var.cell 1) ?_
            intro wd5 hwd
            have HW8 := Lib.hid (HW8.out.drewE hwd)
            have HB8 := Lib.hid (belowD HB8.out hwd)
            clear hwd
            refine plan_run fun m hm => ?_
            simp only [pickO, List.filterMap_cons, List.filterMap_nil, List.getElem?_toArray, List.getElem?_cons_zero, List.getElem?_cons_succ] at hm
            subst hm
            go_wp2_with fail
            refine ⟨rfl, by rfl, ?_⟩
            refine plan_held (v := .int .i64 a1) rfl (by rfl) (fun w' hS => ?_) ?_
            · go_simp
            try simp only [Act.put, List.setIfInBounds_toArray, List.set_cons_zero, List.set_cons_succ]
            refine plan_ev fun m hm => ?_
            simp only [pickO, List.filterMap_cons, List.filterMap_nil, List.getElem?_toArray, List.getElem?_cons_zero, List.getElem?_cons_succ] at hm
            subst hm
            go_wp2_with (first | (go_at_call 25; refine (rat_walk _ w1.heap.size s a1 (valB H1) H1.length HW8.out.rd).mono ?_; rintro e w9 ⟨rfl, rfl⟩))
            refine ⟨rfl, (HW8.out.var.cell 1), ?_⟩
            try simp only [Act.put, List.setIfInBounds_toArray, List.set_cons_zero, List.set_cons_succ]
            refine plan_run fun m hm => ?_
            simp only [pickO, List.filterMap_cons, List.filterMap_nil, List.getElem?_toArray, List.getElem?_cons_zero, List.getElem?_cons_succ] at hm
            subst hm
            go_wp2_with fail
            refine ⟨rfl, by rfl, ?_⟩
            refine plan_fin ?_
            go_wp2
            exact ⟨⟨k + 1, by omega, by go_num, Lib.hid ⟨a1, H1, _, HW8.out, HI1.out⟩, HB8⟩, by simp [intOf]; omega⟩
          · simp only [pickO, List.filterMap_cons, List.filterMap_nil, List.getElem?_toArray, List.getElem?_cons_zero, List.getElem?_cons_succ] at hm
            subst hm
            go_wp2_with fail
            have hbX : Below wd2.heap.size wd2 (wd2.alloc (.cells #[.string { data := #[] }, .int .i64 0, .slice none 0 0] 44)) := (Below.refl _ _).alloc (Nat.le_refl _) _
            have hTM : w2.heap.size ≠ wd2.heap.size := by have := HP4.out.var.lt; omega
            have hTG : w1.heap.size ≠ wd2.heap.size := by have := Blk.lt HP4.out.rd; omega
            have HBX := Lib.hid (HB4.out.trans (hbX.mono HB4.out.size))
            have HPX := Lib.hid (HP4.out.bel hbX)
            have HZX : Hid ((w2.heap.size + 1) ≤ (wd2.alloc (.cells #[.string { data := #[] }, .int .i64 0, .slice none 0 0] 44)).heap.size) := Lib.hid (Nat.le_trans HZ4.out hbX.size)
            have HTX : Hid (Blk (wd2.alloc (.cells #[.string { data := #[] }, .int .i64 0, .slice none 0 0] 44)) wd2.heap.size 44 #[.string { data := #[] }, .int .i64 0, .slice none 0 0]) := Lib.hid (Blk.new _ _ _)
            clear hbX
            refine ⟨rfl, ⟨HPX.out.var.cell 0, HPX.out.var.cell 1, HPX.out.var.cell 2, (HBX.out.cell (p := ⟨bb, off + (k * 3 + 2), none⟩) hbl).trans hq2⟩, ?_⟩
            try simp only [Act.put, List.setIfInBounds_toArray, List.set_cons_zero, List.set_cons_succ]
            refine plan_ev fun m hm => ?_
            simp only [pickO, List.filterMap_cons, List.filterMap_nil, List.getElem?_toArray, List.getElem?_cons_zero, List.getElem?_cons_succ] at hm
            subst hm
            go_wp2_with (first | (go_at_call 19; refine (hp2 _ (w2.heap.size + 1) y HPX.out.held HPX.out.hi HZX.out).mono ?_; intro e w5 hp; obtain ⟨y1, rfl, hy1, hi1, hn1, hb5⟩ := hp.out; have HM5 : Hid (MID w5 (w2.heap.size + 1) w1.heap.size w2.heap.size s a a1 H1 y y1) := Lib.hid ⟨HPX.out.rd.bel hb5, HPX.out.var.bel hb5, hy1, hi1⟩; have HB5 := Lib.hid (HBX.out.trans (hb5.mono HBX.out.size)); have HT5 := Lib.hid (HTX.out.bel hb5); have HN5 := Lib.hid (hn1 wd2.heap.size (by simp) (HP4.out.held.ne (Nat.le_refl _))); clear hy1 hi1 hn1 hb5 hp))
            refine ⟨rfl, ⟨HM5.out.var.cell 0, HM5.out.var.cell 1, HM5.out.var.cell 2, (HB5.out.cell (p := ⟨bb, off + (k * 3 + 2), none⟩) hbl).trans hq2⟩, ?_⟩
            try simp only [Act.put, List.setIfInBounds_toArray, List.set_cons_zero, List.set_cons_succ]
            refine plan_run fun m hm => ?_
            simp only [pickO, List.filterMap_cons, List.filterMap_nil, List.getElem?_toArray, List.getElem?_cons_zero, List.getElem?_cons_succ] at hm
            subst hm
            go_wp2_with fail
            refine ⟨rfl, by rfl, ?_⟩
            refine plan_ev fun m hm => ?_
            simp only [pickO, List.filterMap_cons, List.filterMap_nil, List.getElem?_toArray, List.getElem?_cons_zero, List.getElem?_cons_succ] at hm
            subst hm
            have hwT : w.heap.size ≤ wd2.heap.size := by have := HB4.out.size; omega
            refine wpList_store_far rfl 44 (.tmp 13) (.tmp 82) rfl wd2.heap.size #[.string s, .int .i64 a1, y1] _ 44 rfl rfl HT5.out (by kernel_rfl) rfl (one3 HM5.out.held.one) ?_
            intro w6 hT6 hf6 hb6 hs6 hh6
            have t0 : w6.cell? ⟨wd2.heap.size, 0, none⟩ = some (.string s) := hT6.cell 0
            have t1 : w6.cell? ⟨wd2.heap.size, 1, none⟩ = some (.int .i64 a1) := hT6.cell 1
            have t2 : w6.cell? ⟨wd2.heap.size, 2, none⟩ = some y1 := hT6.cell 2
            have HM6 := Lib.hid (HM5.out.far hTG hTM HN5.out hs6 hh6)
            have HB6 := Lib.hid (hb6 w.heap.size w hwT HB5.out)
            clear hT6 hf6 hb6 hs6 hh6
            refine ⟨rfl, ⟨HM6.out.var.cell 0, HM6.out.var.cell 1, HM6.out.var.cell 2, (HB6.out.cell (p := ⟨bb, off + (k * 3 + 2), none⟩) hbl).trans hq2⟩, ?_⟩
            try simp only [Act.put, List.setIfInBounds_toArray, List.set_cons_zero, List.set_cons_succ]
            refine plan_run fun m hm => ?_
            simp only [pickO, List.filterMap_cons, List.filterMap_nil, List.getElem?_toArray, List.getElem?_cons_zero, List.getElem?_cons_succ] at hm
            subst hm
            go_wp2_with fail
            refine ⟨rfl, by rfl, ?_⟩
            refine plan_fin ?_
            go_wp2_with ((with_reducible show wpList _ _ _ (⟨none, .store 44 (.tmp 8) (.tmp 92), _, _, _, _⟩ :: _) _ _); refine wpList_store_far rfl 44 (.tmp 8) (.tmp 92) rfl w2.heap.size #[.string s, .int .i64 a1, y1] _ 44 rfl rfl HM6.out.var (by kernel_rfl) rfl (one3 HM6.out.held.one) ?_; intro w7 hM7 hf7 hb7 hs7 hh7; have HW8 : Hid (RB w7 (w2.heap.size + 1) w1.heap.size w2.heap.size s a1 H1 y1) := Lib.hid ⟨(hh7 _ hGM).trans HM6.out.rd, hM7, HM6.out.held.far (Or.inr fun g o n c e => (by have := HM6.out.hi g o n c e; omega)) hs7 hh7, HM6.out.hi⟩; have HB8 := Lib.hid (hb7 w.heap.size w hMB HB6.out); clear hM7 hf7 hb7 hs7 hh7)
            refine region_plan (.run [0, 2] (.held 3 (.ev 1 (.run [4] .fin)))) (fun w' => w'.cell? ⟨w2.heap.size, 1, none⟩ = some (.int .i64 a1)) (by kernel_rfl) (HW8.out.var.cell 1) ?_
            intro wd5 hwd
            have HW8 := Lib.hid (HW8.out.drewE hwd)
            have HB8 := Lib.hid (belowD HB8.out hwd)
            clear hwd
            refine plan_run fun m hm => ?_
            simp only [pickO, List.filterMap_cons, List.filterMap_nil, List.getElem?_toArray, List.getElem?_cons_zero, List.getElem?_cons_succ] at hm
            subst hm
            go_wp2_with fail
            refine ⟨rfl, by rfl, ?_⟩
            refine plan_held (v := .int .i64 a1) rfl (by rfl) (fun w' hS => ?_) ?_
            · go_simp
            try simp only [Act.put, List.setIfInBounds_toArray, List.set_cons_zero, List.set_cons_succ]
            refine plan_ev fun m hm => ?_
            simp only [pickO, List.filterMap_cons, List.filterMap_nil, List.getElem?_toArray, List.getElem?_cons_zero, List.getElem?_cons_succ] at hm
            subst hm
            go_wp2_with (first | (go_at_call 25; refine (rat_walk _ w1.heap.size s a1 (valB H1) H1.length HW8.out.rd).mono ?_; rintro e w9 ⟨rfl, rfl⟩))
            refine ⟨rfl, (HW8.out.var.cell 1), ?_⟩
            try simp only [Act.put, List.setIfInBounds_toArray, List.set_cons_zero, List.set_cons_succ]
            refine plan_run fun m hm => ?_
            simp only [pickO, List.filterMap_cons, List.filterMap_nil, List.getElem?_toArray, List.getElem?_cons_zero, List.getElem?_cons_succ] at hm
            subst hm
            go_wp2_with fail
            refine ⟨rfl, by rfl, ?_⟩
            refine plan_fin ?_
            go_wp2
            exact ⟨⟨k + 1, by omega, by go_num, Lib.hid ⟨a1, H1, _, HW8.out, HI1.out⟩, HB8⟩, by simp [intOf]; omega⟩
      · skip
        go_wp2_with (first | (go_at_call 20; refine (ralign_walk _ w1.heap.size s a (valB H) H.length HW.out.rd).mono ?_; rintro e w4 ⟨rfl, hr4, ho4⟩; have hv4 := ho4.blk HW.out.var hGM.symm; have HP4 : Hid (RdV w4 w1.heap.size s a 0 0) := Lib.hid hr4; have HV4 := Lib.hid hv4; have HH4 := Lib.hid (HW.out.held.only HW.out.hi hGB2 ho4); have HB4 := Lib.hid (hb.out.trans (ho4.below hGB hb.out.size)); have c0 : w4.cell? ⟨w2.heap.size, 0, none⟩ = some (.string s) := hv4.cell 0; have c1 : w4.cell? ⟨w2.heap.size, 1, none⟩ = some (.int .i64 a) := hv4.cell 1; have c2 : w4.cell? ⟨w2.heap.size, 2, none⟩ = some y := hv4.cell 2; clear hr4 ho4 hv4) | (go_at_call 21; refine (refRest_walk s a y H HIn.out.few HIn.out.bits _ HH4.out).mono ?_; rintro e w5 ⟨rfl, hb5⟩; have HP5 := Lib.hid (HP4.out.bel hb5); have HV5 := Lib.hid (HV4.out.bel hb5); have HB5 := Lib.hid (HB4.out.trans (hb5.mono HB4.out.size)); have hfz : w5.frozen? ⟨w2.heap.size, 2, none⟩ = false := (HV4.out.bel hb5).frozen 2; have hcz : w5.cell? ⟨w2.heap.size, 2, none⟩ = some y := (HV4.out.bel hb5).cell 2; clear hb5 c0 c1 c2))
        have HW8 : Hid (RB (w5.setCell ⟨w2.heap.size, 2, none⟩ (.slice none 0 0)) (w2.heap.size + 1) w1.heap.size w2.heap.size s a [] (.slice none 0 0)) := Lib.hid ⟨Blk.far HP5.out hGM _, HV5.out.set_ 2 _, Or.inl ⟨rfl, rfl⟩, (fun _ _ _ _ e => by injection e with e; cases e)⟩
        have HB8 := Lib.hid (HB5.out.setCell (p := ⟨w2.heap.size, 2, none⟩) hMB (.slice none 0 0))
        have HI1 : Hid (InvR s a []) := Lib.hid ⟨(fun b hb => by cases hb), by decide, HIn.out.le⟩
        obtain ⟨w8, hw8⟩ : ∃ w8, w8 = w5.setCell ⟨w2.heap.size, 2, none⟩ (.slice none 0 0) := ⟨_, rfl⟩
        rw [← hw8] at HW8 HB8 ⊢
        clear hw8 hcz hfz
        refine region_plan (.run [0, 2] (.held 3 (.ev 1 (.run [4] .fin)))) (fun w' => w'.cell? ⟨w2.heap.size, 1, none⟩ = some (.int .i64 a)) (by kernel_rfl) (HW8.out.var.cell 1) ?_
        intro wd5 hwd
        have HW8 := Lib.hid (HW8.out.drewE hwd)
        have HB8 := Lib.hid (belowD HB8.out hwd)
        clear hwd
        refine plan_run fun m hm => ?_
        simp only [pickO, List.filterMap_cons, List.filterMap_nil, List.getElem?_toArray, List.getElem?_cons_zero, List.getElem?_cons_succ] at hm
        subst hm
        go_wp2_with fail
        refine ⟨rfl, by rfl, ?_⟩
        refine plan_held (v := .int .i64 a) rfl (by rfl) (fun w' hS => ?_) ?_
        · go_simp
        try simp only [Act.put, List.setIfInBounds_toArray, List.set_cons_zero, List.set_cons_succ]
        refine plan_ev fun m hm => ?_
        simp only [pickO, List.filterMap_cons, List.filterMap_nil, List.getElem?_toArray, List.getElem?_cons_zero, List.getElem?_cons_succ] at hm
        subst hm
        go_wp2_with (first | (go_at_call 25; refine (rat_walk _ w1.heap.size s a (valB []) [].length HW8.out.rd).mono ?_; rintro e w9 ⟨rfl, rfl⟩))
        refine ⟨rfl, (HW8.out.var.cell 1), ?_⟩
        try simp only [Act.put, List.setIfInBounds_toArray, List.set_cons_zero, List.set_cons_succ]
        refine plan_run fun m hm => ?_
        simp only [pickO, List.filterMap_cons, List.filterMap_nil, List.getElem?_toArray, List.getElem?_cons_zero, List.getElem?_cons_succ] at hm
        subst hm
        go_wp2_with fail
        refine ⟨rfl, by rfl, ?_⟩
        refine plan_fin ?_
        go_wp2
        exact ⟨⟨k + 1, by omega, by go_num, Lib.hid ⟨a, [], _, HW8.out, HI1.out⟩, HB8⟩, by simp [intOf]; omega⟩
      · skip
        have hle := (markerV_le s a HIn.out.le).1
        obtain ⟨mc, hmc⟩ : ∃ mc, mc = (markerV s a).1 := ⟨_, rfl⟩
        obtain ⟨mz, hmz⟩ : ∃ mz, mz = (markerV s a).2 := ⟨_, rfl⟩
        have hm1 := fun w g H' => rmarker_walk w g s (valB H) H.length a H' (by omega) (by have := HIn.out.le; omega)
        have hm2 := fun w => refMarker_walk s a y HW.out.held.one (by omega) HIn.out.le w
        have hm3 := fun w g H' => rskip_walk w g s (valB H) H.length a H' (by omega) (by have := HIn.out.le; omega) (by have := (markerV_le s a HIn.out.le).2.1; omega)
        rw [← hmz] at hle
        simp only [← hmc, ← hmz] at hm1 hm2 hm3
        have Hm1 := Lib.hid hm1; have Hm2 := Lib.hid hm2; have Hm3 := Lib.hid hm3
        clear hmc hmz hm1 hm2 hm3
        by_cases hz : 0 < mz
        · have gz1 : decide (0 < mz) = true := by simpa using hz
          have gz2 : decide ((0 : Int) < (mz : Int)) = true := by simp; exact hz
          have hm1 := Hm1.out; have hm2 := Hm2.out; have hm3 := Hm3.out
          simp only [if_pos hz, gz1] at hm1 hm3
          go_wp2_with (first | (go_at_call 22; refine (hm1 _ w1.heap.size HW.out.rd).mono ?_; rintro e w4 ⟨rfl, hr4, ho4⟩; have hv4 := ho4.blk HW.out.var hGM.symm; have HW4 : Hid (RB w4 (w2.heap.size + 1) w1.heap.size w2.heap.size s a H y) := Lib.hid ⟨hr4, hv4, HW.out.held.only HW.out.hi hGB2 ho4, HW.out.hi⟩; have HB4 := Lib.hid (hb.out.trans (ho4.below hGB hb.out.size)); have c0 : w4.cell? ⟨w2.heap.size, 0, none⟩ = some (.string s) := hv4.cell 0; have c1 : w4.cell? ⟨w2.heap.size, 1, none⟩ = some (.int .i64 a) := hv4.cell 1; have c2 : w4.cell? ⟨w2.heap.size, 2, none⟩ = some y := hv4.cell 2; clear hr4 ho4 hv4) | (go_at_call 23; refine (hm2 _).mono ?_; rintro e w5 ⟨rfl, hb5⟩; have HW5 := Lib.hid (HW4.out.bel hb5); have HB5 := Lib.hid (HB4.out.trans (hb5.mono HB4.out.size)); clear hb5 c0 c1 c2) | (go_at_call 24; refine (hm3 _ w1.heap.size HW5.out.rd).mono ?_; rintro e w6 ⟨rfl, hr6, ho6⟩; have hv6 := ho6.blk HW5.out.var hGM.symm; have HR6 := Lib.hid hr6; have HV6 := Lib.hid hv6; have HB6 := Lib.hid (HB5.out.trans (ho6.below hGB HB5.out.size)); have HY6 := Lib.hid (HW5.out.held.only HW5.out.hi hGB2 ho6); have f1 := hv6.frozen 1; have f2 := hv6.frozen 2; have d1 : w6.cell? ⟨w2.heap.size, 1, none⟩ = some (.int .i64 a) := hv6.cell 1; have d2 : w6.cell? ⟨w2.heap.size, 2, none⟩ = some y := hv6.cell 2; clear hr6 ho6 hv6))
          have eam : (((a + mz : Nat) : Nat) : Int) = (a : Int) + mz := by omega
          have HW8 : Hid (RB ((w6.setCell ⟨w2.heap.size, 2, none⟩ (.slice none 0 0)).setCell ⟨w2.heap.size, 1, none⟩ (.int .i64 ((a : Int) + mz))) (w2.heap.size + 1) w1.heap.size w2.heap.size s (a + mz) [] (.slice none 0 0)) := Lib.hid ⟨by rw [RdV, eam]; exact Blk.far (Blk.far HR6.out hGM _) hGM _, by rw [eam]; exact (HV6.out.set_ 2 (.slice none 0 0)).set_ 1 (.int .i64 ((a : Int) + mz)), Or.inl ⟨rfl, rfl⟩, (fun _ _ _ _ e => by injection e with e; cases e)⟩
          have HB8 := Lib.hid ((HB6.out.setCell (p := ⟨w2.heap.size, 2, none⟩) hMB (.slice none 0 0)).setCell (p := ⟨w2.heap.size, 1, none⟩) hMB (.int .i64 ((a : Int) + mz)))
          have HI1 : Hid (InvR s (a + mz) []) := Lib.hid ⟨(fun b hb => by cases hb), by decide, hle⟩
          obtain ⟨w8, hw8⟩ : ∃ w8, w8 = ((w6.setCell ⟨w2.heap.size, 2, none⟩ (.slice none 0 0)).setCell ⟨w2.heap.size, 1, none⟩ (.int .i64 ((a : Int) + mz))) := ⟨_, rfl⟩
          rw [← hw8] at HW8 HB8 ⊢
          clear hw8 d1 d2 f1 f2 eam
          refine region_plan (.run [0, 2] (.held 3 (.ev 1 (.run [4] .fin)))) (fun w' => w'.cell? ⟨w2.heap.size, 1, none⟩ = some (.int .i64 ((a + mz : Nat) : Int))) (by kernel_rfl) (HW8.out.var.cell 1) ?_
          intro wd5 hwd
          have HW8 := Lib.hid (HW8.out.drewE hwd)
          have HB8 := Lib.hid (belowD HB8.out hwd)
          clear hwd
          refine plan_run fun m hm => ?_
          simp only [pickO, List.filterMap_cons, List.filterMap_nil, List.getElem?_toArray, List.getElem?_cons_zero, List.getElem?_cons_succ] at hm
          subst hm
          go_wp2_with fail
          refine ⟨rfl, by rfl, ?_⟩
          refine plan_held (v := .int .i64 ((a + mz : Nat) : Int)) rfl (by rfl) (fun w' hS => ?_) ?_
          · go_simp
          try simp only [Act.put, List.setIfInBounds_toArray, List.set_cons_zero, List.set_cons_succ]
          refine plan_ev fun m hm => ?_
          simp only [pickO, List.filterMap_cons, List.filterMap_nil, List.getElem?_toArray, List.getElem?_cons_zero, List.getElem?_cons_succ] at hm
          subst hm
          go_wp2_with (first | (go_at_call 25; refine (rat_walk _ w1.heap.size s (a + mz) (valB []) [].length HW8.out.rd).mono ?_; rintro e w9 ⟨rfl, rfl⟩))
          refine ⟨rfl, (HW8.out.var.cell 1), ?_⟩
          try simp only [Act.put, List.setIfInBounds_toArray, List.set_cons_zero, List.set_cons_succ]
          refine plan_run fun m hm => ?_
          simp only [pickO, List.filterMap_cons, List.filterMap_nil, List.getElem?_toArray, List.getElem?_cons_zero, List.getElem?_cons_succ] at hm
          subst hm
          go_wp2_with fail
          refine ⟨rfl, by rfl, ?_⟩
          refine plan_fin ?_
          go_wp2
          exact ⟨⟨k + 1, by omega, by go_num, Lib.hid ⟨(a + mz), [], _, HW8.out, HI1.out⟩, HB8⟩, by simp [intOf]; omega⟩
        · obtain rfl : mz = 0 := by omega
          have hm1 := Hm1.out; have hm2 := Hm2.out; have hm3 := Hm3.out
          simp only [Nat.lt_irrefl, if_false, decide_false] at hm1 hm3
          go_wp2_with (first | (go_at_call 22; refine (hm1 _ w1.heap.size HW.out.rd).mono ?_; rintro e w4 ⟨rfl, hr4, ho4⟩; have hv4 := ho4.blk HW.out.var hGM.symm; have HW4 : Hid (RB w4 (w2.heap.size + 1) w1.heap.size w2.heap.size s a H y) := Lib.hid ⟨hr4, hv4, HW.out.held.only HW.out.hi hGB2 ho4, HW.out.hi⟩; have HB4 := Lib.hid (hb.out.trans (ho4.below hGB hb.out.size)); have c0 : w4.cell? ⟨w2.heap.size, 0, none⟩ = some (.string s) := hv4.cell 0; have c1 : w4.cell? ⟨w2.heap.size, 1, none⟩ = some (.int .i64 a) := hv4.cell 1; have c2 : w4.cell? ⟨w2.heap.size, 2, none⟩ = some y := hv4.cell 2; clear hr4 ho4 hv4) | (go_at_call 23; refine (hm2 _).mono ?_; rintro e w5 ⟨rfl, hb5⟩; have HW5 := Lib.hid (HW4.out.bel hb5); have HB5 := Lib.hid (HB4.out.trans (hb5.mono HB4.out.size)); clear hb5 c0 c1 c2) | (go_at_call 24; refine (hm3 _ w1.heap.size HW5.out.rd).mono ?_; rintro e w6 ⟨rfl, hr6, ho6⟩; have hv6 := ho6.blk HW5.out.var hGM.symm; have HR6 := Lib.hid hr6; have HV6 := Lib.hid hv6; have HB6 := Lib.hid (HB5.out.trans (ho6.below hGB HB5.out.size)); have HY6 := Lib.hid (HW5.out.held.only HW5.out.hi hGB2 ho6); clear hr6 ho6 hv6))
          have HW8 : Hid (RB w6 (w2.heap.size + 1) w1.heap.size w2.heap.size s a H y) := Lib.hid ⟨HR6.out, HV6.out, HY6.out, HW5.out.hi⟩
          have HB8 := HB6
          have HI1 := HIn
          refine region_plan (.run [0, 2] (.held 3 (.ev 1 (.run [4] .fin)))) (fun w' => w'.cell? ⟨w2.heap.size, 1, none⟩ = some (.int .i64 a)) (by kernel_rfl) (HW8.out.var.cell 1) ?_
          intro wd5 hwd
          have HW8 := Lib.hid (HW8.out.drewE hwd)
          have HB8 := Lib.hid (belowD HB8.out hwd)
          clear hwd
          refine plan_run fun m hm => ?_
          simp only [pickO, List.filterMap_cons, List.filterMap_nil, List.getElem?_toArray, List.getElem?_cons_zero, List.getElem?_cons_succ] at hm
          subst hm
          go_wp2_with fail
          refine ⟨rfl, by rfl, ?_⟩
          refine plan_held (v := .int .i64 a) rfl (by rfl) (fun w' hS => ?_) ?_
          · go_simp
          try simp only [Act.put, List.setIfInBounds_toArray, List.set_cons_zero, List.set_cons_succ]
          refine plan_ev fun m hm => ?_
          simp only [pickO, List.filterMap_cons, List.filterMap_nil, List.getElem?_toArray, List.getElem?_cons_zero, List.getElem?_cons_succ] at hm
          subst hm
          go_wp2_with (first | (go_at_call 25; refine (rat_walk _ w1.heap.size s a (valB H) H.length HW8.out.rd).mono ?_; rintro e w9 ⟨rfl, rfl⟩))
          refine ⟨rfl, (HW8.out.var.cell 1), ?_⟩
          try simp only [Act.put, List.setIfInBounds_toArray, List.set_cons_zero, List.set_cons_succ]
          refine plan_run fun m hm => ?_
          simp only [pickO, List.filterMap_cons, List.filterMap_nil, List.getElem?_toArray, List.getElem?_cons_zero, List.getElem?_cons_succ] at hm
          subst hm
          go_wp2_with fail
          refine ⟨rfl, by rfl, ?_⟩
          refine plan_fin ?_
          go_wp2
          exact ⟨⟨k + 1, by omega, by go_num, Lib.hid ⟨a, H, _, HW8.out, HI1.out⟩, HB8⟩, by simp [intOf]; omega⟩
    · obtain rfl : k = n := by omega
      go_wp2
      go_ret
      exact ⟨rfl, hb.out⟩
theorem reads_long (s : ByteArray) (x : Int) (A : Option Addr) (n c : Nat) (h : 4000 < s.size ∨ 200 < n) (w : World) :
    Calls Try.prog 5 #[.string s, .int .i64 x, .slice A n c] w fun e w' => e = .returned (.bool true) ∧ Below w.heap.size w w' := by
  have h2 : decide ((4000 : Int) < (s.size : Int)) = true ∨ (decide ((4000 : Int) < (s.size : Int)) = false ∧ decide ((200 : Int) < (n : Int)) = true) := by
    by_cases h1 : 4000 < s.size
    · left; simp; omega
    · right; exact ⟨by simp; omega, by simp; omega⟩
  rcases h2 with hg1 | ⟨hg1, hg2⟩
  all_goals
    go_enter Try.func5, Try.ntmps5
    go_wp2_with fail
    refine (awake_true _).mono ?_
    rintro e w1 ⟨rfl, hb1⟩
    have HB1 := Lib.hid hb1; clear hb1
    go_wp2_with fail
    refine (awake_true _).mono ?_
    rintro e w2 ⟨rfl, hb2⟩
    have HB2 := Lib.hid (HB1.out.trans (hb2.mono HB1.out.size)); clear hb2
    go_wp2_with fail
    go_ret
    exact ⟨rfl, HB2.out⟩
theorem bitsReads_walk (s : ByteArray) (x : Int) (A : Option Addr) (n c : Nat) (f : Nat → Nat → Int) (hnc : n ≤ c) (w : World) (hI : InS w A n 3 KA3 f) :
    Calls Try.prog 5 #[.string s, .int .i64 x, .slice A n c] w fun e w' => e = .returned (.bool true) ∧ Below w.heap.size w w' := by
  by_cases h : 4000 < s.size ∨ 200 < n
  · exact reads_long s x A n c h w
  · exact reads_ok s x A n c f (by omega) hnc (by omega) w hI

namespace lawBitsReads
open Go.ChangeShapes Go.WideShapes Go.ChangeAt Go.RowKit
open Go.ChangeMaps (open_string shut_string)
theorem own : ownKnob Try.prog.godebug = none := by kernel_rfl
theorem laidOut : laidOutB Try.prog = true := by kernel_rfl

set_option maxRecDepth 100000 in
theorem lifted (os : Os) (started : os.Started) (H : Type) (enc : TypeId × Value → H) :
    ReturnsInHanded {} Try.checked os 5 .any (Rows.bitsReadsSpec.pre6 enc Try.prog Try.f5 Rows.bitsReadsRow.domain false) (Rows.bitsReadsSpec.post enc Try.prog Try.f5 false true false false) := by
  refine returnsInHanded_of_change_sized (C := Try.checked) own started (by kernel_rfl) Try.func5
    (ChangeSpec.witness6 (enc := enc) (C := Try.checked) false ⟨#[], #[.string ⟨#[]⟩, .int .i64 0, .slice none 0 0], []⟩ 8 (by kernel_rfl) (by kernel_rfl) (by kernel_rfl) (by kernel_rfl)) ?_
  intro W base args ds gs before hval0 hW hcnd hsz0 _
  have hsz : (DataW.weightsEach Try.prog (Try.f5.params.toList ++ Rows.bitsReadsSpec.plain.varTypes Try.prog) (ds ++ gs)).all (· ≤ reachBytes) = true := hsz0
  have hval : ∀ (j : Nat) t v, Try.f5.params[j]? = some t → args[j]? = some v → Value.okWide Try.prog W .any base t v := hval0
  have hW' := hW
  obtain ⟨p, q, hA0, hV, hbefore, hfz, hnd⟩ := hW
  obtain ⟨rfl, rfl⟩ := trodVars_none hV
  have hA : DataW.TrodAll enc Try.prog W 0 (fun _ => true) true Try.f5.params.toList args.toList ds p := hA0
  rw [Try.params5] at hA hval hsz
  obtain ⟨v0, vs1, d0, ds1, p0, q0, hargs, rfl, hps, h0, r0⟩ := trodAll_cons hA
  obtain ⟨v1, vs2, d1, ds2, p1, q1, rfl, rfl, rfl, h1, r1⟩ := trodAll_cons r0
  obtain ⟨v2, vs3, d2, ds3, p2, q2, rfl, rfl, rfl, h2, r2⟩ := trodAll_cons r1
  obtain ⟨rfl, rfl, rfl⟩ := trodAll_nil r2
  obtain rfl : args = #[v0, v1, v2] := by cases args; simp_all
  have o0 := hval 0 9 v0 rfl rfl
  have o1 := hval 1 3 v1 rfl rfl
  have o2 := hval 2 22 v2 rfl rfl
  clear hA0 hval0
  obtain ⟨s, rfl, rfl, rfl, ws⟩ := open_string Try.underlying9 o0 h0
  obtain ⟨x, rfl, rfl, rfl, wx⟩ := open_int Try.underlying3 o1 h1
  obtain ⟨A, n, c, f, rfl, hnc, hI⟩ := openInS Try.underlying22 Try.underlying27 (by kernel_rfl) (by kernel_rfl) (by decide) KA3 (by intro j f h; match j, h with | 0, h => (cases h; exact Try.underlying5) | 1, h => (cases h; exact Try.underlying3) | 2, h => (cases h; exact Try.underlying3) | j + 3, h => simp at h) o2 h2
  refine (bitsReads_walk s x A n c f hnc W hI).mono fun e W' ⟨he, hb⟩ => ?_
  subst he
  exact ⟨_, rfl, law_post laidOut (by rw [Try.params5]; intro t ht; simp only [List.mem_cons, List.not_mem_nil, or_false] at ht; rcases ht with rfl | rfl | rfl <;> exact ⟨by kernel_rfl, of_decide_eq_true (by kernel_rfl)⟩) (by kernel_rfl) Try.underlying4 hW' rfl rfl hb⟩
theorem said : Rows.BitsReadsSaid :=
  OpenClaim.holds_of_wide 5 Try.f5 rfl rfl rfl rfl rfl rfl rfl ⟨rfl, rfl, rfl, rfl, rfl⟩ rfl rfl rfl rfl rfl (by kernel_rfl) Try.func5 (by kernel_rfl)
    (of_decide_eq_true (by kernel_rfl)) (by unfold Func.isWrapper; first | (rw [if_pos (by decide +kernel)]; kernel_rfl) | (rw [if_neg (by decide +kernel)]; exact ⟨rfl, rfl⟩))
    (fun os started H enc _ => lifted os started H enc)
#print axioms said
end lawBitsReads
end Go.Proofs.Ytidockifeofgfaa
