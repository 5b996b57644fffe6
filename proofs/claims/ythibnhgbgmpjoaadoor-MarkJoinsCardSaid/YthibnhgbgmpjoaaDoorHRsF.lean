/- The reference's Parse. No condition. -/
import Derived.Test.YthibnhgbgmpjoaaDoorHRsE
import Derived.Test.YthibnhgbgmpjoaaDoorHRsC
import Derived.Test.YthibnhgbgmpjoaaDoorHGF
namespace Go.Proofs.YthibnhgbgmpjoaaDoor
open Go.RowKit
set_option linter.unusedSimpArgs false
set_option linter.unusedVariables false
set_option maxRecDepth 100000
theorem quL_end {s : ByteArray} : ∀ (f : Nat) {t : St} {l : List Qt}, (quL s f (t, l)).1.e = 0 → t.a ≤ s.size → s.size + 1 ≤ f + t.a → (∀ p ∈ l, p.ok) → (quL s f (t, l)).1.a = s.size
  | 0, t, l, h, ha, hf, _ => by omega
  | f + 1, t, l, h, ha, hf, hl => by
    by_cases hc : t.e = 0 ∧ (l = [] ∨ t.a < s.size)
    · have e : quL s (f + 1) (t, l) = quL s f (qu1 s (t, l)) := by rw [quL, if_pos hc]
      rw [e] at h ⊢
      have hee : quL s f (qu1 s (t, l)) = quL s f ((qu1 s (t, l)).1, (qu1 s (t, l)).2) := rfl
      have h0 : (qu1 s (t, l)).1.e = 0 := by
        by_cases hz : (qu1 s (t, l)).1.e = 0
        · exact hz
        · rw [hee, quL_no _ _ _ (fun hc => hz hc.1)] at h; exact h
      obtain ⟨_, p, g1, g2, g3, g4, g5, g6⟩ := qu1_back h0
      rw [hee] at h ⊢
      exact quL_end f h g5 (by omega) (by rw [g1]; intro x hx; rcases List.mem_append.1 hx with hx | hx; exact hl x hx; rw [List.mem_singleton] at hx; subst hx; exact g6)
    · rw [quL_no _ _ _ hc] at h ⊢
      have h' : t.e = 0 := h
      have : ¬ t.a < s.size := fun hlt => hc ⟨h', .inr hlt⟩
      show t.a = s.size
      omega
theorem huL_end {s : ByteArray} : ∀ (f : Nat) {t : St} {l : List Hf}, (huL s f (t, l)).1.e = 0 → t.a ≤ s.size → s.size + 1 ≤ f + t.a → (huL s f (t, l)).1.a = s.size
  | 0, t, l, h, ha, hf => by omega
  | f + 1, t, l, h, ha, hf => by
    by_cases hc : t.e = 0 ∧ (l = [] ∨ t.a < s.size)
    · have e : huL s (f + 1) (t, l) = huL s f (hu1 s (t, l)) := by rw [huL, if_pos hc]
      rw [e] at h ⊢
      have hee : huL s f (hu1 s (t, l)) = huL s f ((hu1 s (t, l)).1, (hu1 s (t, l)).2) := rfl
      have h0 : (hu1 s (t, l)).1.e = 0 := by
        by_cases hz : (hu1 s (t, l)).1.e = 0
        · exact hz
        · rw [hee, huL_no _ _ _ (fun hc => hz hc.1)] at h; exact h
      obtain ⟨_, p, g1, g2, g3, g4, g5, g6⟩ := hu1_back h0
      rw [hee] at h ⊢
      exact huL_end f h g5 (by omega)
    · rw [huL_no _ _ _ hc] at h ⊢
      have h' : t.e = 0 := h
      have : ¬ t.a < s.size := fun hlt => hc ⟨h', .inr hlt⟩
      show t.a = s.size
      omega
theorem quR_e (s : ByteArray) : (tS (quR s st0).1 (decide ((quR s st0).1.a = s.size)) 4).e = (quR s st0).1.e := by
  by_cases h : (quR s st0).1.e = 0
  · have hq : (quR s st0).1.a = s.size := quL_end (s.size + 1) (t := st0) (l := []) h (Nat.zero_le _) (by show s.size + 1 ≤ s.size + 1 + 0; omega) (by simp)
    rw [decide_eq_true hq, tS_true]
  · rw [tS_stay h]
theorem huR_e (s : ByteArray) : (tS (huR s st0).1 (decide ((huR s st0).1.a = s.size)) 4).e = (huR s st0).1.e := by
  by_cases h : (huR s st0).1.e = 0
  · have hq : (huR s st0).1.a = s.size := huL_end (s.size + 1) (t := st0) (l := []) h (Nat.zero_le _) (by show s.size + 1 ≤ s.size + 1 + 0; omega)
    rw [decide_eq_true hq, tS_true]
  · rw [tS_stay h]
/-- The document's segment, as its cells. -/
def RgV (w : World) (base : Nat) (cs : Array Value) : Sg → Prop
  | .plain c b => cs = SC c b nilS nilS 0 0 nilS nilS 0 0 0 0 0
  | .quants l => ∃ v, cs = SC 219 ⟨#[]⟩ v nilS 0 0 nilS nilS 0 0 0 0 0 ∧ OwnC Qt.cells 66 w base 152 v l
  | .huffs l => ∃ v, cs = SC 196 ⟨#[]⟩ nilS v 0 0 nilS nilS 0 0 0 0 0 ∧ OwnC Hf.cells 19 w base 155 v l
  | .frame c h ww l => ∃ v, cs = SC c ⟨#[]⟩ nilS nilS h ww v nilS 0 0 0 0 0 ∧ OwnC Pt.cells 4 w base 160 v l
  | .scan l a b hi lo => ∃ v, cs = SC 218 ⟨#[]⟩ nilS nilS 0 0 nilS v a b hi lo 0 ∧ OwnC Pk.cells 3 w base 159 v l
  | .rst n => cs = SC 221 ⟨#[]⟩ nilS nilS 0 0 nilS nilS 0 0 0 0 n
theorem RgV.keep {w w' : World} {base : Nat} {cs : Array Value} {x : Sg} (h : RgV w base cs x) (hk : ∀ e, e = 152 ∨ e = 155 ∨ e = 160 ∨ e = 159 → ∀ g cs, Blk w g e cs → Blk w' g e cs) : RgV w' base cs x := by
  cases x with
  | plain c b => exact h
  | quants l => obtain ⟨u, h1, h2⟩ := h; exact ⟨u, h1, h2.keep (hk _ (by simp))⟩
  | huffs l => obtain ⟨u, h1, h2⟩ := h; exact ⟨u, h1, h2.keep (hk _ (by simp))⟩
  | frame c hh ww l => obtain ⟨u, h1, h2⟩ := h; exact ⟨u, h1, h2.keep (hk _ (by simp))⟩
  | scan l a b hi lo => obtain ⟨u, h1, h2⟩ := h; exact ⟨u, h1, h2.keep (hk _ (by simp))⟩
  | rst n => exact h
def RPPost (w : World) (c : Int) (s : ByteArray) (e : Ending) (w' : World) : Prop :=
  ∃ cs, e = .returned (.tuple #[.agg cs, .int .i64 (prE c s)]) ∧ cs.size = 13 ∧ cs.all (·.oneCell') = true ∧ (prE c s = 0 → RgV w' w.heap.size cs (prG c s)) ∧ Below w.heap.size w w'
structure RpI (w : World) (cs : Array Value) (wr : World) : Prop where
  x0 : Blk wr w.heap.size 37 (SC 0 ⟨#[]⟩ nilS nilS 0 0 nilS nilS 0 0 0 0 0)
  x1 : Blk wr (w.heap.size + 1) 37 cs
  be : Below w.heap.size w wr
theorem prE_may' {c : Int} {s : ByteArray} {m : Int} (h : mayC c = m) (hm : m ≠ 0) : prE c s = m := by unfold prE; rw [if_pos (by rw [h]; exact hm), h]
theorem RpI.bel {w wr w' : World} {cs : Array Value} (h : RpI w cs wr) (hb : Below wr.heap.size wr w') : RpI w cs w' := ⟨h.x0.bel hb, h.x1.bel hb, h.be.trans (hb.mono h.be.size)⟩
set_option maxHeartbeats 4000000 in
theorem refParse_walk (c : Int) (s : ByteArray) (w : World) :
    Calls Tryd.prog 20 #[.int .i64 c, .string s] w (RPPost w c s) := by
  have hI0 : RpI w (SC c ⟨#[]⟩ nilS nilS 0 0 nilS nilS 0 0 0 0 0) ((w.alloc (.cells (SC 0 ⟨#[]⟩ nilS nilS 0 0 nilS nilS 0 0 0 0 0) 37)).alloc (.cells (SC c ⟨#[]⟩ nilS nilS 0 0 nilS nilS 0 0 0 0 0) 37)) :=
    ⟨(Blk.new w _ _).alloc _, Blk.nw (by rw [World.size_alloc]), ((Below.refl _ _).alloc (Nat.le_refl _) _).alloc ((Below.refl w.heap.size w).alloc (Nat.le_refl _) _).size _⟩
  have HI0 := Lib.hid hI0; clear hI0
  go_enter Tryd.func20, Tryd.ntmps20
  go_upto_region 1 with fail
  go_cut [6] (fun b wx => b = .pointer (some ⟨w.heap.size + 1, 0, none⟩) ∧ Hid (RpI w (SC c ⟨#[]⟩ nilS nilS 0 0 nilS nilS 0 0 0 0 0) wx))
  case first =>
    go_wp2_with fail
    go_meet
    case rel => exact ⟨rfl, HI0⟩
  case rest =>
  obtain ⟨rfl, HI1⟩ := hcut
  obtain ⟨w1, rfl⟩ : ∃ w1, w1 = wc := ⟨_, rfl⟩
  clear HI0
  go_upto_region 2 with fail
  go_cut [16] (fun b wx => b = .bool (decide (c < 192 ∨ 254 < c)) ∧ wx = w1)
  case first =>
    go_wp2_with fail
    all_goals
      go_meet
      case rel => exact ⟨congrArg Value.bool (by first | rfl | (rw [Bool.eq_iff_iff]; simp only [Bool.or_eq_true, Bool.and_eq_true, Bool.not_eq_true', decide_eq_false_iff_not, bne_iff_ne, Bool.false_eq_true, decide_eq_true_eq, beq_iff_eq, false_iff, true_iff]; done) | (rw [Bool.eq_iff_iff]; simp only [Bool.or_eq_true, Bool.and_eq_true, Bool.not_eq_true', decide_eq_false_iff_not, bne_iff_ne, Bool.false_eq_true, decide_eq_true_eq, beq_iff_eq, false_iff, true_iff]; omega)), rfl⟩
  case rest =>
  obtain ⟨rfl, rfl⟩ := hcut
  obtain ⟨w1, rfl⟩ : ∃ w1, w1 = wc := ⟨_, rfl⟩
  by_cases hm : c < 192 ∨ 254 < c
  case pos =>
    have HE : Hid (prE c s = 3) := Lib.hid (by exact prE_may' (by unfold mayC; rw [if_pos hm]) (by decide))
    have HNZ : Hid ((3 : Int) ≠ 0) := Lib.hid (by decide)
    have hdd : decide (c < 192 ∨ 254 < c) = true := decide_eq_true hm
    rw [hdd]
    clear hdd hm
    go_wp2_with (refine wpList_store_far rfl 37 (.tmp 4) _ rfl w.heap.size (SC 0 ⟨#[]⟩ nilS nilS 0 0 nilS nilS 0 0 0 0 0) _ 37 rfl rfl HI1.out.x0 (by rw [sc_size]; kernel_rfl) rfl (sc_one _ _ _ _ _ _ _ _ _ _ _ _ _ rfl rfl rfl rfl) ?_; intro wz hz1 hz2 hz3 hz4 hz5; have HZ1 := Lib.hid hz1; have HZB := Lib.hid (hz3 _ _ (Nat.le_refl _) HI1.out.be); clear hz1 hz2 hz3 hz4 hz5)
    exact bodyPost_ret (results_row_tmp rfl _ _ w.heap.size 37 _ (0, 0) _ rfl HZ1.out Tryd.underlying37 rfl (by rw [sc_size]; kernel_rfl)) rfl ⟨_, by rw [HE.out]; rfl, sc_size _ _ _ _ _ _ _ _ _ _ _ _ _, sc_one _ _ _ _ _ _ _ _ _ _ _ _ _ rfl rfl rfl rfl, fun h => absurd (HE.out ▸ h) HNZ.out, HZB.out⟩
  case neg =>
  have hdd : decide (c < 192 ∨ 254 < c) = false := decide_eq_false hm
  rw [hdd]
  clear hdd
  have hr1 : 192 ≤ c := by omega
  have hr2 : c ≤ 254 := by omega
  clear hm
  go_upto_region 4 with fail
  go_cut [23] (fun b wx => b = .bool (decide (208 ≤ c ∧ c ≤ 217)) ∧ wx = w1)
  case first =>
    go_wp2_with fail
    all_goals
      go_meet
      case rel => exact ⟨congrArg Value.bool (by first | rfl | (rw [Bool.eq_iff_iff]; simp only [Bool.or_eq_true, Bool.and_eq_true, Bool.not_eq_true', decide_eq_false_iff_not, bne_iff_ne, Bool.false_eq_true, decide_eq_true_eq, beq_iff_eq, false_iff, true_iff]; done) | (rw [Bool.eq_iff_iff]; simp only [Bool.or_eq_true, Bool.and_eq_true, Bool.not_eq_true', decide_eq_false_iff_not, bne_iff_ne, Bool.false_eq_true, decide_eq_true_eq, beq_iff_eq, false_iff, true_iff]; omega)), rfl⟩
  case rest =>
  obtain ⟨rfl, rfl⟩ := hcut
  obtain ⟨w1, rfl⟩ : ∃ w1, w1 = wc := ⟨_, rfl⟩
  by_cases hm : 208 ≤ c ∧ c ≤ 217
  case pos =>
    have HE : Hid (prE c s = 1) := Lib.hid (by exact prE_may' (by unfold mayC; rw [if_neg (by omega), if_pos hm]) (by decide))
    have HNZ : Hid ((1 : Int) ≠ 0) := Lib.hid (by decide)
    have hdd : decide (208 ≤ c ∧ c ≤ 217) = true := decide_eq_true hm
    rw [hdd]
    clear hdd hm
    go_wp2_with (refine wpList_store_far rfl 37 (.tmp 4) _ rfl w.heap.size (SC 0 ⟨#[]⟩ nilS nilS 0 0 nilS nilS 0 0 0 0 0) _ 37 rfl rfl HI1.out.x0 (by rw [sc_size]; kernel_rfl) rfl (sc_one _ _ _ _ _ _ _ _ _ _ _ _ _ rfl rfl rfl rfl) ?_; intro wz hz1 hz2 hz3 hz4 hz5; have HZ1 := Lib.hid hz1; have HZB := Lib.hid (hz3 _ _ (Nat.le_refl _) HI1.out.be); clear hz1 hz2 hz3 hz4 hz5)
    exact bodyPost_ret (results_row_tmp rfl _ _ w.heap.size 37 _ (0, 0) _ rfl HZ1.out Tryd.underlying37 rfl (by rw [sc_size]; kernel_rfl)) rfl ⟨_, by rw [HE.out]; rfl, sc_size _ _ _ _ _ _ _ _ _ _ _ _ _, sc_one _ _ _ _ _ _ _ _ _ _ _ _ _ rfl rfl rfl rfl, fun h => absurd (HE.out ▸ h) HNZ.out, HZB.out⟩
  case neg =>
  have hdd : decide (208 ≤ c ∧ c ≤ 217) = false := decide_eq_false hm
  rw [hdd]
  clear hdd
  have hr3 : c < 208 ∨ 217 < c := by omega
  clear hm
  go_upto_region 6 with fail
  go_cut [7] (fun b wx => b = .bool (decide ((224 ≤ c ∧ c ≤ 239) ∨ c = 254)) ∧ wx = w1)
  case first =>
    go_wp2_with fail
    all_goals
      go_meet
      case rel => exact ⟨congrArg Value.bool (by first | rfl | (rw [Bool.eq_iff_iff]; simp only [Bool.or_eq_true, Bool.and_eq_true, Bool.not_eq_true', decide_eq_false_iff_not, bne_iff_ne, Bool.false_eq_true, decide_eq_true_eq, beq_iff_eq, false_iff, true_iff]; done) | (rw [Bool.eq_iff_iff]; simp only [Bool.or_eq_true, Bool.and_eq_true, Bool.not_eq_true', decide_eq_false_iff_not, bne_iff_ne, Bool.false_eq_true, decide_eq_true_eq, beq_iff_eq, false_iff, true_iff]; omega)), rfl⟩
  case rest =>
  obtain ⟨rfl, rfl⟩ := hcut
  obtain ⟨w1, rfl⟩ : ∃ w1, w1 = wc := ⟨_, rfl⟩
  go_upto_region 7 with fail
  go_cut [0, 7, 56] (fun b0 b7 b wx => b0 = .int .i64 c ∧ b7 = .bool (decide ((224 ≤ c ∧ c ≤ 239) ∨ c = 254)) ∧ b = .bool (decide (¬ ((224 ≤ c ∧ c ≤ 239) ∨ c = 254) ∧ 194 < c ∧ c ≠ 196 ∧ c ≠ 218 ∧ c ≠ 219 ∧ c ≠ 221)) ∧ wx = w1)
  case first =>
    go_wp2_with fail
    all_goals
      go_meet
      case rel => exact ⟨congrArg (Value.int .i64) (by first | rfl | omega), congrArg Value.bool (by first | rfl | (rw [Bool.eq_iff_iff]; simp only [Bool.or_eq_true, Bool.and_eq_true, Bool.not_eq_true', decide_eq_false_iff_not, bne_iff_ne, Bool.false_eq_true, decide_eq_true_eq, beq_iff_eq, false_iff, true_iff]; done) | (rw [Bool.eq_iff_iff]; simp only [Bool.or_eq_true, Bool.and_eq_true, Bool.not_eq_true', decide_eq_false_iff_not, bne_iff_ne, Bool.false_eq_true, decide_eq_true_eq, beq_iff_eq, false_iff, true_iff]; omega)), congrArg Value.bool (by first | rfl | (rw [Bool.eq_iff_iff]; simp only [Bool.or_eq_true, Bool.and_eq_true, Bool.not_eq_true', decide_eq_false_iff_not, bne_iff_ne, Bool.false_eq_true, decide_eq_true_eq, beq_iff_eq, false_iff, true_iff]; done) | (rw [Bool.eq_iff_iff]; simp only [Bool.or_eq_true, Bool.and_eq_true, Bool.not_eq_true', decide_eq_false_iff_not, bne_iff_ne, Bool.false_eq_true, decide_eq_true_eq, beq_iff_eq, false_iff, true_iff]; omega)), rfl⟩
  case rest =>
  obtain ⟨rfl, rfl, rfl, rfl⟩ := hcut
  obtain ⟨w1, rfl⟩ : ∃ w1, w1 = wc := ⟨_, rfl⟩
  by_cases hm : ¬ ((224 ≤ c ∧ c ≤ 239) ∨ c = 254) ∧ 194 < c ∧ c ≠ 196 ∧ c ≠ 218 ∧ c ≠ 219 ∧ c ≠ 221
  case pos =>
    have HE : Hid (prE c s = 6) := Lib.hid (by exact prE_may' (by unfold mayC; (repeat' split) <;> omega) (by decide))
    have HNZ : Hid ((6 : Int) ≠ 0) := Lib.hid (by decide)
    have hdd : decide (¬ ((224 ≤ c ∧ c ≤ 239) ∨ c = 254) ∧ 194 < c ∧ c ≠ 196 ∧ c ≠ 218 ∧ c ≠ 219 ∧ c ≠ 221) = true := decide_eq_true hm
    rw [hdd]
    clear hdd hm
    go_wp2_with (refine wpList_store_far rfl 37 (.tmp 4) _ rfl w.heap.size (SC 0 ⟨#[]⟩ nilS nilS 0 0 nilS nilS 0 0 0 0 0) _ 37 rfl rfl HI1.out.x0 (by rw [sc_size]; kernel_rfl) rfl (sc_one _ _ _ _ _ _ _ _ _ _ _ _ _ rfl rfl rfl rfl) ?_; intro wz hz1 hz2 hz3 hz4 hz5; have HZ1 := Lib.hid hz1; have HZB := Lib.hid (hz3 _ _ (Nat.le_refl _) HI1.out.be); clear hz1 hz2 hz3 hz4 hz5)
    exact bodyPost_ret (results_row_tmp rfl _ _ w.heap.size 37 _ (0, 0) _ rfl HZ1.out Tryd.underlying37 rfl (by rw [sc_size]; kernel_rfl)) rfl ⟨_, by rw [HE.out]; rfl, sc_size _ _ _ _ _ _ _ _ _ _ _ _ _, sc_one _ _ _ _ _ _ _ _ _ _ _ _ _ rfl rfl rfl rfl, fun h => absurd (HE.out ▸ h) HNZ.out, HZB.out⟩
  case neg =>
  have hdd : decide (¬ ((224 ≤ c ∧ c ≤ 239) ∨ c = 254) ∧ 194 < c ∧ c ≠ 196 ∧ c ≠ 218 ∧ c ≠ 219 ∧ c ≠ 221) = false := decide_eq_false hm
  rw [hdd]
  clear hdd
  have hmz : mayC c = 0 := by unfold mayC; (repeat' split) <;> omega
  go_upto_region 9 with fail
  go_cut [60] (fun b wx => b = .bool (decide (65533 < s.size)) ∧ wx = w1)
  case first =>
    go_wp2_with fail
    all_goals
      go_meet
      case rel => exact ⟨congrArg Value.bool (by first | rfl | (rw [Bool.eq_iff_iff]; simp only [Bool.false_eq_true, decide_eq_true_eq, false_iff, true_iff]; omega)), rfl⟩
  case rest =>
  obtain ⟨rfl, rfl⟩ := hcut
  obtain ⟨w1, rfl⟩ : ∃ w1, w1 = wc := ⟨_, rfl⟩
  by_cases hs : 65533 < s.size
  case pos =>
    have HE : Hid (prE c s = 4) := Lib.hid (by unfold prE; rw [if_neg (by simpa using hmz), if_pos hs])
    have HNZ : Hid ((4 : Int) ≠ 0) := Lib.hid (by decide)
    have hdd : decide (65533 < s.size) = true := decide_eq_true hs
    rw [hdd]
    clear hdd hm hs hmz
    go_wp2_with (refine wpList_store_far rfl 37 (.tmp 4) _ rfl w.heap.size (SC 0 ⟨#[]⟩ nilS nilS 0 0 nilS nilS 0 0 0 0 0) _ 37 rfl rfl HI1.out.x0 (by rw [sc_size]; kernel_rfl) rfl (sc_one _ _ _ _ _ _ _ _ _ _ _ _ _ rfl rfl rfl rfl) ?_; intro wz hz1 hz2 hz3 hz4 hz5; have HZ1 := Lib.hid hz1; have HZB := Lib.hid (hz3 _ _ (Nat.le_refl _) HI1.out.be); clear hz1 hz2 hz3 hz4 hz5)
    exact bodyPost_ret (results_row_tmp rfl _ _ w.heap.size 37 _ (0, 0) _ rfl HZ1.out Tryd.underlying37 rfl (by rw [sc_size]; kernel_rfl)) rfl ⟨_, by rw [HE.out]; rfl, sc_size _ _ _ _ _ _ _ _ _ _ _ _ _, sc_one _ _ _ _ _ _ _ _ _ _ _ _ _ rfl rfl rfl rfl, fun h => absurd (HE.out ▸ h) HNZ.out, HZB.out⟩
  case neg =>
  have hdd : decide (65533 < s.size) = false := decide_eq_false hs
  rw [hdd]
  clear hdd
  obtain ⟨T, hT⟩ : ∃ T, T = (prS c s).1 := ⟨_, rfl⟩
  obtain ⟨G, hG⟩ : ∃ G, G = (prS c s).2 := ⟨_, rfl⟩
  obtain ⟨E, hE⟩ : ∃ E, E = prE c s := ⟨_, rfl⟩
  have hEE : E = (tS T (decide (T.a = s.size)) 4).e := by rw [hE, prE, if_neg (by simpa using hmz), if_neg hs, hT]
  have hS : prS c s = (T, G) := by rw [hT, hG]
  have hGG : prG c s = G := by rw [hG]; rfl
  have hsz : s.size ≤ 65533 := by omega
  have HEE := Lib.hid hEE; have HS := Lib.hid hS; have HGG := Lib.hid hGG; have HE0 := Lib.hid hE
  clear hEE hS hGG hE hT hG hs hmz
  obtain ⟨app, hApp⟩ : ∃ a, a = decide ((224 ≤ c ∧ c ≤ 239) ∨ c = 254) := ⟨_, rfl⟩
  rw [← hApp]
  go_upto_block 0 with fail
  go_cut [8] (fun b wx => ∃ cs, b = .int .i64 E ∧ cs.size = 13 ∧ cs.all (·.oneCell') = true ∧ (E = 0 → RgV wx w.heap.size cs G) ∧ Hid (RpI w cs wx))
  case first =>
    by_cases hA : (224 ≤ c ∧ c ≤ 239) ∨ c = 254
    · have n1 : ¬ c = 219 := by omega
      have n2 : ¬ c = 196 := by omega
      have n3 : ¬ c = 218 := by omega
      have n4 : ¬ c = 221 := by omega
      have n5 : ¬ c ≤ 194 := by omega
      have hq : T = ⟨s.size, 0⟩ ∧ G = .plain c s := by have := HS.out; simp only [prS, if_neg n1, if_neg n2, if_neg n3, if_neg n4, if_neg n5] at this; injection this with h1 h2; exact ⟨h1.symm, h2.symm⟩
      have hEq : E = 0 := by rw [HEE.out, hq.1]; show (tS ⟨s.size, 0⟩ (decide (s.size = s.size)) 4).e = 0; rw [decide_eq_true rfl, tS_true]
      have HEq := Lib.hid hEq; have HQ := Lib.hid hq
      obtain rfl : app = true := by rw [hApp]; exact decide_eq_true hA
      clear hApp hq hEq n1 n2 n3 n4 n5 hA hm
      have e1 : w1.cell? ⟨w.heap.size + 1, 1, none⟩ = some (.string ⟨#[]⟩) := HI1.out.x1.cell 1; have f1 := HI1.out.x1.frozen 1
      go_wp2_with fail
      go_meet
      case rel => exact ⟨SC c s nilS nilS 0 0 nilS nilS 0 0 0 0 0, by rw [HEq.out], rfl, sc_one _ _ _ _ _ _ _ _ _ _ _ _ _ rfl rfl rfl rfl, fun _ => by rw [HQ.out.2]; rfl, Lib.hid ⟨HI1.out.x0.far (by simp) _, HI1.out.x1.set_ 1 _, HI1.out.be.setCell (Nat.le_succ _) _⟩⟩
    obtain rfl : app = false := by rw [hApp]; exact decide_eq_false hA
    clear hApp
    have hlow : ¬ c = 219 → ¬ c = 196 → ¬ c = 218 → ¬ c = 221 → c ≤ 194 := by omega
    have HLOW := Lib.hid hlow
    clear hlow hA hm hr1 hr2 hr3
    by_cases h1 : c = 219
    · obtain rfl := h1
      have hq : T = (quR s st0).1 ∧ G = .quants (quR s st0).2 := by have := HS.out; simp only [prS, if_pos] at this; injection this with h1 h2; exact ⟨h1.symm, h2.symm⟩
      have hEq : E = (quR s st0).1.e := by rw [HEE.out, hq.1, quR_e]
      have HEq := Lib.hid hEq; have HQ := Lib.hid hq; clear hq hEq 
      go_wp2_with (go_at_call 40; refine (refQuants_walk s hsz _).mono ?_; rintro ex w4 ⟨v4, rfl, ⟨A4, n4, cp4, rfl⟩, hO, hB⟩; rw [← HEq.out] at hO ⊢; have HO := Lib.hid hO; have HI2 := Lib.hid (HI1.out.bel hB); clear hO hB; have e2 : w4.cell? ⟨w.heap.size + 1, 2, none⟩ = some (nilS) := HI2.out.x1.cell 2; have f2 := HI2.out.x1.frozen 2)
      go_meet
      case rel => exact ⟨SC 219 ⟨#[]⟩ (.slice A4 n4 cp4) nilS 0 0 nilS nilS 0 0 0 0 0, rfl, rfl, sc_one _ _ _ _ _ _ _ _ _ _ _ _ _ rfl rfl rfl rfl, fun hz => by rw [HQ.out.2]; exact ⟨_, rfl, ((HO.out hz).mono HI1.out.be.size).set (((HO.out hz).mono HI1.out.be.size).neT HI2.out.x1 (by decide)) _⟩, Lib.hid ⟨HI2.out.x0.far (by simp) _, HI2.out.x1.set_ 2 _, HI2.out.be.setCell (Nat.le_succ _) _⟩⟩
    have e1 : (c == 219) = false := by simpa using h1
    by_cases h2 : c = 196
    · obtain rfl := h2
      have hq : T = (huR s st0).1 ∧ G = .huffs (huR s st0).2 := by have := HS.out; simp only [prS, if_pos, if_neg h1] at this; injection this with h1 h2; exact ⟨h1.symm, h2.symm⟩
      have hEq : E = (huR s st0).1.e := by rw [HEE.out, hq.1, huR_e]
      have HEq := Lib.hid hEq; have HQ := Lib.hid hq; clear hq hEq h1
      go_wp2_with (go_at_call 41; refine (refHuffs_walk s hsz _).mono ?_; rintro ex w4 ⟨v4, rfl, ⟨A4, n4, cp4, rfl⟩, hO, hB⟩; rw [← HEq.out] at hO ⊢; have HO := Lib.hid hO; have HI2 := Lib.hid (HI1.out.bel hB); clear hO hB; have e3 : w4.cell? ⟨w.heap.size + 1, 3, none⟩ = some (nilS) := HI2.out.x1.cell 3; have f3 := HI2.out.x1.frozen 3)
      go_meet
      case rel => exact ⟨SC 196 ⟨#[]⟩ nilS (.slice A4 n4 cp4) 0 0 nilS nilS 0 0 0 0 0, rfl, rfl, sc_one _ _ _ _ _ _ _ _ _ _ _ _ _ rfl rfl rfl rfl, fun hz => by rw [HQ.out.2]; exact ⟨_, rfl, ((HO.out hz).mono HI1.out.be.size).set (((HO.out hz).mono HI1.out.be.size).neT HI2.out.x1 (by decide)) _⟩, Lib.hid ⟨HI2.out.x0.far (by simp) _, HI2.out.x1.set_ 3 _, HI2.out.be.setCell (Nat.le_succ _) _⟩⟩
    have e2 : (c == 196) = false := by simpa using h2
    by_cases h3 : c = 218
    · obtain rfl := h3
      have hq : T = (scR s st0).t ∧ G = .scan (scR s st0).l (scR s st0).a (scR s st0).b (scR s st0).hi (scR s st0).lo := by have := HS.out; simp only [prS, if_pos, if_neg h1, if_neg h2] at this; injection this with h1 h2; exact ⟨h1.symm, h2.symm⟩
      have hEq : E = (tS (scR s st0).t (decide ((scR s st0).t.a = s.size)) 4).e := by rw [HEE.out, hq.1]
      have HEq := Lib.hid hEq; have HQ := Lib.hid hq; clear hq hEq h1 h2
      go_wp2_with (first | (go_at_call 42; refine (refScan_walk s 218 hsz _).mono ?_; rintro ex w4 ⟨cs4, rfl, hz4, ho4, hO, hB⟩; rw [← HEq.out] at hO ⊢; have HO := Lib.hid hO; have HI2 := Lib.hid (HI1.out.bel hB); have HZ4 := Lib.hid hz4; have HO4 := Lib.hid ho4; clear hO hB hz4 ho4) | (refine wpList_load_row rfl 37 (.tmp 6) rfl (w.heap.size + 1) rfl 37 _ (0, 0) _ HI1.out.x1 Tryd.underlying37 rfl (by rw [sc_size]; kernel_rfl) ?_) | (refine wpList_store_far rfl 37 (.tmp 6) _ rfl (w.heap.size + 1) _ _ 37 rfl rfl HI2.out.x1 (by rw [HZ4.out]; kernel_rfl) (by rw [HZ4.out]; rfl) HO4.out ?_; intro wz hz1 hz2 hz3 hz4 hz5; have HZ1 := Lib.hid hz1; have HZ2 := Lib.hid hz2; have HZB := Lib.hid (hz3 _ _ (by omega) HI2.out.be); clear hz1 hz2 hz3 hz4 hz5))
      go_meet
      case rel => exact ⟨cs4, rfl, HZ4.out, HO4.out, fun hz => by obtain ⟨v, rfl, ho⟩ := HO.out hz; rw [HQ.out.2]; exact ⟨v, rfl, (ho.mono HI1.out.be.size).keep fun g cs hg => HZ2.out g _ cs (fun he => by subst he; have hh := hg.symm.trans HI2.out.x1; injection hh with hh; injection hh with _ hh; exact absurd hh (by decide)) hg⟩, Lib.hid ⟨HZ2.out _ _ _ (by omega) HI2.out.x0, HZ1.out, HZB.out⟩⟩
    have e3 : (c == 218) = false := by simpa using h3
    by_cases h4 : c = 221
    · obtain rfl := h4
      have hq : T = nS s 2 st0 ∧ G = .rst (nV s 2 st0) := by have := HS.out; simp only [prS, if_pos, if_neg h1, if_neg h2, if_neg h3] at this; injection this with h1 h2; exact ⟨h1.symm, h2.symm⟩
      have HQ := Lib.hid hq; clear hq h1 h2 h3
      go_upto_region 23 with (go_at_call 43; refine (pair_walk s 0 (by omega) (by omega) _).mono ?_; rintro ex w4 ⟨rfl, hB⟩; have HI2 := Lib.hid (HI1.out.bel hB); clear hB; have e12 : w4.cell? ⟨w.heap.size + 1, 12, none⟩ = some (.int .i64 0) := HI2.out.x1.cell 12; have f12 := HI2.out.x1.frozen 12)
      have HI3 : Hid (RpI w (SC 221 ⟨#[]⟩ nilS nilS 0 0 nilS nilS 0 0 0 0 (pAt s 0)) (w4.setCell ⟨w.heap.size + 1, 12, none⟩ (.int .i64 (pAt s 0)))) := Lib.hid ⟨HI2.out.x0.far (by simp) _, HI2.out.x1.set_ 12 _, HI2.out.be.setCell (Nat.le_succ _) _⟩
      clear e12 f12
      go_cut [107] (fun b wx => b = .bool (decide (s.size ≠ 2)) ∧ Hid (RpI w (SC 221 ⟨#[]⟩ nilS nilS 0 0 nilS nilS 0 0 0 0 (pAt s 0)) wx))
      case first =>
        go_wp2_with fail
        all_goals
          go_meet
          case rel => exact ⟨congrArg Value.bool (by first | rfl | (rw [Bool.eq_iff_iff]; simp only [Bool.false_eq_true, decide_eq_true_eq, bne_iff_ne, ne_eq, false_iff, true_iff]; omega)), HI3⟩
      case rest =>
      obtain ⟨rfl, HI4⟩ := hcut
      by_cases h2 : s.size = 2
      · have hp : 0 ≤ pAt s 0 := by rw [pAt, dif_pos (by omega)]; omega
        obtain ⟨q1, q2, q3⟩ := pAt_ok hp
        have hEq : E = 0 := by rw [HEE.out, HQ.out.1]; show (tS (nS s 2 ⟨0, 0⟩) (decide ((nS s 2 ⟨0, 0⟩).a = s.size)) 4).e = 0; rw [q1, h2]; rfl
        have hGq : G = .rst (pAt s 0) := by rw [HQ.out.2]; exact congrArg _ q2
        have hdd : decide (s.size ≠ 2) = false := decide_eq_false (by omega)
        rw [hdd]
        have HEq := Lib.hid hEq; have HGq := Lib.hid hGq
        clear hdd hEq hGq h2 hp q1 q2 q3
        go_wp2_with fail
        go_meet
        case rel => exact ⟨SC 221 ⟨#[]⟩ nilS nilS 0 0 nilS nilS 0 0 0 0 (pAt s 0), by rw [HEq.out], rfl, sc_one _ _ _ _ _ _ _ _ _ _ _ _ _ rfl rfl rfl rfl, fun _ => by rw [HGq.out]; rfl, HI4⟩
      · have hEq : E = 4 := by
          rw [HEE.out, HQ.out.1]
          by_cases hp : 0 ≤ pAt s 0
          · obtain ⟨q1, q2, q3⟩ := pAt_ok hp
            show (tS (nS s 2 ⟨0, 0⟩) (decide ((nS s 2 ⟨0, 0⟩).a = s.size)) 4).e = 4
            rw [q1, decide_eq_false (by show ¬ (0 + 2 = s.size); omega)]; rfl
          · have q := pAt_no (s := s) (i := 0) (by omega)
            show (tS (nS s 2 ⟨0, 0⟩) _ 4).e = 4
            rw [tS_stay (by rw [q]; decide), q]
        have hdd : decide (s.size ≠ 2) = true := decide_eq_true h2
        rw [hdd]
        have HEq := Lib.hid hEq
        clear hdd hEq h2
        go_wp2_with fail
        go_meet
        case rel => exact ⟨SC 221 ⟨#[]⟩ nilS nilS 0 0 nilS nilS 0 0 0 0 (pAt s 0), by rw [HEq.out], rfl, sc_one _ _ _ _ _ _ _ _ _ _ _ _ _ rfl rfl rfl rfl, fun h => absurd (HEq.out ▸ h) (by decide), HI4⟩
    have e4 : (c == 221) = false := by simpa using h4
    have h5 := HLOW.out h1 h2 h3 h4
    have hq : T = (frR s st0).t ∧ G = .frame c (frR s st0).h (frR s st0).w (frR s st0).l := by have := HS.out; simp only [prS, if_pos h5, if_neg h1, if_neg h2, if_neg h3, if_neg h4] at this; injection this with h1 h2; exact ⟨h1.symm, h2.symm⟩
    have hEq : E = (tS (frR s st0).t (decide ((frR s st0).t.a = s.size)) 4).e := by rw [HEE.out, hq.1]
    have HEq := Lib.hid hEq; have HQ := Lib.hid hq; clear hq hEq h1 h2 h3 h4 h5
    go_wp2_with (first | (go_at_call 44; refine (refFrame_walk s c hsz _).mono ?_; rintro ex w4 ⟨cs4, rfl, hz4, ho4, hO, hB⟩; rw [← HEq.out] at hO ⊢; have HO := Lib.hid hO; have HI2 := Lib.hid (HI1.out.bel hB); have HZ4 := Lib.hid hz4; have HO4 := Lib.hid ho4; clear hO hB hz4 ho4) | (refine wpList_load_row rfl 37 (.tmp 6) rfl (w.heap.size + 1) rfl 37 _ (0, 0) _ HI1.out.x1 Tryd.underlying37 rfl (by rw [sc_size]; kernel_rfl) ?_) | (refine wpList_store_far rfl 37 (.tmp 6) _ rfl (w.heap.size + 1) _ _ 37 rfl rfl HI2.out.x1 (by rw [HZ4.out]; kernel_rfl) (by rw [HZ4.out]; rfl) HO4.out ?_; intro wz hz1 hz2 hz3 hz4 hz5; have HZ1 := Lib.hid hz1; have HZ2 := Lib.hid hz2; have HZB := Lib.hid (hz3 _ _ (by omega) HI2.out.be); clear hz1 hz2 hz3 hz4 hz5))
    go_meet
    case rel => exact ⟨cs4, rfl, HZ4.out, HO4.out, fun hz => by obtain ⟨v, rfl, ho⟩ := HO.out hz; rw [HQ.out.2]; exact ⟨v, rfl, (ho.mono HI1.out.be.size).keep fun g cs hg => HZ2.out g _ cs (fun he => by subst he; have hh := hg.symm.trans HI2.out.x1; injection hh with hh; injection hh with _ hh; exact absurd hh (by decide)) hg⟩, Lib.hid ⟨HZ2.out _ _ _ (by omega) HI2.out.x0, HZ1.out, HZB.out⟩⟩
  case rest =>
  obtain ⟨cs, rfl, hz, ho, hG, HI⟩ := hcut
  obtain ⟨w1, rfl⟩ : ∃ w1, w1 = wc := ⟨_, rfl⟩
  have HZ := Lib.hid hz; have HO := Lib.hid ho; have HGr := Lib.hid hG
  clear hz ho hG HI1
  by_cases h0 : E = 0
  · obtain rfl := h0
    go_wp2_with (first | (refine wpList_load_row rfl 37 (.tmp 6) rfl (w.heap.size + 1) rfl 37 _ (0, 0) _ HI.out.x1 Tryd.underlying37 rfl (by rw [HZ.out]; kernel_rfl) ?_) | (refine wpList_store_far rfl 37 (.tmp 4) _ rfl w.heap.size _ _ 37 rfl rfl HI.out.x0 (by rw [HZ.out]; kernel_rfl) (by rw [HZ.out]; rfl) HO.out ?_; intro wz hz1 hz2 hz3 hz4 hz5; have HZ1 := Lib.hid hz1; have HZ2 := Lib.hid hz2; have HZB := Lib.hid (hz3 _ _ (Nat.le_refl _) HI.out.be); clear hz1 hz2 hz3 hz4 hz5))
    exact bodyPost_ret (results_row_tmp rfl _ _ w.heap.size 37 _ (0, 0) _ rfl HZ1.out Tryd.underlying37 rfl (by rw [HZ.out]; kernel_rfl)) rfl ⟨_, by rw [← HE0.out]; rfl, HZ.out, HO.out, fun h => by rw [HGG.out]; exact (HGr.out (by first | trivial | rfl)).keep (fun e he g cs' hg => HZ2.out g e cs' (fun hgg => by subst hgg; have hh := hg.symm.trans HI.out.x0; injection hh with hh; injection hh with _ hh; rcases he with rfl | rfl | rfl | rfl <;> exact absurd hh (by decide)) hg), HZB.out⟩
  · have e0 : (E == 0) = false := by simpa using h0
    go_wp2_with (refine wpList_store_far rfl 37 (.tmp 4) _ rfl w.heap.size (SC 0 ⟨#[]⟩ nilS nilS 0 0 nilS nilS 0 0 0 0 0) _ 37 rfl rfl HI.out.x0 (by rw [sc_size]; kernel_rfl) rfl (sc_one _ _ _ _ _ _ _ _ _ _ _ _ _ rfl rfl rfl rfl) ?_; intro wz hz1 hz2 hz3 hz4 hz5; have HZ1 := Lib.hid hz1; have HZB := Lib.hid (hz3 _ _ (Nat.le_refl _) HI.out.be); clear hz1 hz2 hz3 hz4 hz5)
    exact bodyPost_ret (results_row_tmp rfl _ _ w.heap.size 37 _ (0, 0) _ rfl HZ1.out Tryd.underlying37 rfl (by rw [sc_size]; kernel_rfl)) rfl ⟨_, by rw [← HE0.out]; rfl, sc_size _ _ _ _ _ _ _ _ _ _ _ _ _, sc_one _ _ _ _ _ _ _ _ _ _ _ _ _ rfl rfl rfl rfl, fun h => absurd (HE0.out.trans h) h0, HZB.out⟩
end Go.Proofs.YthibnhgbgmpjoaaDoor
