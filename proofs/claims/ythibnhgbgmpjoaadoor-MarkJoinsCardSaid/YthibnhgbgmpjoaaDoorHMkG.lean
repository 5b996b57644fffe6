/- The document's run and DataEnd (gen_mkg.py). No condition. -/
import Derived.Test.YthibnhgbgmpjoaaDoorHMkD
namespace Go.Proofs.YthibnhgbgmpjoaaDoor
open Go.RowKit
set_option linter.unusedSimpArgs false
set_option linter.unusedVariables false
set_option maxRecDepth 100000
set_option maxHeartbeats 1000000 in
theorem run_walk (s : ByteArray) (a n : Nat) (hs : s.size ≤ 16777216) (ha : a ≤ s.size) (hn : ffEnd s a = a + n) (w : World) :
    Calls Tryd.prog 19 #[.string s, .int .i64 a] w fun e w' => e = .returned (.int .i64 n) ∧ w = w' := by
  have HN := Lib.hid hn; clear hn
  go_enter Tryd.func19, Tryd.ntmps19
  go_wp2_with fail
  go_loopw [5] (fun i wr => ∃ k : Nat, a + k ≤ s.size ∧ i = .int .i64 k ∧ wr = w ∧ Hid (∀ j, a ≤ j → j < a + k → bAt s j = 255)) (fun i _ => s.size - (intOf i).toNat)
  case atStart => exact ⟨0, by omega, rfl, rfl, Lib.hid fun j h1 h2 => by omega⟩
  case round =>
    obtain ⟨k, hk, rfl, rfl, HJ⟩ := hrel
    obtain ⟨w1, rfl⟩ : ∃ w1 : World, w1 = wr := ⟨_, rfl⟩
    by_cases hlt : a + k < s.size
    case neg =>
      have HF : Hid (n = k) := Lib.hid (by have := ffEnd_eq (s := s) (i := a) (k := a + k) ⟨by omega, HJ.out, by rw [bAt_out (by omega)]; decide⟩; have h2 := HN.out; omega)
      go_wp2_with fail
      go_ret
      exact ⟨by rw [HF.out]; rfl, by first | rfl | trivial⟩
    case pos =>
    have hb := bAt_in hlt
    obtain ⟨x, hx⟩ : ∃ x, x = s[a + k] := ⟨_, rfl⟩
    have e1 : s[a + k]? = some x := by rw [hx]; exact str_at hlt
    have x1 := fun W => run_index_str (P := Tryd.prog) W Tryd.underlying9 (by omega : (a : Int) + (k : Int) = ((a + k : Nat) : Int)) e1
    rw [← hx] at hb
    clear hx e1
    by_cases h255 : x.toNat = 255
    case pos =>
      have d1 : ((x.toNat : Int) == 255) = true := by rw [h255]; rfl
      have HJ2 : Hid (∀ j, a ≤ j → j < a + (k + 1) → bAt s j = 255) := Lib.hid fun j h1 h2 => by
        by_cases e : j = a + k
        · rw [e, hb, h255]; rfl
        · exact HJ.out j h1 (by omega)
      clear h255 hb
      go_wp2_with fail
      go_roundw
      case rel => exact ⟨k + 1, by omega, by go_num, by first | rfl | trivial, HJ2⟩
      case measure => simp [intOf]; omega
    case neg =>
      have d1 : ((x.toNat : Int) == 255) = false := by simp; omega
      have HF : Hid (n = k) := Lib.hid (by have := ffEnd_eq (s := s) (i := a) (k := a + k) ⟨by omega, HJ.out, by rw [hb]; omega⟩; have h2 := HN.out; omega)
      clear h255 hb
      go_wp2_with fail
      go_ret
      exact ⟨by rw [HF.out]; rfl, by first | rfl | trivial⟩
set_option maxHeartbeats 1000000 in
theorem dataEnd_walk (s : ByteArray) (a : Nat) (hs : s.size ≤ 16777216) (ha : a ≤ s.size) (w : World) :
    Calls Tryd.prog 21 #[.string s, .int .i64 a] w fun e w' => e = .returned (.int .i64 (dEnd s a)) ∧ w = w' := by
  obtain ⟨R, hR⟩ : ∃ R, R = dEnd s a := ⟨_, rfl⟩
  rw [← hR]
  have HRUN := Lib.hid (fun (k n : Nat) (hk : k ≤ s.size) (hn : ffEnd s k = k + n) (W : World) => run_walk s k n hs hk hn W)
  go_enter Tryd.func21, Tryd.ntmps21
  go_wp2_with fail
  go_loopw [5] (fun i wr => ∃ k : Nat, k ≤ s.size ∧ i = .int .i64 k ∧ wr = w ∧ Hid (R = dEnd s k)) (fun i _ => s.size - (intOf i).toNat)
  case atStart => exact ⟨a, ha, rfl, rfl, Lib.hid hR⟩
  case round =>
    clear hR
    obtain ⟨k, hk, rfl, rfl, HR⟩ := hrel
    obtain ⟨w1, rfl⟩ : ∃ w1 : World, w1 = wr := ⟨_, rfl⟩
    by_cases hlt : k < s.size
    case neg =>
      obtain rfl : k = s.size := by omega
      have HF : Hid (R = s.size) := Lib.hid (by rw [HR.out, dEnd_eq, if_pos (Nat.le_refl _)])
      go_wp2_with fail
      go_ret
      exact ⟨by rw [HF.out]; rfl, by first | rfl | trivial⟩
    case pos =>
    have hff := ffEnd_is s k
    obtain ⟨n, hn⟩ : ∃ n, ffEnd s k = k + n := ⟨ffEnd s k - k, by have := hff.le; omega⟩
    have hnz := ffEnd_le hk
    rw [hn] at hnz
    have HCR : Hid (∀ W, Calls Tryd.prog 19 #[.string s, .int .i64 k] W fun e w' => e = .returned (.int .i64 n) ∧ W = w') := Lib.hid fun W => HRUN.out k n hk hn W
    have HR2 : Hid (R = if n = 0 then dEnd s (k + 1) else if s.size ≤ k + n then s.size else if endB (bAt s (k + n)) then k else dEnd s (k + n + 1)) := Lib.hid (by
      rw [HR.out, dEnd_eq s k, if_neg (by omega), hn]
      by_cases h0 : n = 0
      · rw [if_pos h0, if_neg (by rw [hn, h0] at hff; exact hff.no)]
      · rw [if_neg h0, if_pos (hff.all k (Nat.le_refl _) (by omega))])
    clear HR hff hn
    by_cases h0 : n = 0
    case pos =>
      obtain rfl := h0
      have HF : Hid (R = dEnd s (k + 1)) := Lib.hid (by rw [HR2.out, if_pos rfl])
      go_wp2_with (go_at_call 19; refine (HCR.out _).mono ?_; rintro ex wq ⟨rfl, rfl⟩)
      go_roundw
      case rel => exact ⟨k + 1, by omega, by go_num, by first | rfl | trivial, HF⟩
      case measure => simp [intOf]; omega
    case neg =>
    have d0 : ((n : Int) == 0) = false := by simpa using h0
    by_cases h1 : k + n = s.size
    case pos =>
      have HF : Hid (R = s.size) := Lib.hid (by rw [HR2.out, if_neg h0, if_pos (by omega)])
      have d1 : ((k : Int) + (n : Int) == (s.size : Int)) = true := by simp; omega
      go_wp2_with (go_at_call 19; refine (HCR.out _).mono ?_; rintro ex wq ⟨rfl, rfl⟩)
      go_ret
      exact ⟨by rw [HF.out]; rfl, by first | rfl | trivial⟩
    case neg =>
    have hlq : k + n < s.size := by omega
    have d1 : ((k : Int) + (n : Int) == (s.size : Int)) = false := by simp; omega
    have hb := bAt_in hlq
    obtain ⟨y, hy⟩ : ∃ x, x = s[k + n] := ⟨_, rfl⟩
    have e1 : s[k + n]? = some y := by rw [hy]; exact str_at hlq
    have x1 := fun W => run_index_str (P := Tryd.prog) W Tryd.underlying9 (by omega : (k : Int) + (n : Int) = ((k + n : Nat) : Int)) e1
    rw [← hy] at hb
    have hx0 := y.toNat_lt
    obtain ⟨c, hc⟩ : ∃ c : Int, c = y.toNat := ⟨_, rfl⟩
    have x2 : ∀ W, (Instr.index 9 (.string s) (.int .i64 ((k : Int) + (n : Int)))).run Tryd.prog W = .ok (.int .u8 c) W := fun W => by rw [hc]; exact x1 W
    have hc0 : 0 ≤ c ∧ c < 256 := by omega
    rw [← hc] at hb
    have HR3 : Hid (R = if endB c then k else dEnd s (k + n + 1)) := Lib.hid (by rw [HR2.out, if_neg h0, if_neg (by omega), hb])
    clear hy e1 hb x1 hx0 hc HR2
    go_upto_region 9 with (go_at_call 19; refine (HCR.out _).mono ?_; rintro ex wq ⟨rfl, rfl⟩)
    clear x2
    go_cut [7, 42] (fun b7 b wx => b7 = .int .u8 c ∧ b = .bool (decide (c = 0 ∨ (208 ≤ c ∧ c ≤ 215))) ∧ wx = w1)
    case first =>
      go_wp2_with fail
      all_goals
        go_meet
        case rel => exact ⟨congrArg (Value.int .u8) (by first | rfl | omega), congrArg Value.bool (by first | rfl | (rw [Bool.eq_iff_iff]; simp only [Bool.or_eq_true, Bool.and_eq_true, Bool.not_eq_true', decide_eq_false_iff_not, bne_iff_ne, Bool.false_eq_true, decide_eq_true_eq, beq_iff_eq, false_iff, true_iff]; done) | (rw [Bool.eq_iff_iff]; simp only [Bool.or_eq_true, Bool.and_eq_true, Bool.not_eq_true', decide_eq_false_iff_not, bne_iff_ne, Bool.false_eq_true, decide_eq_true_eq, beq_iff_eq, false_iff, true_iff]; omega)), by first | rfl | trivial⟩
    case rest =>
    obtain ⟨rfl, rfl, rfl⟩ := hcut
    obtain ⟨w1, rfl⟩ : ∃ w1 : World, w1 = wc := ⟨_, rfl⟩
    by_cases h2 : c = 0 ∨ (208 ≤ c ∧ c ≤ 215)
    case pos =>
      have HF : Hid (R = dEnd s (k + n + 1)) := Lib.hid (by rw [HR3.out, if_neg (show ¬ endB c by unfold endB; omega)])
      rw [decide_eq_true h2]
      clear h2
      go_wp2_with fail
      go_roundw
      case rel => exact ⟨k + n + 1, by omega, by go_num, by first | rfl | trivial, HF⟩
      case measure => simp [intOf]; omega
    case neg =>
      have HF : Hid (R = k) := Lib.hid (by rw [HR3.out, if_pos (show endB c by unfold endB; omega)])
      rw [decide_eq_false h2]
      clear h2
      go_wp2_with fail
      go_ret
      exact ⟨by rw [HF.out]; rfl, by first | rfl | trivial⟩
end Go.Proofs.YthibnhgbgmpjoaaDoor
