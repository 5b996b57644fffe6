/- Extend and Shorten, of the program and of the document. No condition. -/
import Derived.Test.YtaofponadaifiaaHuA
namespace Go.Proofs.Ytaofponadaifiaa
open Go.RowKit
set_option linter.unusedSimpArgs false
set_option linter.unusedVariables false
/-- Bits stand for no number. -/
def exNo (v n : Int) : Prop := n < 1 ∨ 15 < n ∨ v < 0 ∨ (2 : Int) ^ n.toNat ≤ v
theorem pow_cast (k : Nat) : ∃ Q : Nat, (2 : Int) ^ k = (Q : Int) ∧ Q = 2 ^ k ∧ 1 ≤ Q := ⟨2 ^ k, by norm_cast, rfl, Nat.one_le_two_pow⟩
theorem div_pos_iff (v : Int) (Q : Nat) (hQ : 1 ≤ Q) : 0 < v / (Q : Int) ↔ (Q : Int) ≤ v := by
  have hq : (0 : Int) < (Q : Int) := by omega
  constructor
  · intro h
    have := Int.mul_ediv_self_le (x := v) (k := (Q : Int)) (by omega)
    have h1 : (Q : Int) * 1 ≤ (Q : Int) * (v / (Q : Int)) := Int.mul_le_mul_of_nonneg_left (by omega) (by omega)
    omega
  · intro h
    have := Int.le_ediv_of_mul_le hq (show 1 * (Q : Int) ≤ v by omega)
    omega
theorem pow_le (k : Nat) (h : k ≤ 15) : (2 : Nat) ^ k ≤ 32768 := Nat.pow_le_pow_right (n := 2) (by omega) h
theorem ext_no (v n : Int) (h : exNo v n) (w : World) : Calls Try.prog 16 #[.int .i64 v, .int .i64 n] w fun e w' => e = .returned (.int .i64 0) ∧ w' = w := by
  by_cases h1 : n < 1
  · have g : decide (n < 1) = true := by simpa using h1
    clear h
    go_enter Try.func16, Try.ntmps16
    go_wp2
    go_ret
    exact ⟨rfl, rfl⟩
  · by_cases h2 : 16 ≤ n
    · have g1 : decide (n < 1) = false := by simpa using h1
      have g : decide (16 ≤ n) = true := by simpa using h2
      clear h
      go_enter Try.func16, Try.ntmps16
      go_wp2
      go_ret
      exact ⟨rfl, rfl⟩
    · have g1 : decide (n < 1) = false := by simpa using h1
      have g2 : decide (16 ≤ n) = false := by simpa using h2
      by_cases h3 : v < 0
      · have g : decide (v < 0) = true := by simpa using h3
        clear h
        go_enter Try.func16, Try.ntmps16
        go_wp2
        go_ret
        exact ⟨rfl, rfl⟩
      · have g3 : decide (v < 0) = false := by simpa using h3
        obtain ⟨m, rfl⟩ : ∃ m : Nat, n = m := ⟨n.toNat, by omega⟩
        obtain ⟨Q, hq, hQ, hQ1⟩ := pow_cast m
        have hle : (Q : Int) ≤ v := by
          rcases h with h | h | h | h
          · omega
          · omega
          · omega
          · rw [Int.toNat_natCast, hq] at h; exact h
        have g4 : decide (0 < v / (Q : Int)) = true := by simp; exact (div_pos_iff v Q hQ1).2 hle
        clear h hQ
        go_enter Try.func16, Try.ntmps16
        go_wp2
        go_ret
        exact ⟨rfl, rfl⟩
theorem ext_hi (v : Int) (m : Nat) (hm : m ≤ 14) (h0 : (2 : Int) ^ m ≤ v) (h1 : v < 2 ^ (m + 1)) (w : World) : Calls Try.prog 16 #[.int .i64 v, .int .i64 (m + 1 : Nat)] w fun e w' => e = .returned (.int .i64 v) ∧ w' = w := by
  obtain ⟨Q, hq, hQ, hQ1⟩ := pow_cast m
  obtain ⟨S, hs, hS, hS1⟩ := pow_cast (m + 1)
  have hQ2 := pow_le m (by omega)
  rw [hq] at h0
  rw [hs] at h1
  have g1 : decide (((m : Nat) : Int) + 1 < 1) = false := by simp; omega
  have g2 : decide (16 ≤ ((m : Nat) : Int) + 1) = false := by simp; omega
  have g3 : decide (v < 0) = false := by simp; omega
  have g4 : decide (0 < v / (S : Int)) = false := by simp; have := div_pos_iff v S hS1; omega
  have g5 : decide (0 < v / (Q : Int)) = true := by simp; exact (div_pos_iff v Q hQ1).2 h0
  clear hQ hS
  go_enter Try.func16, Try.ntmps16
  go_wp2
  go_ret
  exact ⟨rfl, rfl⟩
theorem ext_lo (v : Int) (m : Nat) (hm : m ≤ 14) (h0 : 0 ≤ v) (h1 : v < 2 ^ m) (w : World) : Calls Try.prog 16 #[.int .i64 v, .int .i64 (m + 1 : Nat)] w fun e w' => e = .returned (.int .i64 (v - 2 ^ (m + 1) + 1)) ∧ w' = w := by
  obtain ⟨Q, hq, hQ, hQ1⟩ := pow_cast m
  obtain ⟨S, hs, hS, hS1⟩ := pow_cast (m + 1)
  have hQ2 := pow_le m (by omega)
  have hS2 : S = 2 * Q := by rw [hS, hQ, Nat.pow_succ]; omega
  rw [hq] at h1
  rw [hs]
  have g1 : decide (((m : Nat) : Int) + 1 < 1) = false := by simp; omega
  have g2 : decide (16 ≤ ((m : Nat) : Int) + 1) = false := by simp; omega
  have g3 : decide (v < 0) = false := by simp; omega
  have g4 : decide (0 < v / (S : Int)) = false := by simp; have := div_pos_iff v S hS1; omega
  have g5 : decide (0 < v / (Q : Int)) = false := by simp; have := div_pos_iff v Q hQ1; omega
  have hS3 : S ≤ 65536 := by omega
  clear hQ hS hS2
  go_enter Try.func16, Try.ntmps16
  go_wp2
  go_ret
  exact ⟨rfl, rfl⟩
theorem rext_no (v n : Int) (h : exNo v n) (w : World) : Calls Try.prog 17 #[.int .i64 v, .int .i64 n] w fun e w' => e = .returned (.int .i64 0) ∧ w' = w := by
  by_cases h1 : n < 1
  · have g : decide (n < 1) = true := by simpa using h1
    clear h
    go_enter Try.func17, Try.ntmps17
    go_wp2
    go_ret
    exact ⟨rfl, rfl⟩
  · by_cases h2 : 15 < n
    · have g1 : decide (n < 1) = false := by simpa using h1
      have g : decide (15 < n) = true := by simpa using h2
      clear h
      go_enter Try.func17, Try.ntmps17
      go_wp2
      go_ret
      exact ⟨rfl, rfl⟩
    · have g1 : decide (n < 1) = false := by simpa using h1
      have g2 : decide (15 < n) = false := by simpa using h2
      obtain ⟨m, rfl⟩ : ∃ m : Nat, n = m := ⟨n.toNat, by omega⟩
      have hv : v < 0 ∨ (2 : Int) ^ m ≤ v := by
        rcases h with h | h | h | h
        · omega
        · omega
        · exact Or.inl h
        · exact Or.inr h
      have HV := Lib.hid hv; clear h hv
      go_enter Try.func17, Try.ntmps17
      go_wp2_with fail
      go_loop [5, 6] (fun p i => ∃ (k : Nat) (q : Int), k ≤ m ∧ (1 ≤ q ∧ q ≤ 32768) ∧ Hid (q = 2 ^ k) ∧ p = .int .i64 q ∧ i = .int .i64 k) (fun _ i => m - (intOf i).toNat)
      case atStart => exact ⟨0, 1, by omega, by omega, Lib.hid rfl, rfl, rfl⟩
      case round =>
        obtain ⟨k, q, hk, hq, hqe, rfl, rfl⟩ := hrel
        by_cases hlt : k < m
        · have hq2 : q ≤ 16384 := by
            obtain ⟨Q, h1, h2, _⟩ := pow_cast k
            have := Nat.pow_le_pow_right (n := 2) (by omega) (show k ≤ 14 by omega)
            rw [hqe.out, h1]; omega
          go_wp2
          exact ⟨⟨k + 1, q * 2, by omega, by omega, Lib.hid (by rw [hqe.out, Int.pow_succ]), rfl, by go_num⟩, by simp [intOf]; omega⟩
        · obtain rfl : k = m := by omega
          by_cases h3 : v < 0
          · have g3 : decide (v < 0) = true := by simpa using h3
            go_wp2
            go_ret
            exact ⟨rfl, rfl⟩
          · have g3 : decide (v < 0) = false := by simpa using h3
            have g4 : decide (q ≤ v) = true := by simp; have := HV.out; rw [← hqe.out] at this; omega
            go_wp2
            go_ret
            exact ⟨rfl, rfl⟩
theorem rext_ok (v r : Int) (m : Nat) (hm : m ≤ 14) (h0 : 0 ≤ v) (h1 : v < 2 ^ (m + 1)) (hr : r = if (2 : Int) ^ m ≤ v then v else v - 2 ^ (m + 1) + 1) (w : World) : Calls Try.prog 17 #[.int .i64 v, .int .i64 (m + 1 : Nat)] w fun e w' => e = .returned (.int .i64 r) ∧ w' = w := by
  have H1 := Lib.hid h1; have HR := Lib.hid hr; clear h1 hr
  have g1 : decide (((m : Nat) : Int) + 1 < 1) = false := by simp; omega
  have g2 : decide (15 < ((m : Nat) : Int) + 1) = false := by simp; omega
  go_enter Try.func17, Try.ntmps17
  go_wp2_with fail
  go_loop [5, 6] (fun p i => ∃ (k : Nat) (q : Int), k ≤ m + 1 ∧ (1 ≤ q ∧ q ≤ 32768) ∧ Hid (q = 2 ^ k) ∧ p = .int .i64 q ∧ i = .int .i64 k) (fun _ i => m + 1 - (intOf i).toNat)
  case atStart => exact ⟨0, 1, by omega, by omega, Lib.hid rfl, rfl, rfl⟩
  case round =>
    obtain ⟨k, q, hk, hq, hqe, rfl, rfl⟩ := hrel
    by_cases hlt : k < m + 1
    · have hq2 : q ≤ 16384 := by
        obtain ⟨Q, h1, h2, _⟩ := pow_cast k
        have := Nat.pow_le_pow_right (n := 2) (by omega) (show k ≤ 14 by omega)
        rw [hqe.out, h1]; omega
      go_wp2
      exact ⟨⟨k + 1, q * 2, by omega, by omega, Lib.hid (by rw [hqe.out, Int.pow_succ]), rfl, by go_num⟩, by simp [intOf]; omega⟩
    · obtain rfl : k = m + 1 := by omega
      have hq2 : q / 2 = 2 ^ m := by rw [hqe.out, Int.pow_succ]; omega
      have hvq : v < q := by rw [hqe.out]; exact H1.out
      obtain ⟨t, ht⟩ : ∃ t, t = q / 2 := ⟨_, rfl⟩
      have ht2 : (2 : Int) ^ m = t := by rw [ht, hq2]
      have HT := Lib.hid ht2; have HQ := Lib.hid hqe.out
      have hqt : q / 2 = t := ht.symm
      clear hqe hq2 ht ht2
      have g3 : decide (v < 0) = false := by simp; omega
      have g4 : decide (q ≤ v) = false := by simp; omega
      by_cases h5 : t ≤ v
      · have g5 : decide (t ≤ v) = true := by simpa using h5
        go_wp2
        go_ret
        refine ⟨?_, rfl⟩
        show Ending.returned (.int .i64 v) = _
        rw [HR.out, HT.out, if_pos h5]
      · have g5 : decide (t ≤ v) = false := by simpa using h5
        go_wp2
        go_ret
        refine ⟨?_, rfl⟩
        show Ending.returned (.int .i64 (v - q + 1)) = _
        rw [HR.out, HT.out, if_neg (by omega), ← HQ.out]
/-- How many bits a number takes. -/
theorem bits_of (a N : Nat) (h : a < 2 ^ N) : ∃ L, L ≤ N ∧ a < 2 ^ L ∧ ∀ k, k < L → 2 ^ k ≤ a := by
  induction N with
  | zero => exact ⟨0, by omega, h, fun k hk => by omega⟩
  | succ N ih =>
    by_cases h2 : a < 2 ^ N
    · obtain ⟨L, h3, h4, h5⟩ := ih h2
      exact ⟨L, by omega, h4, h5⟩
    · exact ⟨N + 1, by omega, h, fun k hk => by have := Nat.pow_le_pow_right (n := 2) (by omega) (show k ≤ N by omega); omega⟩
theorem shor_big (v : Int) (h : 32767 < v ∨ v < -32767) (hv : -9223372036854775808 ≤ v ∧ v ≤ 9223372036854775807) (w : World) : Calls Try.prog 14 #[.int .i64 v] w fun e w' => e = .returned (.tuple #[.int .i64 0, .int .i64 0]) ∧ w' = w := by
  have H := Lib.hid h; clear h
  obtain ⟨hv0, hv1⟩ := hv
  go_enter Try.func14, Try.ntmps14
  go_wp2_with fail
  go_loop [4] (fun n => ∃ (k : Nat), k ≤ 16 ∧ n = .int .i64 k) (fun n => 16 - (intOf n).toNat)
  case atStart => exact ⟨0, by omega, rfl⟩
  case round =>
    obtain ⟨k, hk, rfl⟩ := hrel
    by_cases hlt : k < 16
    · have hQ2 := pow_le k (by omega)
      obtain ⟨Q, hq, hQ, hQ1⟩ := pow_cast k
      have d1 := div_pos_iff v Q hQ1
      have d2 := div_pos_iff (wrap64 (-v)) Q hQ1
      by_cases h1 : 0 < v / (Q : Int)
      · have g1 : decide (0 < v / (Q : Int)) = true := by simpa using h1
        clear hQ d1 d2
        go_wp2
        exact ⟨⟨k + 1, by omega, by go_num⟩, by simp [intOf]; omega⟩
      · have g1 : decide (0 < v / (Q : Int)) = false := by simpa using h1
        by_cases h2 : 0 < wrap64 (-v) / (Q : Int)
        · have g2 : decide (0 < wrap64 (-v) / (Q : Int)) = true := by simpa using h2
          clear hQ d1 d2
          go_wp2
          exact ⟨⟨k + 1, by omega, by go_num⟩, by simp [intOf]; omega⟩
        · have g2 : decide (0 < wrap64 (-v) / (Q : Int)) = false := by simpa using h2
          have hm : v = -9223372036854775808 := by
            have := H.out
            unfold wrap64 at d2 h2
            omega
          have g3 : ((k : Int) == 16) = false := by simp; omega
          have g4 : ((v / 65536) != 0) = true := by simp; omega
          have g5 : ((v / 65536) != -1) = true := by simp; omega
          clear hQ d1 d2 hm
          go_wp2
          go_ret2
          exact ⟨rfl, rfl⟩
    · obtain rfl : k = 16 := by omega
      go_wp2
      go_ret2
      exact ⟨rfl, rfl⟩
theorem shor_pos (a L : Nat) (hL : L ≤ 15) (h1 : a < 2 ^ L) (h2 : ∀ k, k < L → 2 ^ k ≤ a) (w : World) : Calls Try.prog 14 #[.int .i64 a] w fun e w' => e = .returned (.tuple #[.int .i64 L, .int .i64 a]) ∧ w' = w := by
  have ha := pow_le L hL
  have H1 := Lib.hid h1; have H2 := Lib.hid h2
  have ha2 : a ≤ 32767 := by omega
  clear h1 h2 ha
  go_enter Try.func14, Try.ntmps14
  go_wp2_with fail
  go_loop [4] (fun n => ∃ (k : Nat), k ≤ L ∧ n = .int .i64 k) (fun n => L - (intOf n).toNat)
  case atStart => exact ⟨0, by omega, rfl⟩
  case round =>
    obtain ⟨k, hk, rfl⟩ := hrel
    obtain ⟨Q, hq, hQ, hQ1⟩ := pow_cast k
    have d1 := div_pos_iff (a : Int) Q hQ1
    have d2 := div_pos_iff (-(a : Int)) Q hQ1
    by_cases hlt : k < L
    · have := H2.out k hlt
      have g1 : decide (0 < (a : Int) / (Q : Int)) = true := by simp only [decide_eq_true_eq]; omega
      clear hQ d1 d2
      go_wp2
      exact ⟨⟨k + 1, by omega, by go_num⟩, by simp [intOf]; omega⟩
    · obtain rfl : k = L := by omega
      have := H1.out
      have g1 : decide (0 < (a : Int) / (Q : Int)) = false := by simp only [decide_eq_false_iff_not]; omega
      have g2 : decide (0 < -(a : Int) / (Q : Int)) = false := by simp only [decide_eq_false_iff_not]; omega
      have g3 : ((k : Int) == 16) = false := by simp; omega
      have g4 : (a : Int) / 65536 = 0 := by omega
      clear hQ d1 d2 this
      go_wp2
      go_ret2
      exact ⟨rfl, rfl⟩
theorem shor_neg (a L : Nat) (ha0 : 1 ≤ a) (hL : L ≤ 15) (h1 : a < 2 ^ L) (h2 : ∀ k, k < L → 2 ^ k ≤ a) (w : World) : Calls Try.prog 14 #[.int .i64 (-(a : Int))] w fun e w' => e = .returned (.tuple #[.int .i64 L, .int .i64 (-(a : Int) + 2 ^ L - 1)]) ∧ Below w.heap.size w w' := by
  have ha := pow_le L hL
  have H1 := Lib.hid h1; have H2 := Lib.hid h2
  have ha2 : a ≤ 32767 := by omega
  obtain ⟨v, hv⟩ : ∃ v : Int, v = -(a : Int) := ⟨_, rfl⟩
  have hv1 : v ≤ -1 := by omega
  have hv2 : -32767 ≤ v := by omega
  rw [← hv]
  have HV := Lib.hid hv
  clear h1 h2 ha hv
  go_enter Try.func14, Try.ntmps14
  go_wp2_with fail
  go_loop [4] (fun n => ∃ (k : Nat), k ≤ L ∧ n = .int .i64 k) (fun n => L - (intOf n).toNat)
  case atStart => exact ⟨0, by omega, rfl⟩
  case round =>
    obtain ⟨k, hk, rfl⟩ := hrel
    obtain ⟨Q, hq, hQ, hQ1⟩ := pow_cast k
    have d1 := div_pos_iff v Q hQ1
    have d2 := div_pos_iff (-v) Q hQ1
    have g1 : decide (0 < v / (Q : Int)) = false := by simp only [decide_eq_false_iff_not]; omega
    by_cases hlt : k < L
    · have := H2.out k hlt
      have hvo := HV.out
      have g2 : decide (0 < -v / (Q : Int)) = true := by simp only [decide_eq_true_eq]; omega
      clear hQ d1 d2 hvo
      go_wp2
      exact ⟨⟨k + 1, by omega, by go_num⟩, by simp [intOf]; omega⟩
    · obtain rfl : k = L := by omega
      have := H1.out
      have hvo := HV.out
      have g2 : decide (0 < -v / (Q : Int)) = false := by simp only [decide_eq_false_iff_not]; omega
      have g3 : ((k : Int) == 16) = false := by simp; omega
      have g4 : v / 65536 = -1 := by omega
      have hQ3 : Q ≤ 32768 := by have := pow_le k hL; omega
      have HQQ := Lib.hid hq
      clear hQ d1 d2 this hvo
      go_wp2_with fail
      refine region_plan (.run [0, 1, 2, 3, 4, 5, 6, 7] .fin) (fun w' => True) (by kernel_rfl) trivial ?_
      intro wd hwd
      have hbd : Below w.heap.size w wd := hwd ▸ (Below.refl _ _).drew
      have HBD := Lib.hid hbd; clear hbd
      clear hwd
      refine plan_run fun m hm => ?_
      simp only [pickO, List.filterMap_cons, List.filterMap_nil, List.getElem?_toArray, List.getElem?_cons_zero, List.getElem?_cons_succ] at hm
      subst hm
      go_wp2_with fail
      refine ⟨rfl, by rfl, ?_⟩
      refine plan_fin ?_
      go_wp2_with fail
      go_ret2
      refine ⟨?_, HBD.out⟩
      show Ending.returned (.tuple #[.int .i64 k, .int .i64 (v + Q - 1)]) = _
      rw [← HQQ.out]
theorem rshor_big (v : Int) (h : 32767 < v ∨ v < -32767) (w : World) : Calls Try.prog 15 #[.int .i64 v] w fun e w' => e = .returned (.tuple #[.int .i64 0, .int .i64 0]) ∧ w' = w := by
  by_cases h1 : 32767 < v
  · have g : decide (32767 < v) = true := by simpa using h1
    clear h
    go_enter Try.func15, Try.ntmps15
    go_wp2
    go_ret2
    exact ⟨rfl, rfl⟩
  · have g0 : decide (32767 < v) = false := by simpa using h1
    have g : decide (v < -32767) = true := by simp; omega
    clear h
    go_enter Try.func15, Try.ntmps15
    go_wp2
    go_ret2
    exact ⟨rfl, rfl⟩
theorem rshor_ok (v : Int) (a L : Nat) (hv : v = if v < 0 then -(a : Int) else (a : Int)) (hL : L ≤ 15) (h1 : a < 2 ^ L) (h2 : ∀ k, k < L → 2 ^ k ≤ a) (w : World) : Calls Try.prog 15 #[.int .i64 v] w fun e w' => e = .returned (.tuple #[.int .i64 L, .int .i64 (if v < 0 then v + 2 ^ L - 1 else v)]) ∧ w' = w := by
  have ha := pow_le L hL
  have H1 := Lib.hid h1; have H2 := Lib.hid h2
  have ha2 : a ≤ 32767 := by omega
  clear h1 h2 ha
  have hv1 : v ≤ 32767 := by split at hv <;> omega
  have hv2 : -32767 ≤ v := by split at hv <;> omega
  have g1 : decide (32767 < v) = false := by simp; omega
  have g2 : decide (v < -32767) = false := by simp; omega
  by_cases h0 : v < 0
  · rw [if_pos h0] at hv
    rw [if_pos h0]
    have g3 : decide (v < 0) = true := by simpa using h0
    have hna : -v = (a : Int) := by omega
    have HV := Lib.hid hv; clear hv
    go_enter Try.func15, Try.ntmps15
    go_wp2_with fail
    go_loop [5, 6] (fun n p => ∃ (k : Nat) (q : Int), k ≤ L ∧ (1 ≤ q ∧ q ≤ 32768) ∧ Hid (q = 2 ^ k) ∧ p = .int .i64 q ∧ n = .int .i64 k) (fun n _ => L - (intOf n).toNat)
    case atStart => exact ⟨0, 1, by omega, by omega, Lib.hid rfl, rfl, rfl⟩
    case round =>
      obtain ⟨k, q, hk, hq, hqe, rfl, rfl⟩ := hrel
      obtain ⟨Q, hq1, hQ, hQ1⟩ := pow_cast k
      have hqQ : q = Q := by rw [hqe.out, hq1]
      by_cases hlt : k < L
      · have h5 := H2.out k hlt
        have g4 : decide (q ≤ (a : Int)) = true := by simp; omega
        have hq2 : q ≤ 16384 := by have := Nat.pow_le_pow_right (n := 2) (by omega) (show k ≤ 14 by omega); omega
        clear hq1 hQ hqQ h5
        go_wp2
        exact ⟨⟨k + 1, q * 2, by omega, by omega, Lib.hid (by rw [hqe.out, Int.pow_succ]), rfl, by go_num⟩, by simp [intOf]; omega⟩
      · obtain rfl : k = L := by omega
        have h5 := H1.out
        have g4 : decide (q ≤ (a : Int)) = false := by simp; omega
        clear hq1 hQ hqQ h5
        go_wp2
        go_ret2
        refine ⟨?_, rfl⟩
        show Ending.returned (.tuple #[.int .i64 k, .int .i64 (v + q - 1)]) = _
        rw [← hqe.out]
  · rw [if_neg h0] at hv
    rw [if_neg h0]
    have g3 : decide (v < 0) = false := by simpa using h0
    subst hv
    go_enter Try.func15, Try.ntmps15
    go_wp2_with fail
    go_loop [5, 6] (fun n p => ∃ (k : Nat) (q : Int), k ≤ L ∧ (1 ≤ q ∧ q ≤ 32768) ∧ Hid (q = 2 ^ k) ∧ p = .int .i64 q ∧ n = .int .i64 k) (fun n _ => L - (intOf n).toNat)
    case atStart => exact ⟨0, 1, by omega, by omega, Lib.hid rfl, rfl, rfl⟩
    case round =>
      obtain ⟨k, q, hk, hq, hqe, rfl, rfl⟩ := hrel
      obtain ⟨Q, hq1, hQ, hQ1⟩ := pow_cast k
      have hqQ : q = Q := by rw [hqe.out, hq1]
      by_cases hlt : k < L
      · have h5 := H2.out k hlt
        have g4 : decide (q ≤ (a : Int)) = true := by simp; omega
        have hq2 : q ≤ 16384 := by have := Nat.pow_le_pow_right (n := 2) (by omega) (show k ≤ 14 by omega); omega
        clear hq1 hQ hqQ h5
        go_wp2
        exact ⟨⟨k + 1, q * 2, by omega, by omega, Lib.hid (by rw [hqe.out, Int.pow_succ]), rfl, by go_num⟩, by simp [intOf]; omega⟩
      · obtain rfl : k = L := by omega
        have h5 := H1.out
        have g4 : decide (q ≤ (a : Int)) = false := by simp; omega
        clear hq1 hQ hqQ h5
        go_wp2
        go_ret2
        exact ⟨rfl, rfl⟩
end Go.Proofs.Ytaofponadaifiaa
