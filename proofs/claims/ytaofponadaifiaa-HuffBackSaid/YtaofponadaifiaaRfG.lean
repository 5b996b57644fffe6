/- The walk of the reference's byteAt. No condition. -/
import Derived.Test.YtaofponadaifiaaRd
import Derived.Test.YtaofponadaifiaaBitW
namespace Go.Proofs.Ytaofponadaifiaa
open Go.RowKit
set_option linter.unusedSimpArgs false
set_option linter.unusedVariables false
def topB (b : Int) (i : Nat) : List Int := (List.range i).map fun j => b / 2 ^ (7 - j) % 2
theorem topB_succ (b : Int) (i : Nat) : topB b (i + 1) = topB b i ++ [b / 2 ^ (7 - i) % 2] := by simp [topB, List.range_succ]
theorem topB_len (b : Int) (i : Nat) : (topB b i).length = i := by simp [topB]
theorem topB_bits (b : Int) : topB b 8 = bitsN 8 b := by
  have e : ∀ n, bitsN n b = (List.range n).map fun j => b / 2 ^ (n - 1 - j) % 2 := by
    intro n
    induction n with
    | zero => rfl
    | succ n ih =>
      rw [bitsN_front, ih, List.range_succ_eq_map, List.map_cons, List.map_map]
      congr 1
      · refine List.map_congr_left fun j hj => ?_
        simp only [Function.comp]
        have : n - 1 - j = n + 1 - 1 - (j + 1) := by omega
        rw [this]
  rw [e 8]
  rfl
theorem bit_step (b : Int) (i : Nat) (hi : i < 8) (b0 : 0 ≤ b) (b1 : b < 256) : 0 ≤ b * 2 ^ i ∧ b * 2 ^ i < 65536 ∧ b * 2 ^ i / 128 % 2 = b / 2 ^ (7 - i) % 2 ∧ b * 2 ^ i * 2 = b * 2 ^ (i + 1) := by
  match i, hi with
  | 0, _ => simp; omega
  | 1, _ => simp; omega
  | 2, _ => simp; omega
  | 3, _ => simp; omega
  | 4, _ => simp; omega
  | 5, _ => simp; omega
  | 6, _ => simp; omega
  | 7, _ => simp; omega
def BA : Type := Unit
set_option maxHeartbeats 1600000 in
theorem byteAt_no (s : ByteArray) (a : Nat) (hs : s.size ≤ 100000000) (ha : a ≤ 200000000) (h0 : (wholeV s a).2 = 0) (w : World) :
    Calls Try.prog 27 #[.string s, .int .i64 a] w fun e w' => e = .returned (.tuple #[.slice none 0 0, .int .i64 0]) ∧ w = w' := by
  by_cases h1 : s.size ≤ a
  · go_enter Try.func27, Try.ntmps27
    go_wp2
    go_ret2
    exact ⟨rfl, rfl⟩
  · have hl : a < s.size := by omega
    have hb := byteA_eq s a hl
    by_cases h2 : byteA s a = 255
    · by_cases h3 : a + 1 < s.size
      · have hb3 := byteA_eq s (a + 1) h3
        by_cases h4 : byteA s (a + 1) = 0
        · exfalso
          simp [wholeV, h1, h2, h3, h4] at h0
        · rw [hb] at h2
          rw [hb3] at h4
          have g4 : ((((s[a + 1]'h3).toNat : Nat) : Int) != 0) = true := by simpa using h4
          clear hb hb3 h0 h4
          go_enter Try.func27, Try.ntmps27
          go_wp2
          go_ret2
          exact ⟨rfl, rfl⟩
      · rw [hb] at h2
        clear hb h0
        go_enter Try.func27, Try.ntmps27
        go_wp2
        go_ret2
        exact ⟨rfl, rfl⟩
    · exfalso
      simp [wholeV, h1, h2] at h0
set_option maxHeartbeats 1600000 in
theorem byteAt_yes (s : ByteArray) (a : Nat) (hs : s.size ≤ 100000000) (ha : a ≤ 200000000) (hz : (wholeV s a).2 ≠ 0) (w : World) :
    Calls Try.prog 27 #[.string s, .int .i64 a] w fun e w' => Hid (∃ y, e = .returned (.tuple #[y, .int .i64 (wholeV s a).2]) ∧ OwnI w' w.heap.size y (bitsN 8 (wholeV s a).1) ∧ Below w.heap.size w w') := by
  obtain ⟨b, hb⟩ : ∃ b, b = (wholeV s a).1 := ⟨_, rfl⟩
  obtain ⟨z, hzz⟩ : ∃ z, z = (wholeV s a).2 := ⟨_, rfl⟩
  have hl : a < s.size := by
    rcases Nat.lt_or_ge a s.size with h | h
    · exact h
    · exfalso; exact hz (by simp [wholeV, h])
  have hba := byteA_eq s a hl
  have hbe : byteA s a = b := by
    rw [hb]; unfold wholeV
    rw [if_neg (by omega)]
    split
    · rfl
    · rename_i h2
      split
      · simpa using h2
      · rename_i h3; exfalso; apply hz; unfold wholeV; rw [if_neg (by omega), if_neg h2, if_neg h3]
  have hsb : ((s[a]'hl).toNat : Int) = b := by rw [← hba, hbe]
  have hb0 : 0 ≤ b ∧ b < 256 := by have := (s[a]'hl).toNat_lt; omega
  have hzc : (b ≠ 255 ∧ z = 1) ∨ (b = 255 ∧ z = 2 ∧ ∃ h : a + 1 < s.size, ((s[a + 1]'h).toNat : Int) = 0) := by
    rw [hzz]; unfold wholeV
    rw [if_neg (by omega), hbe]
    by_cases h2 : b = 255
    · right
      refine ⟨h2, ?_⟩
      by_cases h3 : a + 1 < s.size ∧ byteA s (a + 1) = 0
      · rw [if_neg (by simpa using h2), if_pos h3]
        exact ⟨rfl, h3.1, by rw [← byteA_eq s (a + 1) h3.1]; exact h3.2⟩
      · exfalso; apply hz; unfold wholeV; rw [if_neg (by omega), if_neg (by rw [hbe]; simpa using h2), if_neg h3]
    · left; exact ⟨h2, by rw [if_pos h2]⟩
  rw [← hb, ← hzz]
  clear hb hzz hbe hba hz
  rcases hzc with ⟨hn, rfl⟩ | ⟨rfl, rfl, h1, h2⟩
  · have hn2 : ¬ ((s[a]'hl).toNat : Int) = 255 := by rw [hsb]; exact hn
    have HSB := Lib.hid hsb
    have d1 : decide (s.size ≤ a) = false := by simp; omega
    have d2 : ((((s[a]'hl).toNat : Nat) : Int) == 255) = false := by simpa using hn2
    clear hsb hn
    go_enter Try.func27, Try.ntmps27
    go_wp2_with fail
    go_loopw [7, 8, 9] (fun o v i wr => ∃ (j : Nat) (y : Value) (N : Int), j ≤ 8 ∧ o = y ∧ v = .int .i64 N ∧ i = .int .i64 j ∧ Hid (N = b * 2 ^ j) ∧ Hid (OwnI wr w.heap.size y (topB b j)) ∧ Hid (Below w.heap.size w wr)) (fun _ _ i _ => 8 - (intOf i).toNat)
    case atStart => exact ⟨0, _, _, by omega, rfl, rfl, rfl, Lib.hid (by first | (simp; exact HSB.out) | (simp; done) | (simp; exact HSB.out.symm) | (simp; have := HSB.out; unfold wrap64; omega)), Lib.hid (OwnI.nil _ _), Lib.hid (Below.refl _ _)⟩
    case round =>
      obtain ⟨j, y, N, hj, rfl, rfl, rfl, hN, hO, hB⟩ := hrel
      by_cases hj8 : j < 8
      · have hst := bit_step b j hj8 hb0.1 hb0.2
        rw [← hN.out] at hst
        have hq : wrap64 (N.tdiv 128) = N / 128 := by rw [Int.tdiv_eq_ediv_of_nonneg hst.1]; unfold wrap64; omega
        have HQ := Lib.hid hst
        have hN0 := hst.1
        have hN1 := hst.2.1
        clear hst
        go_wp2_with (first | (at_builtin; refine appI rfl (.tmp 38) (.tmp 42) rfl (N / 128 % 2) rfl rfl hO.out (by rw [topB_len]; omega) hB.out.size ?_; intro v1 w1 hO1 _ hb1; have HO1 := Lib.hid hO1; have HB1 := Lib.hid (hB.out.trans hb1); clear hO1 hb1))
        exact ⟨⟨j + 1, v1, N * 2, by omega, rfl, by go_num, by go_num, Lib.hid HQ.out.2.2.2, Lib.hid (by rw [topB_succ, ← HQ.out.2.2.1]; exact HO1.out), HB1⟩, by simp [intOf]; omega⟩
      · obtain rfl : j = 8 := by omega
        go_wp2
        go_ret2
        exact Lib.hid ⟨_, rfl, by rw [← topB_bits]; exact hO.out, hB.out⟩
  · have HSB := Lib.hid hsb
    clear hb0
    have hb0 : (0 : Int) ≤ 255 ∧ (255 : Int) < 256 := by decide
    go_enter Try.func27, Try.ntmps27
    go_wp2_with fail
    go_loopw [7, 8, 9] (fun o v i wr => ∃ (j : Nat) (y : Value) (N : Int), j ≤ 8 ∧ o = y ∧ v = .int .i64 N ∧ i = .int .i64 j ∧ Hid (N = 255 * 2 ^ j) ∧ Hid (OwnI wr w.heap.size y (topB 255 j)) ∧ Hid (Below w.heap.size w wr)) (fun _ _ i _ => 8 - (intOf i).toNat)
    case atStart => exact ⟨0, _, _, by omega, rfl, rfl, rfl, Lib.hid (by first | (simp; exact HSB.out) | (simp; done) | (simp; exact HSB.out.symm) | (simp; have := HSB.out; unfold wrap64; omega)), Lib.hid (OwnI.nil _ _), Lib.hid (Below.refl _ _)⟩
    case round =>
      obtain ⟨j, y, N, hj, rfl, rfl, rfl, hN, hO, hB⟩ := hrel
      by_cases hj8 : j < 8
      · have hst := bit_step 255 j hj8 hb0.1 hb0.2
        rw [← hN.out] at hst
        have hq : wrap64 (N.tdiv 128) = N / 128 := by rw [Int.tdiv_eq_ediv_of_nonneg hst.1]; unfold wrap64; omega
        have HQ := Lib.hid hst
        have hN0 := hst.1
        have hN1 := hst.2.1
        clear hst
        go_wp2_with (first | (at_builtin; refine appI rfl (.tmp 38) (.tmp 42) rfl (N / 128 % 2) rfl rfl hO.out (by rw [topB_len]; omega) hB.out.size ?_; intro v1 w1 hO1 _ hb1; have HO1 := Lib.hid hO1; have HB1 := Lib.hid (hB.out.trans hb1); clear hO1 hb1))
        exact ⟨⟨j + 1, v1, N * 2, by omega, rfl, by go_num, by go_num, Lib.hid HQ.out.2.2.2, Lib.hid (by rw [topB_succ, ← HQ.out.2.2.1]; exact HO1.out), HB1⟩, by simp [intOf]; omega⟩
      · obtain rfl : j = 8 := by omega
        go_wp2
        go_ret2
        exact Lib.hid ⟨_, rfl, by rw [← topB_bits]; exact hO.out, hB.out⟩
end Go.Proofs.Ytaofponadaifiaa
