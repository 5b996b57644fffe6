/- The walk of a reader's Bits. No condition. -/
import Derived.Test.YtaofponadaifiaaRd
namespace Go.Proofs.Ytaofponadaifiaa
open Go.RowKit
set_option linter.unusedSimpArgs false
set_option linter.unusedVariables false
/-- Whole bytes come in, up to n bits. -/
def rdL (s : ByteArray) (n : Nat) : Nat → Int → Nat → Nat → Option (Int × Nat × Nat)
  | 0, v, c, a => some (v, c, a)
  | f + 1, v, c, a => if c < n then (if (wholeV s a).2 = 0 then none else rdL s n f (v * 256 + (wholeV s a).1) (c + 8) (a + (wholeV s a).2)) else some (v, c, a)
theorem wholeV_range (s : ByteArray) (a : Nat) : 0 ≤ (wholeV s a).1 ∧ (wholeV s a).1 < 256 ∧ (wholeV s a).2 ≤ 2 := by
  unfold wholeV
  split
  · simp
  · split
    · rename_i h _
      rw [byteA_eq s a (by omega)]
      have := (s[a]'(by omega)).toNat_lt
      exact ⟨by simp, by show (((s[a]'(by omega)).toNat : Nat) : Int) < 256; omega, by simp⟩
    · split <;> simp
theorem or_whole (x b : Int) (h0 : 0 ≤ x) (h1 : x < 1073741824) (b0 : 0 ≤ b) (b1 : b < 256) : bits .or .i64 (x * 256) b = x * 256 + b := by
  have e := or_shift x b 8 (by omega) h0 h1 b0 b1
  have e8 : (2 : Int) ^ 8 = 256 := by decide
  rw [e8, wrap_small b b0 (by omega), wrap_small (x * 256) (by omega) (by omega)] at e
  exact e
theorem mask_eq2 (H : Int) (m : Nat) (hm : m ≤ 30) (h0 : 0 ≤ H) (h1 : H < 9223372036854775808) : bits BinOp.and IntKind.i64 H (wrap64 (wrap64 (2 ^ m) - 1)) = H % 2 ^ m := by
  have a := two_pos m
  have b := two_le m 30 hm
  have e30 : (2 : Int) ^ 30 = 1073741824 := by decide
  rw [e30] at b
  have e1 : wrap64 (2 ^ m) = 2 ^ m := by unfold wrap64; omega
  have e2 : wrap64 ((2 : Int) ^ m - 1) = 2 ^ m - 1 := by unfold wrap64; omega
  rw [e1, e2]
  exact and_mask H m hm h0 h1
theorem rbits_arg (w : World) (p : Addr) (n : Int) (hn : n < 0 ∨ 16 < n) : Calls Try.prog 28 #[.pointer (some p), .int .i64 n] w fun e w' => e = .returned (.tuple #[.int .i64 0, .int .i64 1]) ∧ w = w' := by
  rcases hn with hn | hn
  · have d1 : decide (n < 0) = true := by simp; omega
    go_enter Try.func28, Try.ntmps28
    go_wp2
    go_ret2
    exact ⟨rfl, rfl⟩
  · have d1 : decide (n < 0) = false := by simp; omega
    have d2 : decide (16 < n) = true := by simp; omega
    go_enter Try.func28, Try.ntmps28
    go_wp2
    go_ret2
    exact ⟨rfl, rfl⟩
/-- What Bits answers and leaves. -/
def bitsR (s : ByteArray) (n : Nat) (h : Int) (c a : Nat) : Value × Int × Int × Int := match rdL s n 3 h c a with
  | none => (.tuple #[.int .i64 0, .int .i64 2], a, h, c)
  | some (v, c', a') => (.tuple #[.int .i64 (v / 2 ^ (c' - n)), .int .i64 0], a', v % 2 ^ (c' - n), ((c' - n : Nat) : Int))
set_option maxHeartbeats 1600000 in
theorem rbits_walk (w : World) (g : Nat) (s : ByteArray) (h : Int) (c a n : Nat) (H : RdV w g s a h c) (hs : s.size ≤ 1000000) (ha : a ≤ 1000000) (hc : c < 8) (hn : n ≤ 16) (h0 : 0 ≤ h) (h1 : h < 2 ^ c) :
    Calls Try.prog 28 #[.pointer (some ⟨g, 0, none⟩), .int .i64 n] w fun e w' => e = .returned (bitsR s n h c a).1 ∧ RdV w' g s (bitsR s n h c a).2.1 (bitsR s n h c a).2.2.1 (bitsR s n h c a).2.2.2 ∧ Only g w w' := by
  have HH := Lib.hid H
  have k1 := H.c1
  have k2 := H.c2
  have k3 := H.c3
  have hlt := Blk.lt H
  have h7 : h < 128 := by have a := two_le c 7 (by omega); have e : (2 : Int) ^ 7 = 128 := by decide
                          omega
  clear H
  have H1 := Lib.hid h1; clear h1
  go_enter Try.func28, Try.ntmps28
  go_wp2_with fail
  go_region
  go_wp2_with fail
  go_loopw [6, 7, 8] (fun v1 c1 a1 wr => ∃ (f : Nat) (v : Int) (C b : Nat), f ≤ 3 ∧ C ≤ 24 ∧ n ≤ C + 8 * f ∧ b + 2 * f ≤ 1000006 ∧ v1 = .int .i64 v ∧ c1 = .int .i64 C ∧ a1 = .int .i64 b ∧ 0 ≤ v ∧ v < 16777216 ∧ Hid (v < 2 ^ C) ∧ Hid (rdL s n 3 h c a = rdL s n f v C b) ∧ wr = w.drew) (fun _ c1 _ _ => 40 - (intOf c1).toNat)
  case atStart => exact ⟨3, h, c, a, by omega, by omega, by omega, by omega, rfl, rfl, rfl, h0, by omega, H1, Lib.hid rfl, rfl⟩
  case round =>
    obtain ⟨f, v, C, b, hf, hC, hnC, hb, rfl, rfl, rfl, hv0, hv1, hv2, hr, rfl⟩ := hrel
    by_cases hlt2 : C < n
    · obtain ⟨f', rfl⟩ : ∃ f', f = f' + 1 := ⟨f - 1, by omega⟩
      have hw := wholeV_range s b
      have hrs : rdL s n (f' + 1) v C b = (if (wholeV s b).2 = 0 then none else rdL s n f' (v * 256 + (wholeV s b).1) (C + 8) (b + (wholeV s b).2)) := by rw [rdL, if_pos hlt2]
      have HWH := Lib.hid (whole_walk w.drew g s a h c HH.out.drew b (by omega) (by omega))
      obtain ⟨x, hx⟩ : ∃ x, x = (wholeV s b).1 := ⟨_, rfl⟩
      obtain ⟨z, hz⟩ : ∃ z, z = (wholeV s b).2 := ⟨_, rfl⟩
      rw [← hx, ← hz] at hw hrs HWH
      have hor := or_whole v x hv0 (by omega) hw.1 hw.2.1
      have HRS := Lib.hid (hr.out.trans hrs)
      have hp16 : v < 65536 := by have a1 := two_le C 16 (by omega); have e : (2 : Int) ^ 16 = 65536 := by decide
                                  have := hv2.out
                                  omega
      have hv3 : Hid (v * 256 + x < 2 ^ (C + 8)) := Lib.hid (by have e : (2 : Int) ^ (C + 8) = 2 ^ C * 256 := by rw [Int.pow_add]; rfl
                                                                have := hv2.out
                                                                omega)
      clear hrs hx hz
      by_cases hz0 : z = 0
      · subst hz0
        go_wp2_with (first | (go_at_call 31; refine HWH.out.mono ?_; rintro e w3 ⟨rfl, rfl⟩))
        go_ret2
        have e2 : bitsR s n h c a = (.tuple #[.int .i64 0, .int .i64 2], (a : Int), h, (c : Int)) := by unfold bitsR; rw [HRS.out]; rfl
        rw [e2]
        exact ⟨rfl, HH.out.drew, (Only.refl g w).drew⟩
      · go_wp2_with (first | (go_at_call 31; refine HWH.out.mono ?_; rintro e w3 ⟨rfl, rfl⟩))
        exact ⟨⟨f', v * 256 + x, C + 8, b + z, by omega, by omega, by omega, by omega, rfl, by go_num, by go_num, by omega, by omega, hv3, Lib.hid (by rw [HRS.out, if_neg hz0]), by first | rfl | trivial⟩, by simp [intOf]; omega⟩
    · obtain ⟨m, rfl⟩ : ∃ m, C = n + m := ⟨C - n, by omega⟩
      have f1 := Blk.frozen HH.out 1
      have f2 := Blk.frozen HH.out 2
      have f3 := Blk.frozen HH.out 3
      have en : (n : Int) + m - n = m := by omega
      have hm1 := mask_eq2 v m (by omega) hv0 (by omega)
      have hm2 := and_mask v m (by omega) hv0 (by omega)
      have HRS : Hid (rdL s n 3 h c a = some (v, n + m, b)) := Lib.hid (by
        rw [hr.out]
        cases f with
        | zero => rfl
        | succ f => rw [rdL, if_neg hlt2])
      have EN := Lib.hid en; clear en
      go_wp2
      go_ret2
      have e2 : bitsR s n h c a = (.tuple #[.int .i64 (v / 2 ^ m), .int .i64 0], (b : Int), v % 2 ^ m, (m : Int)) := by unfold bitsR; rw [HRS.out]; simp [Nat.add_sub_cancel_left]
      rw [e2]
      refine ⟨by show Ending.returned (.tuple #[.int .i64 (v / 2 ^ (n + m - n)), .int .i64 0]) = _; rw [Nat.add_sub_cancel_left], ?_, ?_⟩
      · have e := Blk.set_ (Blk.set_ (Blk.set_ HH.out 3 (.int .i64 ((n : Int) + m - n))) 1 (.int .i64 b)) 2 (.int .i64 (v % 2 ^ m))
        have e3 : RdV (((w.setCell ⟨g, 3, none⟩ (.int .i64 ((n : Int) + m - n))).setCell ⟨g, 1, none⟩ (.int .i64 b)).setCell ⟨g, 2, none⟩ (.int .i64 (v % 2 ^ m))) g s b (v % 2 ^ m) ((n : Int) + m - n) := e
        rw [EN.out] at e3 ⊢
        exact e3.drew
      · exact (Only.set_ (Only.set_ (Only.set_ (Only.refl g w) _) _) _).drew
end Go.Proofs.Ytaofponadaifiaa
