/- The walks of a reader's marker, Marker and Skip. No condition. -/
import Derived.Test.YtidockifeofgfaaRdC
namespace Go.Proofs.Ytidockifeofgfaa
open Go.RowKit
set_option linter.unusedSimpArgs false
set_option linter.unusedVariables false
/-- Where a run of ff ends. -/
def ffE (s : ByteArray) : Nat → Nat → Nat
  | 0, a => a
  | f + 1, a => if a < s.size ∧ byteA s a = 255 then ffE s f (a + 1) else a
def markerV (s : ByteArray) (a : Nat) : Int × Nat := if ffE s s.size a = a ∨ s.size ≤ ffE s s.size a ∨ byteA s (ffE s s.size a) = 0 then (0, 0) else (byteA s (ffE s s.size a), ffE s s.size a + 1 - a)
set_option maxHeartbeats 1600000 in
theorem marker_walk (w : World) (g : Nat) (s : ByteArray) (h c : Int) (a : Nat) (H : RdV w g s a h c) (hs : s.size ≤ 1000000) (ha : a ≤ 1000000) :
    Calls Try.prog 31 #[.pointer (some ⟨g, 0, none⟩)] w fun e w' => e = .returned (.tuple #[.int .i64 (markerV s a).1, .int .i64 (markerV s a).2]) ∧ Hid (w' = w ∨ w' = w.drew) := by
  have k0 := H.c0
  have k1 := H.c1
  clear H
  go_enter Try.func31, Try.ntmps31
  go_wp2_with fail
  go_loopw [4] (fun v wr => ∃ f b : Nat, a ≤ b ∧ s.size ≤ b + f ∧ b ≤ 1000000 ∧ v = .int .i64 b ∧ Hid (ffE s s.size a = ffE s f b) ∧ wr = w) (fun v _ => s.size - (intOf v).toNat)
  case atStart => exact ⟨s.size, a, by omega, by omega, by omega, rfl, Lib.hid rfl, by first | rfl | trivial⟩
  case round =>
    obtain ⟨f, b, hab, hf, hbm, rfl, hr, rfl⟩ := hrel
    by_cases hb : b < s.size
    · have hbb := byteA_eq s b hb
      by_cases hff : byteA s b = 255
      · obtain ⟨f', rfl⟩ : ∃ f', f = f' + 1 := ⟨f - 1, by omega⟩
        have hst : ffE s (f' + 1) b = ffE s f' (b + 1) := by rw [ffE, if_pos ⟨hb, hff⟩]
        have HR := Lib.hid (hr.out.trans hst)
        rw [hbb] at hff
        clear hst hbb
        go_wp2
        exact ⟨⟨f', b + 1, by omega, by omega, by omega, by go_num, HR, by first | rfl | trivial⟩, by simp [intOf]; omega⟩
      · have hst : ffE s f b = b := by
          cases f with
          | zero => rfl
          | succ f => rw [ffE, if_neg (by intro e; exact hff e.2)]
        have HR := Lib.hid (hr.out.trans hst)
        by_cases hba : b = a
        · have e : markerV s a = (0, 0) := by unfold markerV; rw [HR.out, if_pos (Or.inl hba)]
          have EE := Lib.hid e
          rw [hbb] at hff
          clear e hst hbb
          subst hba
          go_wp2
          go_ret2
          rw [EE.out]
          exact ⟨rfl, Lib.hid (Or.inl rfl)⟩
        · by_cases h0 : byteA s b = 0
          · have e : markerV s a = (0, 0) := by unfold markerV; rw [HR.out, if_pos (Or.inr (Or.inr h0))]
            have EE := Lib.hid e
            rw [hbb] at hff h0
            clear e hst hbb
            go_wp2
            go_ret2
            rw [EE.out]
            exact ⟨rfl, Lib.hid (Or.inl rfl)⟩
          · have e : markerV s a = (((s[b]'hb).toNat : Int), b + 1 - a) := by unfold markerV; rw [HR.out, if_neg (by intro e; rcases e with e | e | e; exact hba e; omega; exact h0 e), hbb]
            have EE := Lib.hid e
            rw [hbb] at hff h0
            have hw : wrap64 ((s[b]'hb).toNat : Int) = ((s[b]'hb).toNat : Int) := by have := (s[b]'hb).toNat_lt; unfold wrap64; omega
            have hsb : (((b + 1 - a : Nat) : Nat) : Int) = (b : Int) + 1 - a := by omega
            clear e hst hbb
            have g1 : ((b : Int) == (a : Int)) = false := by simp; omega
            have g2 : (((s[b]'hb).toNat : Int) == 0) = false := by rw [beq_eq_false_iff_ne]; exact h0
            go_wp2_with fail
            all_goals first | (exfalso; simp_all; done) | skip
            go_region
            go_wp2
            go_ret2
            rw [EE.out]
            refine ⟨?_, Lib.hid (Or.inr rfl)⟩
            rw [hsb]
            first | rfl | (show Ending.returned (.tuple #[.int .i64 (wrap64 ((s[b]'hb).toNat : Int)), .int .i64 ((b : Int) + 1 - a)]) = _; rw [hw])
    · have hst : ffE s f b = b := by
        cases f with
        | zero => rfl
        | succ f => rw [ffE, if_neg (by intro e; exact hb e.1)]
      have HR := Lib.hid (hr.out.trans hst)
      have e : markerV s a = (0, 0) := by unfold markerV; rw [HR.out, if_pos (Or.inr (Or.inl (by omega)))]
      have EE := Lib.hid e
      clear e hst
      by_cases hba : b = a
      · subst hba
        go_wp2
        go_ret2
        rw [EE.out]
        exact ⟨rfl, Lib.hid (Or.inl rfl)⟩
      · go_wp2
        go_ret2
        rw [EE.out]
        exact ⟨rfl, Lib.hid (Or.inl rfl)⟩
end Go.Proofs.Ytidockifeofgfaa
