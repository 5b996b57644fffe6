/- The walks of a reader's Marker and Skip. No condition. -/
import Derived.Test.YtidockifeofgfaaRdD
namespace Go.Proofs.Ytidockifeofgfaa
open Go.RowKit
set_option linter.unusedSimpArgs false
set_option linter.unusedVariables false
theorem marker_both (w : World) (g : Nat) (s : ByteArray) (h c : Int) (a : Nat) (H : RdV w g s a h c) (hs : s.size ≤ 1000000) (ha : a ≤ 1000000) :
    Calls Try.prog 31 #[.pointer (some ⟨g, 0, none⟩)] w fun e w' => e = .returned (.tuple #[.int .i64 (markerV s a).1, .int .i64 (markerV s a).2]) ∧ RdV w' g s a h c ∧ Only g w w' :=
  (marker_walk w g s h c a H hs ha).mono fun e w' ⟨he, hw⟩ => by
    rcases hw.out with rfl | rfl
    · exact ⟨he, H, Only.refl _ _⟩
    · exact ⟨he, H.drew, (Only.refl g w).drew⟩
theorem rmarker_walk (w : World) (g : Nat) (s : ByteArray) (h c : Int) (a : Nat) (H : RdV w g s a h c) (hs : s.size ≤ 1000000) (ha : a ≤ 1000000) :
    Calls Try.prog 22 #[.pointer (some ⟨g, 0, none⟩)] w fun e w' => e = .returned (.tuple #[.int .i64 (markerV s a).1, .bool (decide (0 < (markerV s a).2))]) ∧ RdV w' g s a h c ∧ Only g w w' := by
  have HM := Lib.hid (marker_both w g s h c a H hs ha)
  clear H
  obtain ⟨x, hx⟩ : ∃ x, x = (markerV s a).1 := ⟨_, rfl⟩
  obtain ⟨y, hy⟩ : ∃ y, y = (markerV s a).2 := ⟨_, rfl⟩
  rw [← hx, ← hy] at HM ⊢
  clear hx hy
  go_enter Try.func22, Try.ntmps22
  go_wp2_with (first | (go_at_call 31; refine HM.out.mono ?_; rintro e w1 ⟨rfl, hR, hO⟩; have HR := Lib.hid hR; have HO := Lib.hid hO; clear hR hO))
  go_ret2
  exact ⟨by first | rfl | (congr 3; simp), HR.out, HO.out⟩
theorem rskip_walk (w : World) (g : Nat) (s : ByteArray) (h c : Int) (a : Nat) (H : RdV w g s a h c) (hs : s.size ≤ 1000000) (ha : a ≤ 1000000) (hy2 : (markerV s a).2 ≤ 1000001) :
    Calls Try.prog 24 #[.pointer (some ⟨g, 0, none⟩)] w fun e w' => e = .returned (.bool (decide (0 < (markerV s a).2))) ∧ (if 0 < (markerV s a).2 then RdV w' g s ((a : Int) + (markerV s a).2) 0 0 else RdV w' g s a h c) ∧ Only g w w' := by
  have HM := Lib.hid (marker_both w g s h c a H hs ha)
  clear H
  obtain ⟨x, hx⟩ : ∃ x, x = (markerV s a).1 := ⟨_, rfl⟩
  obtain ⟨y, hy⟩ : ∃ y, y = (markerV s a).2 := ⟨_, rfl⟩
  rw [← hx, ← hy] at HM
  rw [← hy] at hy2 ⊢
  clear hx hy
  by_cases h0 : 0 < y
  · go_enter Try.func24, Try.ntmps24
    go_wp2_with (first | (go_at_call 31; refine HM.out.mono ?_; rintro e w1 ⟨rfl, hR, hO⟩; have HR := Lib.hid hR; have HO := Lib.hid hO; clear hR hO) | (go_at_call 20; refine (ralign_walk _ g s a h c HR.out).mono ?_; rintro e w2 ⟨rfl, hR2, hO2⟩; have HR2 := Lib.hid hR2; have HO2 := Lib.hid (HO.out.trans hO2); have q1 := hR2.c1; have f1 := Blk.frozen hR2 1; clear hR2 hO2))
    go_ret
    refine ⟨by first | rfl | simp [h0], ?_, ?_⟩
    · exact Blk.set_ HR2.out 1 (.int .i64 ((a : Int) + y))
    · exact Only.set_ HO2.out _
  · go_enter Try.func24, Try.ntmps24
    go_wp2_with (first | (go_at_call 31; refine HM.out.mono ?_; rintro e w1 ⟨rfl, hR, hO⟩; have HR := Lib.hid hR; have HO := Lib.hid hO; clear hR hO))
    go_ret
    exact ⟨by first | rfl | simp [h0], HR.out, HO.out⟩
end Go.Proofs.Ytidockifeofgfaa
