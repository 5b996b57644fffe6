/- The laws' awake. No condition. -/
import Derived.Test.YtidockifeofgfaaWriF
namespace Go.Proofs.Ytidockifeofgfaa
open Go.RowKit
set_option linter.unusedSimpArgs false
set_option linter.unusedVariables false
theorem aw1 (w : World) (base g : Nat) (vv : Value) (H : WrV w base g vv [] 0 0 0) (hbg : base ≤ g) :
    Calls Try.prog 10 #[.pointer (some ⟨g, 0, none⟩), .int .i64 1, .int .i64 1] w fun e w' => Hid (∃ vv', e = .returned (.int .i64 0) ∧ WrV w' base g vv' [] 1 1 1 ∧ Below base w w' ∧ KeepG g w w') := by
  refine (wput_ok w base g vv [] 0 0 0 H hbg (by decide) (by decide) (by decide) (by decide) (by decide) (by decide) (by decide) 1 1 (by decide) (by decide) (by decide)).mono fun e w' h => ?_
  have e1 : drn 3 [] (0 * 2 ^ 1 + 1) (0 + ((1 : Nat) : Int)) = ([], 1, 1) := by decide
  rw [e1] at h
  exact h
theorem aw2 (w : World) (base g : Nat) (vv : Value) (H : WrV w base g vv [] 1 1 1) (hbg : base ≤ g) :
    Calls Try.prog 10 #[.pointer (some ⟨g, 0, none⟩), .int .i64 127, .int .i64 7] w fun e w' => Hid (∃ vv', e = .returned (.int .i64 0) ∧ WrV w' base g vv' [255, 0] 0 0 8 ∧ Below base w w' ∧ KeepG g w w') := by
  refine (wput_ok w base g vv [] 1 1 1 H hbg (by decide) (by decide) (by decide) (by decide) (by decide) (by decide) (by decide) 127 7 (by decide) (by decide) (by decide)).mono fun e w' h => ?_
  have e1 : drn 3 [] (1 * 2 ^ 7 + 127) (1 + ((7 : Nat) : Int)) = ([255, 0], 0, 0) := by decide
  rw [e1] at h
  exact h
theorem aw3 (w : World) (base g : Nat) (vv : Value) (H : WrV w base g vv [] 0 0 0) (hbg : base ≤ g) :
    Calls Try.prog 10 #[.pointer (some ⟨g, 0, none⟩), .int .i64 5, .int .i64 3] w fun e w' => Hid (∃ vv', e = .returned (.int .i64 0) ∧ WrV w' base g vv' [] 5 3 3 ∧ Below base w w' ∧ KeepG g w w') := by
  refine (wput_ok w base g vv [] 0 0 0 H hbg (by decide) (by decide) (by decide) (by decide) (by decide) (by decide) (by decide) 5 3 (by decide) (by decide) (by decide)).mono fun e w' h => ?_
  have e1 : drn 3 [] (0 * 2 ^ 3 + 5) (0 + ((3 : Nat) : Int)) = ([], 5, 3) := by decide
  rw [e1] at h
  exact h
theorem aw4 (w : World) (base g : Nat) (vv : Value) (H : WrV w base g vv [255, 0] 0 0 8) :
    Calls Try.prog 12 #[.pointer (some ⟨g, 0, none⟩)] w fun e w' => e = .returned (.string ⟨#[255, 0]⟩) ∧ Below w.heap.size w w' :=
  bytes_walk w base g vv [255, 0] 0 0 8 H (by decide) (by decide) (by decide) (by decide) (by decide)
theorem aw5 (w : World) (base g : Nat) (vv : Value) (H : WrV w base g vv [] 5 3 3) :
    Calls Try.prog 12 #[.pointer (some ⟨g, 0, none⟩)] w fun e w' => e = .returned (.string ⟨#[191]⟩) ∧ Below w.heap.size w w' :=
  bytes_walk w base g vv [] 5 3 3 H (by decide) (by decide) (by decide) (by decide) (by decide)
set_option maxHeartbeats 1600000 in
theorem awake_true (w : World) : Calls Try.prog 8 #[] w fun e w' => e = .returned (.bool true) ∧ Below w.heap.size w w' := by
  go_enter Try.func8, Try.ntmps8
  go_wp2_with fail
  refine (newWriter_walk _).mono ?_
  rintro e w1 ⟨rfl, hW1, hb1⟩
  have HW1 := Lib.hid hW1; have HB1 := Lib.hid hb1; clear hW1 hb1
  go_wp2_with fail
  refine (aw1 _ w.heap.size w.heap.size _ HW1.out (Nat.le_refl _)).mono ?_
  intro e w2 hp
  obtain ⟨v2, rfl, hW2, hb2, _⟩ := hp.out
  have HW2 := Lib.hid hW2; have HB2 := Lib.hid (HB1.out.trans hb2); clear hW2 hb2 hp
  go_wp2_with fail
  refine (aw2 _ w.heap.size w.heap.size _ HW2.out (Nat.le_refl _)).mono ?_
  intro e w3 hp
  obtain ⟨v3, rfl, hW3, hb3, _⟩ := hp.out
  have HW3 := Lib.hid hW3; have HB3 := Lib.hid (HB2.out.trans hb3); clear hW3 hb3 hp
  go_wp2_with fail
  refine (newWriter_walk _).mono ?_
  rintro e w4 ⟨rfl, hW4, hb4⟩
  have HW4 := Lib.hid hW4; have HX4 : Hid (WrV w4 w.heap.size w.heap.size v3 [255, 0] 0 0 8) := Lib.hid (HW3.out.bel hb4); have HB4 := Lib.hid (HB3.out.trans (hb4.mono HB3.out.size)); have HS4 := Lib.hid hb4; clear hW4 hb4
  go_wp2_with fail
  refine (aw3 _ w3.heap.size w3.heap.size _ HW4.out (Nat.le_refl _)).mono ?_
  intro e w5 hp
  obtain ⟨v5, rfl, hW5, hb5, _⟩ := hp.out
  have HX5 : Hid (WrV w5 w.heap.size w.heap.size v3 [255, 0] 0 0 8) := Lib.hid (HW3.out.bel (HS4.out.trans hb5))
  have HW5 := Lib.hid hW5; have HB5 := Lib.hid (HB4.out.trans (hb5.mono HB3.out.size)); clear hW5 hb5 hp
  go_wp2_with fail
  refine (aw4 _ w.heap.size w.heap.size _ HX5.out).mono ?_
  rintro e w6 ⟨rfl, hb6⟩
  have HW6 : Hid (WrV w6 w3.heap.size w3.heap.size v5 [] 5 3 3) := Lib.hid (HW5.out.bel hb6)
  have HB6 := Lib.hid (HB5.out.trans (hb6.mono HB5.out.size)); clear hb6
  go_wp2_with fail
  refine (aw5 _ w3.heap.size w3.heap.size _ HW6.out).mono ?_
  rintro e w7 ⟨rfl, hb7⟩
  have HB7 := Lib.hid (HB6.out.trans (hb7.mono HB6.out.size)); clear hb7
  go_wp2_with fail
  go_ret
  exact ⟨by first | rfl | simp, HB7.out⟩
end Go.Proofs.Ytidockifeofgfaa
