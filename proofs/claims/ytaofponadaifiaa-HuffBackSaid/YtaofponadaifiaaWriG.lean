/- The laws' awake. No condition. -/
import Derived.Test.YtaofponadaifiaaWriF
namespace Go.Proofs.Ytaofponadaifiaa
open Go.RowKit
set_option linter.unusedSimpArgs false
set_option linter.unusedVariables false
theorem aw1 (w : World) (base g : Nat) (vv : Value) (H : WrV w base g vv [] 0 0 0) (hbg : base ≤ g) :
    Calls Try.prog 29 #[.pointer (some ⟨g, 0, none⟩), .int .i64 1, .int .i64 1] w fun e w' => Hid (∃ vv', e = .returned (.int .i64 0) ∧ WrV w' base g vv' [] 1 1 1 ∧ Below base w w' ∧ KeepG g w w') := by
  refine (wput_ok w base g vv [] 0 0 0 H hbg (by decide) (by decide) (by decide) (by decide) (by decide) (by decide) (by decide) 1 1 (by decide) (by decide) (by decide)).mono fun e w' h => ?_
  have e1 : drn 3 [] (0 * 2 ^ 1 + 1) (0 + ((1 : Nat) : Int)) = ([], 1, 1) := by decide
  rw [e1] at h
  exact h
theorem aw2 (w : World) (base g : Nat) (vv : Value) (H : WrV w base g vv [] 1 1 1) (hbg : base ≤ g) :
    Calls Try.prog 29 #[.pointer (some ⟨g, 0, none⟩), .int .i64 127, .int .i64 7] w fun e w' => Hid (∃ vv', e = .returned (.int .i64 0) ∧ WrV w' base g vv' [255, 0] 0 0 8 ∧ Below base w w' ∧ KeepG g w w') := by
  refine (wput_ok w base g vv [] 1 1 1 H hbg (by decide) (by decide) (by decide) (by decide) (by decide) (by decide) (by decide) 127 7 (by decide) (by decide) (by decide)).mono fun e w' h => ?_
  have e1 : drn 3 [] (1 * 2 ^ 7 + 127) (1 + ((7 : Nat) : Int)) = ([255, 0], 0, 0) := by decide
  rw [e1] at h
  exact h
theorem aw3 (w : World) (base g : Nat) (vv : Value) (H : WrV w base g vv [] 0 0 0) (hbg : base ≤ g) :
    Calls Try.prog 29 #[.pointer (some ⟨g, 0, none⟩), .int .i64 5, .int .i64 3] w fun e w' => Hid (∃ vv', e = .returned (.int .i64 0) ∧ WrV w' base g vv' [] 5 3 3 ∧ Below base w w' ∧ KeepG g w w') := by
  refine (wput_ok w base g vv [] 0 0 0 H hbg (by decide) (by decide) (by decide) (by decide) (by decide) (by decide) (by decide) 5 3 (by decide) (by decide) (by decide)).mono fun e w' h => ?_
  have e1 : drn 3 [] (0 * 2 ^ 3 + 5) (0 + ((3 : Nat) : Int)) = ([], 5, 3) := by decide
  rw [e1] at h
  exact h
theorem aw4 (w : World) (base g : Nat) (vv : Value) (H : WrV w base g vv [255, 0] 0 0 8) :
    Calls Try.prog 26 #[.pointer (some ⟨g, 0, none⟩)] w fun e w' => e = .returned (.string ⟨#[255, 0]⟩) ∧ Below w.heap.size w w' :=
  bytes_walk w base g vv [255, 0] 0 0 8 H (by decide) (by decide) (by decide) (by decide) (by decide)
theorem aw5 (w : World) (base g : Nat) (vv : Value) (H : WrV w base g vv [] 5 3 3) :
    Calls Try.prog 26 #[.pointer (some ⟨g, 0, none⟩)] w fun e w' => e = .returned (.string ⟨#[191]⟩) ∧ Below w.heap.size w w' :=
  bytes_walk w base g vv [] 5 3 3 H (by decide) (by decide) (by decide) (by decide) (by decide)
end Go.Proofs.Ytaofponadaifiaa
