/- The walks of the reference's Take and of the laws' awake. -/
import Derived.Test.YtdohhhkondokkaaDoorCurC
import Derived.Test.YtdohhhkondokkaaDoorReg
namespace Go.Proofs.YtdohhhkondokkaaDoor
open Go.RowKit
set_option linter.unusedSimpArgs false
set_option linter.unusedVariables false
def curV (s : ByteArray) (a : Nat) : Value := .agg #[.string s, .int .i64 a]
/-! ### awake -/
def t123 : ByteArray := ⟨#[1, 2, 3]⟩
theorem awk_num1 (w : World) (g : Nat) (h : Cur w g t123 0) :
    Calls Tryd.prog 42 #[.pointer (some ⟨g, 0, none⟩), .int .i64 2] w fun e w' => e = .returned (.tuple #[.int .i64 258, .int .i64 0]) ∧ Cur w' g t123 2 ∧ Only g w w' :=
  num_ok 2 (by decide) (by decide) w g 0 t123 (by decide) h (by decide)
theorem awk_num2 (w : World) (g : Nat) (h : Cur w g t123 2) :
    Calls Tryd.prog 42 #[.pointer (some ⟨g, 0, none⟩), .int .i64 2] w fun e w' => e = .returned (.tuple #[.int .i64 0, .int .i64 2]) ∧ w.drew = w' :=
  num_short 2 (by decide) (by decide) w g 2 t123 (by decide) (by decide) h (by decide)
theorem awk_put1 (w : World) : Calls Tryd.prog 32 #[.int .i64 258, .int .i64 2] w fun e w' => e = .returned (.tuple #[.string ⟨#[1, 2]⟩, .int .i64 0]) ∧ Below w.heap.size w w' :=
  put_ok 258 2 (by decide) (by decide) (by decide) (by decide) w
theorem awk_put2 (w : World) : Calls Tryd.prog 32 #[.int .i64 256, .int .i64 1] w fun e w' => e = .returned (.tuple #[.string ⟨#[]⟩, .int .i64 11]) ∧ w = w' :=
  put_large 256 1 (by decide) (by decide) (Or.inr (by decide)) w
theorem awk_rest (w : World) (g : Nat) (h : Cur w g t123 2) :
    Calls Tryd.prog 27 #[.pointer (some ⟨g, 0, none⟩)] w fun e w' => e = .returned (.string ⟨#[3]⟩) ∧ Only g w w' :=
  (rest_walk w g 2 t123 (by decide) (by decide) h).mono fun e w' ⟨he, _, ho⟩ => ⟨he, ho⟩
end Go.Proofs.YtdohhhkondokkaaDoor
