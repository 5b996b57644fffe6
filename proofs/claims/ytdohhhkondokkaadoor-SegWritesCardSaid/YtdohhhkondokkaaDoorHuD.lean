/- The document's examples, Extend and Shorten together. No condition. -/
import Derived.Test.YtdohhhkondokkaaDoorHuB
import Derived.Test.YtdohhhkondokkaaDoorHuC
import Derived.Test.YtdohhhkondokkaaDoorHuS
namespace Go.Proofs.YtdohhhkondokkaaDoor
open Go.RowKit
set_option linter.unusedSimpArgs false
set_option linter.unusedVariables false
theorem i64_rng {v : Int} (h : (Lit.int .i64 v).wf = true) : -9223372036854775808 ≤ v ∧ v ≤ 9223372036854775807 := by
  have h1 : IntKind.i64.min = -9223372036854775808 := by decide
  have h2 : IntKind.i64.max = 9223372036854775807 := by decide
  have h3 : IntKind.i64.min ≤ v ∧ v ≤ IntKind.i64.max := by simpa [Lit.wf] using h
  rw [h1, h2] at h3; exact h3
theorem u8_rng {v : Int} (h : (Lit.int .u8 v).wf = true) : 0 ≤ v ∧ v ≤ 255 := by
  have h1 : IntKind.u8.min = 0 := by decide
  have h2 : IntKind.u8.max = 255 := by decide
  have h3 : IntKind.u8.min ≤ v ∧ v ≤ IntKind.u8.max := by simpa [Lit.wf] using h
  rw [h1, h2] at h3; exact h3
def exC : Nat → Int := fun j => if j = 1 then 1 else if j = 2 then 5 else if j = 3 then 1 else 0
def exS : ByteArray := ⟨#[0, 1, 2, 3, 4, 5, 6]⟩
theorem ex_new : ∃ st, hufNew exC exS = some st ∧ st.cb 5 = 6 ∧ st.cn 5 = 3 := ⟨_, rfl, rfl, rfl⟩
def TabOf (w : World) (cnt : Nat → Int) (s : ByteArray) (st : HS) (e : Ending) (w' : World) : Prop := ∃ g at_ fs, e = .returned (.tuple #[.pointer (some ⟨g, 0, none⟩), .int .i64 0]) ∧ Tab w' g cnt s st.cb st.cn fs at_ ∧ (∀ j, 1 ≤ j → j ≤ 16 → fs j = fsF cnt s j ∧ at_ j = atF cnt s j) ∧ w.heap.size ≤ g ∧ Below w.heap.size w w'
theorem NewH.get {w w' : World} {cnt : Nat → Int} {s : ByteArray} {e : Ending} {st : HS} (h : NewH w cnt s e w') (h0 : hufNew cnt s = some st) : Hid (TabOf w cnt s st e w') := by
  unfold NewH at h; rw [h0] at h; exact Lib.hid h
theorem NewH.none {w w' : World} {cnt : Nat → Int} {s : ByteArray} {e : Ending} (h : NewH w cnt s e w') (h0 : hufNew cnt s = none) : e = .returned (.tuple #[.pointer none, .int .i64 5]) ∧ Below w.heap.size w w' := by
  unfold NewH at h; rw [h0] at h; exact h
theorem exC_rng (j : Nat) (_h : j < 16) : 0 ≤ exC j ∧ exC j ≤ 255 := by unfold exC; repeat' split
                                                                        all_goals omega
end Go.Proofs.YtdohhhkondokkaaDoor
