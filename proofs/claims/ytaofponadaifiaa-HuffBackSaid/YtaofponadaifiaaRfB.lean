/- The walk of the reference's Bytes. No condition. -/
import Derived.Test.YtaofponadaifiaaRf
import Derived.Test.YtaofponadaifiaaWriC
namespace Go.Proofs.Ytaofponadaifiaa
open Go.RowKit
set_option linter.unusedSimpArgs false
set_option linter.unusedVariables false
def st (b : Int) : List Int := if b = 255 then [255, 0] else [b]
theorem st_pt (l : List Int) (b : Int) : pt l b = l ++ st b := rfl
/-- Eight bits from place i on, 1s behind the end. -/
def chunk (n : Nat) (f : Nat → Int) (i j : Nat) : Int := valB ((List.range j).map fun t => if i + t < n then f (i + t) else 1)
theorem chunk_succ (n : Nat) (f : Nat → Int) (i j : Nat) : chunk n f i (j + 1) = chunk n f i j * 2 + (if i + j < n then f (i + j) else 1) := by
  unfold chunk
  rw [List.range_succ, List.map_append, List.map_cons, List.map_nil, valB_snoc]
theorem chunk_range (n : Nat) (f : Nat → Int) (hf : ∀ j, j < n → 0 ≤ f j ∧ f j ≤ 1) (i j : Nat) : 0 ≤ chunk n f i j ∧ chunk n f i j < 2 ^ j := by
  induction j with
  | zero => simp [chunk, valB]
  | succ j ih =>
    rw [chunk_succ, Int.pow_succ]
    split
    · rename_i h
      have := hf _ h
      omega
    · omega
def stB (n : Nat) (f : Nat → Int) (q : Nat) : List Int := ((List.range q).map fun p => st (chunk n f (8 * p) 8)).flatten
theorem stB_succ (n : Nat) (f : Nat → Int) (q : Nat) : stB n f (q + 1) = stB n f q ++ st (chunk n f (8 * q) 8) := by
  simp [stB, List.range_succ]
theorem stB_len (n : Nat) (f : Nat → Int) (q : Nat) : (stB n f q).length ≤ 2 * q := by
  induction q with
  | zero => simp [stB]
  | succ q ih =>
    rw [stB_succ, List.length_append]
    have : (st (chunk n f (8 * q) 8)).length ≤ 2 := by unfold st; split <;> simp
    omega
theorem bytesOf_append (a b : List Int) : bytesOf (a ++ b) = bytesOf a ++ bytesOf b := by
  apply ByteArray.ext
  simp [bytesOf]
end Go.Proofs.Ytaofponadaifiaa
