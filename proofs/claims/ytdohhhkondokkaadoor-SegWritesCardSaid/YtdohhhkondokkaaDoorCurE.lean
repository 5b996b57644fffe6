/- Plain laws on numbers' bytes, for CursorBack. -/
import Derived.Test.YtdohhhkondokkaaDoorCurA
namespace Go.Proofs.YtdohhhkondokkaaDoor
open Go.RowKit
def okP (m : Nat) (x : Int) : Bool := decide (0 ≤ x ∧ x < 256 ^ m)
def fl (m : Nat) (f : Nat → Int) (k : Nat) : List Int := ((List.range k).map f).filter (okP m)
def bysL (m : Nat) (l : List Int) : List UInt8 := (l.map fun x => byL x m).flatten
theorem fl_yes (m : Nat) (f : Nat → Int) (k : Nat) (h : okP m (f k) = true) : fl m f (k + 1) = fl m f k ++ [f k] := by simp [fl, List.range_succ, h]
theorem fl_no (m : Nat) (f : Nat → Int) (k : Nat) (h : okP m (f k) = false) : fl m f (k + 1) = fl m f k := by simp [fl, List.range_succ, h]
theorem fl_le (m : Nat) (f : Nat → Int) (k : Nat) : (fl m f k).length ≤ k := by have := List.length_filter_le (okP m) ((List.range k).map f); simpa [fl] using this
theorem fl_ok (m : Nat) (f : Nat → Int) (k j : Nat) (h : j < (fl m f k).length) : 0 ≤ (fl m f k)[j] ∧ (fl m f k)[j] < 256 ^ m := by
  have h1 := List.getElem_mem h
  have h2 := (List.mem_filter.1 h1).2
  simpa [okP] using h2
theorem bysL_cons (m : Nat) (x : Int) (l : List Int) : bysL m (x :: l) = byL x m ++ bysL m l := by simp [bysL]
theorem bysL_len (m : Nat) (l : List Int) : (bysL m l).length = m * l.length := by
  induction l with
  | nil => simp [bysL]
  | cons x l ih => rw [bysL_cons, List.length_append, byL_length, ih, List.length_cons, Nat.mul_succ, Nat.add_comm]
theorem bysL_snoc (m : Nat) (l : List Int) (x : Int) : bysL m (l ++ [x]) = bysL m l ++ byL x m := by simp [bysL]
theorem bysL_cut (m : Nat) (l : List Int) (j : Nat) (h : j < l.length) : ((bysL m l).drop (m * j)).take m = byL l[j] m := by
  induction l generalizing j with
  | nil => simp at h
  | cons x l ih =>
    rw [bysL_cons]
    cases j with
    | zero =>
      rw [Nat.mul_zero, List.drop_zero, List.take_append_of_le_length (by rw [byL_length]; exact Nat.le_refl _), List.take_of_length_le (by rw [byL_length]; exact Nat.le_refl _)]
      rfl
    | succ j =>
      have e : m * (j + 1) = (byL x m).length + m * j := by rw [byL_length, Nat.mul_succ, Nat.add_comm]
      rw [e, List.drop_length_add_append]
      simpa using ih j (by simpa using h)
theorem numL_byL (n : Int) (m : Nat) (h0 : 0 ≤ n) (h : n < 256 ^ m) : numL (byL n m) = n := by
  induction m generalizing n with
  | zero => simp at h; have : n = 0 := by omega
            subst this; rfl
  | succ m ih =>
    have h1 : n / 256 < 256 ^ m := by
      rw [Int.pow_succ] at h
      exact Int.ediv_lt_of_lt_mul (by omega) h
    rw [byL, numL_snoc, ih (n / 256) (by omega) h1]
    have h2 : ((UInt8.ofNat (n % 256).toNat).toNat : Int) = n % 256 := by
      rw [UInt8.toNat_ofNat']
      omega
    rw [h2]
    omega
theorem cut_bytes (m : Nat) (l : List Int) (j : Nat) (h : j < l.length) : (⟨(bysL m l).toArray⟩ : ByteArray).extract (m * j) (m * j + m) = ⟨(byL l[j] m).toArray⟩ := by
  apply ByteArray.ext
  rw [ByteArray.data_extract]
  apply Array.ext'
  rw [Array.toList_extract]
  show List.take (m * j + m - m * j) (List.drop (m * j) (bysL m l)) = byL l[j] m
  rw [Nat.add_sub_cancel_left]
  exact bysL_cut m l j h
end Go.Proofs.YtdohhhkondokkaaDoor
