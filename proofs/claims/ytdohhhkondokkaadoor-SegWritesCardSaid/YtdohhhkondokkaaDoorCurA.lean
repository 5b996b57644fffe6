/- The walks of package cursor's and its reference's functions on numbers. -/
import Derived.Test.YtdohhhkondokkaaDoorBase
import Derived.Laws.BytesArg
namespace Go.Proofs.YtdohhhkondokkaaDoor
open Go.RowKit
set_option linter.unusedSimpArgs false
set_option linter.unusedVariables false
/-- The number of bytes, the highest first. -/
def numL (l : List UInt8) : Int := l.foldl (fun (a : Int) (b : UInt8) => a * 256 + b.toNat) 0
theorem numL_snoc (l : List UInt8) (c : UInt8) : numL (l ++ [c]) = numL l * 256 + c.toNat := by simp [numL, List.foldl_append]
theorem numL_bd (l : List UInt8) : 0 ≤ numL l ∧ numL l < 256 ^ l.length := by
  have H : ∀ m (l : List UInt8), l.length = m → 0 ≤ numL l ∧ numL l < 256 ^ m := by
    intro m
    induction m with
    | zero =>
      intro l hl
      obtain rfl := List.eq_nil_of_length_eq_zero hl
      simp [numL]
    | succ m ih =>
      intro l hl
      have hne : l ≠ [] := by intro e; subst e; simp at hl
      have e := List.dropLast_concat_getLast hne
      have h1 := ih l.dropLast (by rw [List.length_dropLast]; omega)
      rw [← e, numL_snoc]
      have hc : ((l.getLast hne).toNat : Int) < 256 := by have := (l.getLast hne).toNat_lt; omega
      rw [Int.pow_succ]
      omega
  exact H _ l rfl
theorem pow_cast (k : Nat) : (256 : Int) ^ k = ((256 ^ k : Nat) : Int) := by
  induction k with
  | zero => rfl
  | succ k ih => rw [Int.pow_succ, Nat.pow_succ, ih]; omega
theorem numL_lt (l : List UInt8) (m : Nat) (h : l.length ≤ m) : numL l < 256 ^ m := by
  have h1 := (numL_bd l).2
  have h2 := Nat.pow_le_pow_right (n := 256) (by omega) h
  rw [pow_cast] at h1 ⊢
  exact Int.lt_of_lt_of_le h1 (Int.ofNat_le.2 h2)
theorem ofInt_i64 (a : Nat) (ha : a < 9223372036854775808) : (BitVec.ofInt 64 (a : Int)).toNat = a := by
  rw [BitVec.ofInt_natCast, BitVec.toNat_ofNat]; exact Nat.mod_eq_of_lt (by omega)
theorem i64_or_nat (a b : Nat) (ha : a < 9223372036854775808) (hb : b < 9223372036854775808) : bits .or .i64 (a : Int) (b : Int) = ((a ||| b : Nat) : Int) := by
  have hx : a ||| b < 2 ^ 63 := Nat.or_lt_two_pow (by omega) (by omega)
  show IntKind.i64.wrap ((BitVec.ofInt 64 (a : Int) ||| BitVec.ofInt 64 (b : Int)).toNat : Int) = _
  rw [BitVec.toNat_or, ofInt_i64 a ha, ofInt_i64 b hb, IntKind.wrap_i64]
  omega
theorem or_byte (x b : Int) (h0 : 0 ≤ x) (h1 : x < 4294967296) (b0 : 0 ≤ b) (b1 : b < 256) : bits .or .i64 (wrap64 (x * 256)) (wrap64 b) = x * 256 + b := by
  obtain ⟨a, rfl⟩ := Int.eq_ofNat_of_zero_le h0
  obtain ⟨c, rfl⟩ := Int.eq_ofNat_of_zero_le b0
  have e1 : wrap64 ((a : Int) * 256) = ((a * 256 : Nat) : Int) := by unfold wrap64; omega
  have e2 : wrap64 (c : Int) = (c : Int) := by unfold wrap64; omega
  rw [e1, e2, i64_or_nat _ _ (by omega) (by omega)]
  have e3 : a * 256 ||| c = a * 256 + c := by
    have h := (Nat.shiftLeft_add_eq_or_of_lt (show c < 2 ^ 8 by omega) a).symm
    rw [Nat.shiftLeft_eq] at h
    exact h
  rw [e3]
  omega
theorem take_snoc (s : ByteArray) (k : Nat) (h : k < s.size) : s.data.toList.take (k + 1) = s.data.toList.take k ++ [s[k]] := by
  rw [List.take_succ_eq_append_getElem (by simpa using h)]; rfl
theorem sized_walk (n : Int) (w : World) :
    Calls Tryd.prog 50 #[.int .i64 n] w fun e w' => e = .returned (.bool (decide (1 ≤ n ∧ n ≤ 4))) ∧ w = w' := by
  by_cases h1 : 1 ≤ n
  · by_cases h2 : n ≤ 4
    · go_enter Tryd.func50, Tryd.ntmps50
      go_wp2
      go_ret
      exact ⟨by simp [h1, h2], rfl⟩
    · go_enter Tryd.func50, Tryd.ntmps50
      go_wp2
      go_ret
      exact ⟨by simp [h1, h2], rfl⟩
  · go_enter Tryd.func50, Tryd.ntmps50
    go_wp2
    go_ret
    exact ⟨by simp; omega, rfl⟩
set_option maxHeartbeats 400000 in
theorem number_walk (s : ByteArray) (hs : s.size ≤ 4) (w : World) :
    Calls Tryd.prog 54 #[.string s] w fun e w' => e = .returned (.int .i64 (numL s.data.toList)) ∧ w = w' := by
  go_enter Tryd.func54, Tryd.ntmps54
  go_wp2
  go_loop [3, 7] (fun n i => ∃ k : Nat, k ≤ s.size ∧ i = .int .i64 k ∧ n = .int .i64 (numL (s.data.toList.take k))) (fun _ i => s.size - (intOf i).toNat)
  case atStart => exact ⟨0, Nat.zero_le _, rfl, rfl⟩
  case round =>
    obtain ⟨k, hk, rfl, rfl⟩ := hrel
    have hb := numL_bd (s.data.toList.take k)
    by_cases hlt : k < s.size
    · have hsn := Lib.hid (numL_snoc (s.data.toList.take k) s[k])
      have hts := Lib.hid (take_snoc s k hlt)
      have h3 : numL (s.data.toList.take k) < 256 ^ 3 := numL_lt _ _ (by simp; omega)
      obtain ⟨x, hx⟩ : ∃ x, x = numL (s.data.toList.take k) := ⟨_, rfl⟩
      rw [← hx] at hb h3 ⊢
      have hor := Lib.hid (or_byte x s[k].toNat hb.1 (by omega) (by omega) (by have := s[k].toNat_lt; omega))
      clear hb
      have Hx := Lib.hid hx
      clear hx
      go_wp2
      refine ⟨⟨k + 1, by omega, by go_num, ?_⟩, by simp [intOf]; omega⟩
      rw [hts.out, hsn.out, hor.out, Hx.out]
    · obtain rfl : k = s.size := by omega
      have hf := Lib.hid (show s.data.toList.take s.size = s.data.toList from List.take_of_length_le (by rw [Array.length_toList]; exact Nat.le_refl _))
      clear hb
      go_wp2
      go_ret
      exact ⟨by rw [hf.out]; rfl, rfl⟩
/-! ### A number's bytes -/
def byL (n : Int) : Nat → List UInt8
  | 0 => []
  | k + 1 => byL (n / 256) k ++ [UInt8.ofNat (n % 256).toNat]
/-- The same, told from the front. -/
def byI (n : Int) : Nat → List Int
  | 0 => []
  | k + 1 => (n / 256 ^ k) % 256 :: byI n k
theorem byI_length (n : Int) (k : Nat) : (byI n k).length = k := by induction k with
  | zero => rfl
  | succ k ih => simp [byI, ih]
theorem byL_length (n : Int) (k : Nat) : (byL n k).length = k := by
  induction k generalizing n with
  | zero => rfl
  | succ k ih => simp [byL, ih]
theorem byI_back (n : Int) (k : Nat) : byI n (k + 1) = byI (n / 256) k ++ [n % 256] := by
  induction k with
  | zero => simp [byI]
  | succ k ih =>
    rw [byI, ih]
    have e : n / 256 ^ (k + 1) = n / 256 / 256 ^ k := by rw [Int.pow_succ, Int.mul_comm, Int.ediv_ediv_of_nonneg (by omega)]
    simp [byI, e]
theorem byI_byL (n : Int) (k : Nat) : (byI n k).map (fun z => UInt8.ofNat z.toNat) = byL n k := by
  induction k generalizing n with
  | zero => rfl
  | succ k ih => rw [byI_back, List.map_append, ih]; rfl
end Go.Proofs.YtdohhhkondokkaaDoor
