/- The walks of the reference's Take and of the laws' awake. -/
import Derived.Test.YtlfhojmdffkkhaaCurC
import Derived.Test.YtlfhojmdffkkhaaReg
namespace Go.Proofs.Ytlfhojmdffkkhaa
open Go.RowKit
set_option linter.unusedSimpArgs false
set_option linter.unusedVariables false
def curV (s : ByteArray) (a : Nat) : Value := .agg #[.string s, .int .i64 a]
set_option maxHeartbeats 800000 in
theorem refTake_ok (s : ByteArray) (a n : Nat) (hs : s.size ≤ 140737488351232) (hn : a + n ≤ s.size) (w : World) :
    Calls Try.prog 15 #[curV s a, .int .i64 n] w fun e w' => e = .returned (.tuple #[.string (s.extract a (a + n)), curV s (a + n), .int .i64 0]) ∧ Below w.heap.size w w' := by
  have hn2 : (n : Int) ≤ (s.size : Int) - a := by omega
  unfold curV
  go_enter Try.func15, Try.ntmps15
  go_wp2
  go_region
  go_wp2
  exact bodyPost_ret (v := .tuple #[.string (s.extract a (a + n)), .agg #[.string s, .int .i64 ((a : Int) + n)], .int .i64 0]) (by simp [results, Try.results15, go_sem]) rfl ⟨rfl, (((Below.refl _ _).alloc (Nat.le_refl _) _).alloc (by simp) _).drew⟩
set_option maxHeartbeats 800000 in
theorem refTake_arg (s : ByteArray) (a : Nat) (n : Int) (hn : n < 0) (w : World) :
    Calls Try.prog 15 #[curV s a, .int .i64 n] w fun e w' => e = .returned (.tuple #[.string ⟨#[]⟩, curV s a, .int .i64 1]) ∧ Below w.heap.size w w' := by
  unfold curV
  go_enter Try.func15, Try.ntmps15
  go_wp2
  go_region
  go_wp2
  exact bodyPost_ret (v := .tuple #[.string ⟨#[]⟩, .agg #[.string s, .int .i64 (a : Int)], .int .i64 1]) (by simp [results, Try.results15, go_sem]) rfl ⟨rfl, (((Below.refl _ _).alloc (Nat.le_refl _) _).alloc (by simp) _).drew⟩
set_option maxHeartbeats 800000 in
theorem refTake_short (s : ByteArray) (a : Nat) (n : Int) (hs : s.size ≤ 140737488351232) (ha : a ≤ s.size) (hn : (s.size : Int) - a < n) (w : World) :
    Calls Try.prog 15 #[curV s a, .int .i64 n] w fun e w' => e = .returned (.tuple #[.string ⟨#[]⟩, curV s a, .int .i64 2]) ∧ Below w.heap.size w w' := by
  have h0 : ¬ n < 0 := by omega
  unfold curV
  go_enter Try.func15, Try.ntmps15
  go_wp2
  go_region
  go_wp2
  exact bodyPost_ret (v := .tuple #[.string ⟨#[]⟩, .agg #[.string s, .int .i64 (a : Int)], .int .i64 2]) (by simp [results, Try.results15, go_sem]) rfl ⟨rfl, (((Below.refl _ _).alloc (Nat.le_refl _) _).alloc (by simp) _).drew⟩
/-! ### awake -/
def t123 : ByteArray := ⟨#[1, 2, 3]⟩
theorem awk_num1 (w : World) (g : Nat) (h : Cur w g t123 0) :
    Calls Try.prog 12 #[.pointer (some ⟨g, 0, none⟩), .int .i64 2] w fun e w' => e = .returned (.tuple #[.int .i64 258, .int .i64 0]) ∧ Cur w' g t123 2 ∧ Only g w w' :=
  num_ok 2 (by decide) (by decide) w g 0 t123 (by decide) h (by decide)
theorem awk_num2 (w : World) (g : Nat) (h : Cur w g t123 2) :
    Calls Try.prog 12 #[.pointer (some ⟨g, 0, none⟩), .int .i64 2] w fun e w' => e = .returned (.tuple #[.int .i64 0, .int .i64 2]) ∧ w.drew = w' :=
  num_short 2 (by decide) (by decide) w g 2 t123 (by decide) (by decide) h (by decide)
theorem awk_put1 (w : World) : Calls Try.prog 8 #[.int .i64 258, .int .i64 2] w fun e w' => e = .returned (.tuple #[.string ⟨#[1, 2]⟩, .int .i64 0]) ∧ Below w.heap.size w w' :=
  put_ok 258 2 (by decide) (by decide) (by decide) (by decide) w
theorem awk_put2 (w : World) : Calls Try.prog 8 #[.int .i64 256, .int .i64 1] w fun e w' => e = .returned (.tuple #[.string ⟨#[]⟩, .int .i64 11]) ∧ w = w' :=
  put_large 256 1 (by decide) (by decide) (Or.inr (by decide)) w
theorem awk_rest (w : World) (g : Nat) (h : Cur w g t123 2) :
    Calls Try.prog 19 #[.pointer (some ⟨g, 0, none⟩)] w fun e w' => e = .returned (.string ⟨#[3]⟩) ∧ Only g w w' :=
  (rest_walk w g 2 t123 (by decide) (by decide) h).mono fun e w' ⟨he, _, ho⟩ => ⟨he, ho⟩
set_option maxHeartbeats 1600000 in
theorem awake_true (w : World) : Calls Try.prog 10 #[] w fun e w' => e = .returned (.bool true) ∧ Below w.heap.size w w' := by
  go_enter Try.func10, Try.ntmps10
  go_wp2_with (first | (go_at_call 11; refine (new_walk t123 _).mono ?_; rintro e w1 ⟨rfl, hc, hb, hz⟩; have HC := Lib.hid hc; have HB := Lib.hid hb; clear hc hb))
  refine (awk_num1 _ _ HC.out).mono ?_
  rintro e w2 ⟨rfl, hc, ho⟩
  have HC2 := Lib.hid hc
  have HB2 := Lib.hid (HB.out.trans (ho.below (Nat.le_refl _) (by omega)))
  have hz2 := ho.size
  clear hc ho
  go_wp2_with fail
  refine (awk_num2 _ _ HC2.out).mono ?_
  rintro e w3 ⟨rfl, rfl⟩
  go_wp2_with fail
  refine (awk_put1 _).mono ?_
  rintro e w3 ⟨rfl, hb⟩
  have HC3 := Lib.hid (Blk.bel (Blk.drew HC2.out) hb)
  have HB3 := Lib.hid (HB2.out.drew.trans (hb.mono (by have : w2.drew.heap.size = w2.heap.size := rfl; omega)))
  have hz3 : w2.heap.size ≤ w3.heap.size := hb.size
  clear hb
  go_wp2_with fail
  refine (awk_put2 _).mono ?_
  rintro e w4 ⟨rfl, rfl⟩
  go_wp2_with fail
  refine (awk_rest _ _ HC3.out).mono ?_
  rintro e w5 ⟨rfl, ho⟩
  have HB5 := Lib.hid (HB3.out.trans (ho.below (Nat.le_refl _) (by omega)))
  clear ho
  go_wp2_with fail
  go_ret
  exact ⟨rfl, HB5.out⟩
end Go.Proofs.Ytlfhojmdffkkhaa
