/- Parse of a restart. -/
import Derived.Test.YtdohhhkondokkaaDoorSegE
import Derived.Test.YtdohhhkondokkaaDoorSegD
namespace Go.Proofs.YtdohhhkondokkaaDoor
open Go.RowKit
set_option linter.unusedSimpArgs false
set_option linter.unusedVariables false
set_option maxHeartbeats 1000000 in
theorem parse_rst (s : ByteArray) (hs : s.size = 2) (w : World) :
    Calls Tryd.prog 9 #[.int .i64 221, .string s] w fun e w' => e = .returned (.tuple #[.iface 61 (.agg #[.int .i64 (numL s.data.toList)]), .int .i64 0]) ∧ Below w.heap.size w w' := by
  have hm := may_walk 221
  rw [show mayC 221 = 0 by decide] at hm
  have HM := Lib.hid hm; clear hm
  obtain ⟨y, hy⟩ : ∃ y, y = numL s.data.toList := ⟨_, rfl⟩
  have hV : nxV s 2 0 0 = y := by rw [nxV, nxE, if_pos (by omega), hy, show 0 + 2 = s.size by omega, ByteArray.extract_zero_size]
  have hE : nxE s 2 0 0 = 0 := by simp [nxE, hs]
  have hA : nxA s 2 0 = 2 := by simp [nxA, hs]
  have hN := fun w r g (hne : r ≠ g) hr hc => num_walkR 2 (by decide) (by decide) w r g 0 s 0 (by omega) (by omega) hne hr hc
  rw [hV, hE, hA] at hN
  rw [← hy]
  have HN := Lib.hid hN; clear hN hV hE hA hy
  have hlen : decide (65533 < (s.size : Int)) = false := by rw [hs]; decide
  go_enter Tryd.func9, Tryd.ntmps9
  go_wp2_with (first | (go_at_call 20; refine (HM.out _).mono ?_; rintro ex w1 ⟨rfl, rfl⟩) | (go_at_call 21; refine (new_walk s _).mono ?_; rintro ex w2 ⟨rfl, hc, hb, hlt⟩; have HC := Lib.hid hc; have HB := Lib.hid hb; have HLT := Lib.hid hlt; clear hc hb hlt) | (go_at_call 25; refine (HN.out _ _ _ (by have := HLT.out; omega) (Blk.new _ _ _) (Blk.alloc HC.out _)).mono ?_; rintro ex w3 ⟨rfl, hr3, hc3, ht3⟩; have HR3 := Lib.hid hr3; have HC3 := Lib.hid hc3; have HT3 := Lib.hid ht3; have c30 := hr3.g_; clear hr3 hc3 ht3) | (go_at_call 29; refine (left_walk _ _ 2 s (by omega) (by omega) HC3.out).mono ?_; rintro ex w4 ⟨rfl, rfl⟩) | (go_at_call 28; refine (test_walk _ _ _ 0 4 true (Blk.drew HR3.out)).mono ?_; rintro ex w5 ⟨rfl, hr5, ho5⟩; have c51 : w5.cell? ⟨w2.heap.size, 1, none⟩ = some (.int .i64 0) := Rdr.e_ hr5; have HO5 := Lib.hid ho5; clear hr5 ho5))
  go_ret2
  have h0 := HB.out.size
  have ha : Below w.heap.size w (w2.alloc (.cells #[.pointer (some ⟨w.heap.size, 0, none⟩), .int .i64 0] 87)) := HB.out.alloc h0 _
  have h3 := ha.trans (HT3.out.below (Nat.le_refl _) h0 ha.size)
  exact ⟨rfl, h3.drew.trans (HO5.out.below h0 h3.drew.size)⟩
end Go.Proofs.YtdohhhkondokkaaDoor
