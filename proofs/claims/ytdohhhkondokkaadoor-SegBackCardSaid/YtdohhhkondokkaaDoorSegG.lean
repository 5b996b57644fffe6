/- Bytes of a bare one, of none, of a restart; the document's example. -/
import Derived.Test.YtdohhhkondokkaaDoorSegF
import Derived.Test.YtdohhhkondokkaaDoorSegH
namespace Go.Proofs.YtdohhhkondokkaaDoor
open Go.RowKit
set_option linter.unusedSimpArgs false
set_option linter.unusedVariables false
set_option maxRecDepth 100000
theorem bodyNil_walk (b : Nat) (w : World) :
    Calls Tryd.prog 30 #[.pointer (some ⟨b, 0, none⟩), .nilIface] w fun e w' => e = .returned (.bool false) ∧ Below w.heap.size w w' := by
  go_enter Tryd.func30, Tryd.ntmps30
  go_wp2
  go_ret
  exact ⟨rfl, Below.refl _ _⟩
set_option maxHeartbeats 1000000 in
theorem bodyRst_walk (B b : Nat) (n : Int) (w : World) (h : Wtr B b [] false w) :
    Calls Tryd.prog 30 #[.pointer (some ⟨b, 0, none⟩), .iface 61 (.agg #[.int .i64 n])] w fun e w' => e = .returned (.bool true) ∧ Wtr B b (putL n 2) (putB n 2) w' ∧ Below B w w' := by
  have hBw : B ≤ w.heap.size := by rcases h with h | h <;> exact h.2.1
  have ha := h.bel ((Below.refl w.heap.size w).alloc (Nat.le_refl _) (.cells #[.int .i64 n] 61))
  have HW := Lib.hid ha
  clear h ha
  go_enter Tryd.func30, Tryd.ntmps30
  go_wp2_with (first | (go_at_call 49; refine (wnum_walk B b [] n 2 (by decide) (by decide) false _ (by simp) HW.out).mono ?_; rintro ex w2 ⟨rfl, h2, hb2, _⟩; have HW2 := Lib.hid h2; have HB2 := Lib.hid hb2; clear h2 hb2))
  go_ret
  exact ⟨rfl, by simpa using HW2.out, ((Below.refl B w).alloc hBw _).trans HB2.out⟩
theorem bytesNil_walk (w : World) :
    Calls Tryd.prog 11 #[.nilIface] w fun e w' => e = .returned (.tuple #[.string ⟨#[]⟩, .int .i64 1]) ∧ Below w.heap.size w w' := by
  go_enter Tryd.func11, Tryd.ntmps11
  go_wp2_with (first | (go_at_call 30; refine (bodyNil_walk _ _).mono ?_; rintro ex w2 ⟨rfl, hb2⟩; have HB2 := Lib.hid hb2; clear hb2))
  go_ret2
  have h1 := (Below.refl w.heap.size w).alloc (Nat.le_refl _) (.cells #[.int .i64 0] 43)
  have h2 := h1.alloc h1.size (.cells #[.pointer none, .slice none 0 0, .bool false] 101)
  exact ⟨rfl, h2.trans (HB2.out.mono h2.size)⟩
theorem bytesBare_walk (c : Int) (h : 208 ≤ c ∧ c ≤ 217) (w : World) :
    Calls Tryd.prog 11 #[.iface 43 (.agg #[.int .i64 c])] w fun e w' => e = .returned (.tuple #[.string (⟨#[255, UInt8.ofNat c.toNat]⟩), .int .i64 0]) ∧ Below w.heap.size w w' := by
  have d1 : decide (c < 208) = false := by simp; omega
  have d2 : decide (217 < c) = false := by simp; omega
  have hbl : Blk ((w.alloc (.cells #[.int .i64 c] 43)).alloc (.cells #[.int .u8 c] 5)) (w.heap.size + 1) 5 (cellsU [c]) := by
    have := Blk.new (w.alloc (.cells #[.int .i64 c] 43)) 5 #[.int .u8 c]
    rw [show (w.alloc (.cells #[.int .i64 c] 43)).heap.size = w.heap.size + 1 from World.size_alloc _ _] at this
    exact this
  have hcv := conv_U (n := 1) (c := 1) hbl rfl
  clear hbl
  go_enter Tryd.func11, Tryd.ntmps11
  go_wp2
  go_ret2
  have h1 := (Below.refl w.heap.size w).alloc (Nat.le_refl _) (.cells #[.int .i64 c] 43)
  exact ⟨rfl, h1.alloc h1.size _⟩
theorem codeRst_walk (n : Int) (w : World) : Calls Tryd.prog 77 #[.agg #[.int .i64 n]] w fun e w' => e = .returned (.int .i64 221) ∧ Below w.heap.size w w' := by
  go_enter Tryd.func77, Tryd.ntmps77
  go_wp2
  go_ret
  exact ⟨rfl, (Below.refl _ w).alloc (Nat.le_refl _) _⟩
theorem bytesRst8 (w : World) :
    Calls Tryd.prog 11 #[.iface 61 (.agg #[.int .i64 8])] w fun e w' => e = .returned (.tuple #[.string ⟨#[255, 221, 0, 4, 0, 8]⟩, .int .i64 0]) ∧ Below w.heap.size w w' := by
  have hb : BodyK w (.iface 61 (.agg #[.int .i64 8])) [0, 8] false := fun w1 hb0 h => (bodyRst_walk w.heap.size (w.heap.size + 1) 8 w1 h).mono fun _ _ ⟨a1, a2, a3⟩ => ⟨a1, a2, hb0.trans a3⟩
  have hp : ParseK w 221 [0, 8] 0 := fun w1 _ => (parse_rst ⟨#[0, 8]⟩ rfl w1).mono fun e w' ⟨h, hb⟩ => ⟨⟨_, h⟩, hb⟩
  have h := bytesOk_Restart (.agg #[.int .i64 8]) 221 [0, 8] (by decide) w hb (codeRst_walk 8) hp
  have e : (⟨(putL (bits .or .i64 65280 221) 2).toArray⟩ ++ ⟨(putL (([0, 8] : List UInt8).length + 2 : Nat) 2).toArray⟩ ++ ⟨([0, 8] : List UInt8).toArray⟩ : ByteArray) = ⟨#[255, 221, 0, 4, 0, 8]⟩ := by decide +kernel
  rw [e] at h
  exact h
theorem bytesBare_no (c : Int) (h : c < 208 ∨ 217 < c) (w : World) :
    Calls Tryd.prog 11 #[.iface 43 (.agg #[.int .i64 c])] w fun e w' => e = .returned (.tuple #[.string ⟨#[]⟩, .int .i64 1]) ∧ Below w.heap.size w w' := by
  by_cases h1 : c < 208
  · have d1 : decide (c < 208) = true := by simpa using h1
    go_enter Tryd.func11, Tryd.ntmps11
    go_wp2
    go_ret2
    exact ⟨rfl, (Below.refl _ w).alloc (Nat.le_refl _) _⟩
  · have d1 : decide (c < 208) = false := by simpa using h1
    have d2 : decide (217 < c) = true := by simp; omega
    go_enter Tryd.func11, Tryd.ntmps11
    go_wp2
    go_ret2
    exact ⟨rfl, (Below.refl _ w).alloc (Nat.le_refl _) _⟩
theorem segAwake (w : World) : Calls Tryd.prog 10 #[] w fun e w' => e = .returned (.bool true) ∧ Below w.heap.size w w' := by
  go_enter Tryd.func10, Tryd.ntmps10
  go_wp2_with (first | (go_at_call 9; refine (parse_rst ⟨#[0, 8]⟩ rfl _).mono ?_; rintro e w1 ⟨rfl, hb1⟩; have HB1 := Lib.hid hb1; clear hb1; rw [show numL (⟨#[0, 8]⟩ : ByteArray).data.toList = 8 by decide]) | (go_at_call 11; refine (bytesRst8 _).mono ?_; rintro e w2 ⟨rfl, hb2⟩; have HB2 := Lib.hid hb2; clear hb2))
  go_ret
  exact ⟨rfl, HB1.out.trans (HB2.out.mono HB1.out.size)⟩
end Go.Proofs.YtdohhhkondokkaaDoor
