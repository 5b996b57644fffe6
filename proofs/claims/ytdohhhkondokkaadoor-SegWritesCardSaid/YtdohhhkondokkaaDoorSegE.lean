/- The writer's num and halves. -/
import Derived.Test.YtdohhhkondokkaaDoorSegC
namespace Go.Proofs.YtdohhhkondokkaaDoor
open Go.RowKit
set_option linter.unusedSimpArgs false
set_option linter.unusedVariables false
/-- What cursor.Put gives, of m bytes: the bytes. -/
def putL (n : Int) (m : Nat) : List UInt8 := if 0 ≤ n ∧ n < 256 ^ m then byL n m else []
def putB (n : Int) (m : Nat) : Bool := decide (¬ (0 ≤ n ∧ n < 256 ^ m))
theorem put_any (n : Int) (m : Nat) (h1 : 1 ≤ m) (h4 : m ≤ 4) (w : World) :
    ∃ er : Int, (er != 0) = putB n m ∧ Calls Tryd.prog 32 #[.int .i64 n, .int .i64 m] w fun e w' => e = .returned (.tuple #[.string ⟨(putL n m).toArray⟩, .int .i64 er]) ∧ Below w.heap.size w w' := by
  by_cases h : 0 ≤ n ∧ n < 256 ^ m
  · refine ⟨0, by simp [putB, h], (put_ok n m h1 h4 h.1 h.2 w).mono ?_⟩
    rintro e w' ⟨rfl, hb⟩
    exact ⟨by simp [putL, h], hb⟩
  · refine ⟨11, by simp [putB]; omega, (put_large n m h1 h4 (by omega) w).mono ?_⟩
    rintro e w' ⟨rfl, rfl⟩
    exact ⟨by simp [putL, h], Below.refl _ _⟩
theorem Wtr.bel {B b : Nat} {l : List UInt8} {bad : Bool} {w w' : World} (h : Wtr B b l bad w) (hb : Below w.heap.size w w') : Wtr B b l bad w' := by
  have hg : w.grownBy w' none := ⟨hb.os, hb.tape, hb.output, hb.size, fun i hi _ => hb.block i hi⟩
  rcases h with ⟨hB, hw, v, h, ho, hne⟩ | ⟨hB, hw, v, h, ho, hne⟩
  · exact .inl ⟨hB, Nat.le_trans hw hb.size, v, h.bel hb, ho.kept hg (Classical.em _), hne⟩
  · exact .inr ⟨hB, Nat.le_trans hw hb.size, v, h.bel hb, ho.kept hg (Classical.em _), hne⟩
theorem Wtr.bad {B b : Nat} {l : List UInt8} {bad : Bool} {w : World} (h : Wtr B b l bad w) : ∃ p v, Blk w b 101 #[p, v, .bool bad] := by
  rcases h with ⟨_, _, v, h, _, _⟩ | ⟨_, _, v, h, _, _⟩ <;> exact ⟨_, _, h⟩
theorem Wtr.setBad {B b : Nat} {l : List UInt8} {bad : Bool} {w : World} (h : Wtr B b l bad w) (y : Bool) : Wtr B b l y (w.setCell ⟨b, 2, none⟩ (.bool y)) ∧ Below B w (w.setCell ⟨b, 2, none⟩ (.bool y)) ∧ KeepW w (w.setCell ⟨b, 2, none⟩ (.bool y)) := by
  rcases h with ⟨hB, hw, v, h, ho, hne⟩ | ⟨hB, hw, v, h, ho, hne⟩
  · exact ⟨.inl ⟨hB, by simpa [World.setCell] using hw, v, Blk.set_ h 2 _, ownsRow_setCell_other ho hne _, hne⟩, (Below.refl B w).setCell (p := ⟨b, 2, none⟩) hB _, KeepW.set h 2 _⟩
  · exact ⟨.inr ⟨hB, by simpa [World.setCell] using hw, v, Blk.set_ h 2 _, ownsRow_setCell_other ho hne _, hne⟩, (Below.refl B w).setCell (p := ⟨b, 2, none⟩) hB _, KeepW.set h 2 _⟩
set_option maxHeartbeats 1000000 in
theorem wnum_walk (B b : Nat) (l : List UInt8) (n : Int) (m : Nat) (h1 : 1 ≤ m) (h4 : m ≤ 4) (bad : Bool) (w : World) (hl : l.length ≤ 140737488350000) (h : Wtr B b l bad w) :
    Calls Tryd.prog 49 #[.pointer (some ⟨b, 0, none⟩), .int .i64 n, .int .i64 m] w fun e w' => e = .returned (.tuple #[]) ∧ Wtr B b (l ++ putL n m) (bad || putB n m) w' ∧ Below B w w' ∧ KeepW w w' := by
  obtain ⟨er, her, hP⟩ := put_any n m h1 h4 w
  have hpl : (putL n m).length ≤ 4 := by unfold putL; split <;> simp [byL_length]; omega
  have HP := Lib.hid hP; clear hP
  obtain ⟨q, hq⟩ : ∃ q, q = putL n m := ⟨_, rfl⟩
  obtain ⟨x, hx⟩ : ∃ x, x = putB n m := ⟨_, rfl⟩
  rw [← hq] at HP hpl ⊢
  rw [← hx] at her ⊢
  clear hq hx
  have HW := Lib.hid h; clear h
  have hBw : B ≤ w.heap.size := by rcases HW.out with h | h <;> exact h.2.1
  have hsz : (⟨q.toArray⟩ : ByteArray).size = q.length := by simp [ByteArray.size]
  have qsz := Lib.hid hsz; clear hsz
  cases bad with
  | true =>
    rw [Bool.true_or]
    go_enter Tryd.func49, Tryd.ntmps49
    go_wp2_with (first | (go_at_call 32; refine HP.out.mono ?_; rintro ex w1 ⟨rfl, hb1⟩; have HW1 := Lib.hid (HW.out.bel hb1); have HB1 := Lib.hid (hb1.mono hBw); have HK1 := Lib.hid (KeepW.of_below hb1); have HS := Lib.hid (HW1.out.setBad true); obtain ⟨p, v, hk⟩ := HW1.out.bad; have c2 : w1.cell? ⟨b, 2, none⟩ = some (.bool true) := hk.cell 2; have f2 := hk.frozen 2; clear hb1 hk) | (go_at_call 44; refine (writeStr_walk B b l ⟨q.toArray⟩ true _ (by rw [qsz.out]; omega) HS.out.1).mono ?_; rintro ex w2 ⟨⟨y, rfl⟩, h2, hb2, hk2⟩; have HW2 := Lib.hid h2; have HB2 := Lib.hid hb2; have HK2 := Lib.hid hk2; clear h2 hb2 hk2))
    go_end0
    exact ⟨rfl, .inr (by simpa using HW2.out), (HB1.out.trans HS.out.2.1).trans HB2.out, (HK1.out.trans HS.out.2.2).trans HK2.out⟩
  | false =>
    rw [Bool.false_or]
    cases x with
    | true =>
      go_enter Tryd.func49, Tryd.ntmps49
      go_wp2_with (first | (go_at_call 32; refine HP.out.mono ?_; rintro ex w1 ⟨rfl, hb1⟩; have HW1 := Lib.hid (HW.out.bel hb1); have HB1 := Lib.hid (hb1.mono hBw); have HK1 := Lib.hid (KeepW.of_below hb1); have HS := Lib.hid (HW1.out.setBad true); obtain ⟨p, v, hk⟩ := HW1.out.bad; have c2 : w1.cell? ⟨b, 2, none⟩ = some (.bool false) := hk.cell 2; have f2 := hk.frozen 2; clear hb1 hk) | (go_at_call 44; refine (writeStr_walk B b l ⟨q.toArray⟩ true _ (by rw [qsz.out]; omega) HS.out.1).mono ?_; rintro ex w2 ⟨⟨y, rfl⟩, h2, hb2, hk2⟩; have HW2 := Lib.hid h2; have HB2 := Lib.hid hb2; have HK2 := Lib.hid hk2; clear h2 hb2 hk2))
      go_end0
      exact ⟨rfl, .inr (by simpa using HW2.out), (HB1.out.trans HS.out.2.1).trans HB2.out, (HK1.out.trans HS.out.2.2).trans HK2.out⟩
    | false =>
      have hd : er = 0 := by simpa using her
      subst hd
      clear her
      go_enter Tryd.func49, Tryd.ntmps49
      go_wp2_with (first | (go_at_call 32; refine HP.out.mono ?_; rintro ex w1 ⟨rfl, hb1⟩; have HW1 := Lib.hid (HW.out.bel hb1); have HB1 := Lib.hid (hb1.mono hBw); have HK1 := Lib.hid (KeepW.of_below hb1); have HS := Lib.hid (HW1.out.setBad false); obtain ⟨p, v, hk⟩ := HW1.out.bad; have c2 : w1.cell? ⟨b, 2, none⟩ = some (.bool false) := hk.cell 2; have f2 := hk.frozen 2; clear hb1 hk) | (go_at_call 44; refine (writeStr_walk B b l ⟨q.toArray⟩ false _ (by rw [qsz.out]; omega) HS.out.1).mono ?_; rintro ex w2 ⟨⟨y, rfl⟩, h2, hb2, hk2⟩; have HW2 := Lib.hid h2; have HB2 := Lib.hid hb2; have HK2 := Lib.hid hk2; clear h2 hb2 hk2))
      go_end0
      exact ⟨rfl, .inr (by simpa using HW2.out), (HB1.out.trans HS.out.2.1).trans HB2.out, (HK1.out.trans HS.out.2.2).trans HK2.out⟩
end Go.Proofs.YtdohhhkondokkaaDoor
