/- The writer of a segment's body: a strings.Builder within a struct. -/
import Derived.Test.YthibnhgbgmpjoaaDoorHGB
import Derived.Lib.Builder
import Derived.Lib.UnsafeStr
import Derived.Lib.AppendStr
namespace Go.Proofs.YthibnhgbgmpjoaaDoor
open Go.RowKit
set_option linter.unusedSimpArgs false
set_option linter.unusedVariables false
/-- The writer of block b: what was written, and whether it is bad. p: whether it was written to before. -/
def WtrP (B b : Nat) (p : Value) (l : List UInt8) (bad : Bool) (w : World) : Prop :=
  B ≤ b ∧ B ≤ w.heap.size ∧ ∃ v, Blk w b 77 #[p, v, .bool bad] ∧ w.ownsRow B 5 1 v l.length (Lib.byteCells l) ∧ v.ownBlock ≠ some b
def Wtr (B b : Nat) (l : List UInt8) (bad : Bool) (w : World) : Prop := WtrP B b (.pointer none) l bad w ∨ WtrP B b (.pointer (some ⟨b, 0, none⟩)) l bad w
/-- Every block but a writer's and a row of bytes stands. -/
def KeepW (w w' : World) : Prop := ∀ g t cs, t ≠ 77 → t ≠ 5 → Blk w g t cs → Blk w' g t cs
theorem KeepW.refl (w : World) : KeepW w w := fun _ _ _ _ _ h => h
theorem KeepW.trans {a b c : World} (h : KeepW a b) (k : KeepW b c) : KeepW a c := fun g t cs h1 h2 hB => k g t cs h1 h2 (h g t cs h1 h2 hB)
theorem KeepW.of_below {w w' : World} (h : Below w.heap.size w w') : KeepW w w' := fun _ _ _ _ _ hB => hB.bel h
theorem KeepW.set {w : World} {b : Nat} {cs : Array Value} (hb : Blk w b 77 cs) (i : Nat) (u : Value) : KeepW w (w.setCell ⟨b, i, none⟩ u) := fun g t cs' h1 _ hB => hB.far (p := ⟨b, i, none⟩) (by
  rintro rfl
  unfold Blk at hb hB
  rw [hb] at hB
  simp at hB
  exact h1 hB.2.symm) u
theorem KeepW.grown {base n : Nat} {v : Value} {xs : List Value} {w w' : World} (hO : w.ownsRow base 5 1 v n xs) (hg : w.grownBy w' v.ownBlock) : KeepW w w' := fun g t cs _ h2 hB => by
  by_cases e' : some g = v.ownBlock
  · exfalso
    rcases hO.2 with ⟨rfl, _⟩ | ⟨g', cap, cur, rfl, _, hc, _⟩
    · simp [Value.ownBlock] at e'
    · simp [Value.ownBlock] at e'
      subst e'
      unfold Blk at hB
      rw [hB] at hc
      simp at hc
      exact h2 hc.2
  · exact (hg.block g hB.lt e').trans hB
set_option maxHeartbeats 1000000 in
set_option maxRecDepth 100000 in
theorem copyCheck_fresh (b : Nat) (v : Value) (bad : Bool) (w : World) (h : Blk w b 77 #[.pointer none, v, .bool bad]) :
    Calls Tryd.prog 51 #[.pointer (some ⟨b, 0, none⟩)] w fun e w' => e = .returned (.tuple #[]) ∧ w' = w.setCell ⟨b, 0, none⟩ (.pointer (some ⟨b, 0, none⟩)) := by
  have h0 := h.cell 0
  have hf := h.frozen 0
  have hsh : w.shape? b = some (77, 3) := by simp [World.shape?, show w.heap[b]? = _ from h]
  clear h
  obtain ⟨j, hj⟩ := Option.isSome_iff_exists.1 (show (Tryd.prog.info? 75).isSome = true by kernel_rfl)
  have hjs : (Tryd.prog.info? 75).map (fun j => j.size == 0) = some false := by kernel_rfl
  rw [hj] at hjs
  simp only [Option.map_some, Option.some.injEq, beq_eq_false_iff_ne] at hjs
  have HSH := Lib.hid hsh; clear hsh
  have HJ := Lib.hid hj; clear hj
  have HJS := Lib.hid hjs; clear hjs
  go_enter Tryd.func51, Tryd.ntmps51
  go_wp2
  rw [Lib.run_to_unsafe w ⟨b, 0, none⟩ (t := 75) (by kernel_rfl) (by kernel_rfl) HJ.out HJS.out HSH.out (Nat.zero_lt_succ 2)]
  simp only [Result.andThen]
  rw [Oper.upon_value]
  go_wp2
  rw [run_callFunc_extern Tryd.func63 (by kernel_rfl) (by kernel_rfl) (by kernel_rfl) (e := Extern.AbiNoEscape.same) (by kernel_rfl)]
  rw [Lib.run_noEscape]
  simp only [Result.andThen]
  rw [Oper.upon_value]
  go_wp2
  rw [Lib.run_from_unsafe w ⟨b, 0, none⟩ (u := 75) (by kernel_rfl) (by kernel_rfl) HJ.out HSH.out (by kernel_rfl)]
  simp only [Result.andThen]
  rw [Oper.upon_value]
  go_wp2
  go_end0
  exact ⟨rfl, rfl⟩
set_option maxHeartbeats 1000000 in
set_option maxRecDepth 100000 in
theorem copyCheck_used (b : Nat) (v : Value) (bad : Bool) (w : World) (h : Blk w b 77 #[.pointer (some ⟨b, 0, none⟩), v, .bool bad]) :
    Calls Tryd.prog 51 #[.pointer (some ⟨b, 0, none⟩)] w fun e w' => e = .returned (.tuple #[]) ∧ w' = w := by
  have h0 := h.cell 0
  clear h
  obtain ⟨j, hj⟩ := Option.isSome_iff_exists.1 (show (Tryd.prog.info? 75).isSome = true by kernel_rfl)
  have HJ := Lib.hid hj; clear hj
  go_enter Tryd.func51, Tryd.ntmps51
  go_wp2
  rw [Lib.run_neq_ptr_same w _ (te := 75) (by kernel_rfl) HJ.out]
  go_wp2
  go_end0
  exact ⟨rfl, rfl⟩
theorem copyCheck_walk (B b : Nat) (l : List UInt8) (bad : Bool) (w : World) (h : Wtr B b l bad w) :
    Calls Tryd.prog 51 #[.pointer (some ⟨b, 0, none⟩)] w fun e w' => e = .returned (.tuple #[]) ∧ WtrP B b (.pointer (some ⟨b, 0, none⟩)) l bad w' ∧ Below B w w' ∧ KeepW w w' := by
  rcases h with ⟨hB, hw, v, hb, ho, hne⟩ | h
  · refine (copyCheck_fresh b v bad w hb).mono ?_
    rintro e w' ⟨rfl, rfl⟩
    exact ⟨rfl, ⟨hB, by simpa [World.setCell] using hw, v, Blk.set_ hb 0 _, ownsRow_setCell_other ho hne _, hne⟩, (Below.refl B w).setCell (p := ⟨b, 0, none⟩) hB _, KeepW.set hb 0 _⟩
  · have h2 := h
    obtain ⟨hB, hw, v, hb, ho, hne⟩ := h
    refine (copyCheck_used b v bad w hb).mono ?_
    rintro e w' ⟨rfl, rfl⟩
    exact ⟨rfl, h2, Below.refl B _, KeepW.refl _⟩
set_option maxHeartbeats 2000000 in
set_option maxRecDepth 100000 in
theorem writeStr_walk (B b : Nat) (l : List UInt8) (s : ByteArray) (bad : Bool) (w : World) (hl : l.length + s.size ≤ 140737488355328) (h : Wtr B b l bad w) :
    Calls Tryd.prog 25 #[.pointer (some ⟨b, 0, none⟩), .string s] w fun e w' => (∃ x, e = .returned x) ∧ WtrP B b (.pointer (some ⟨b, 0, none⟩)) (l ++ s.data.toList) bad w' ∧ Below B w w' ∧ KeepW w w' := by
  obtain ⟨i0, hi⟩ := Option.isSome_iff_exists.1 (show (Tryd.prog.info? 5).isSome = true by kernel_rfl)
  have h3 : (Tryd.prog.info? 5).map (fun i => (i.zero, i.size, i.bytes)) = some (some (Value.int .u8 0), 1, 1) := by kernel_rfl
  rw [hi] at h3
  simp only [Option.map_some, Option.some.injEq, Prod.mk.injEq] at h3
  obtain ⟨hz0, hz1, hz2⟩ := h3
  have HC := Lib.hid (copyCheck_walk B b l bad w h)
  clear h
  have HI := Lib.hid hi; clear hi
  go_enter Tryd.func25, Tryd.ntmps25
  go_wp2_with (go_at_call 51; refine HC.out.mono ?_)
  rintro e w1 ⟨rfl, ⟨hB, hw1, v, hbk, hown, hne⟩, hb1, kw1⟩
  have KW1 := Lib.hid kw1; clear kw1
  have c1 : w1.cell? ⟨b, 1, none⟩ = some v := hbk.cell 1
  go_wp2_with (at_builtin; refine Lib.wpList_append_own_string _ rfl _ _ 71 9 rfl B 5 i0 (by kernel_rfl) (by kernel_rfl) HI.out hz0 hz1 hz2 v l.length (Lib.byteCells l) rfl hown s rfl ?_ ?_ hw1 ?_)
  · simp only [maxLen]; omega
  · exact hl
  intro v' w2 hown' hgrow _
  have hb2 : Blk w2 b 77 #[.pointer (some ⟨b, 0, none⟩), v, .bool bad] := (hgrow.block b hbk.lt (fun e => hne e.symm)).trans hbk
  have d0 : w2.cell? ⟨b, 0, none⟩ = some (.pointer (some ⟨b, 0, none⟩)) := hb2.cell 0
  have d1 : w2.cell? ⟨b, 1, none⟩ = some v := hb2.cell 1
  have f1 := hb2.frozen 1
  obtain ⟨ao, n', cap, rfl⟩ : ∃ ao n' cap, v' = .slice ao n' cap := by
    rcases hown'.2 with ⟨hv, _⟩ | ⟨g, cap, cur, hv, _⟩
    · exact ⟨_, _, _, hv⟩
    · exact ⟨_, _, _, hv⟩
  have hne2 : (Value.slice ao n' cap).ownBlock ≠ some b := Lib.ownBlock_ne hown' hb2 (by decide)
  go_wp2
  go_ret2
  refine ⟨⟨_, rfl⟩, ⟨hB, ?_, _, Blk.set_ hb2 1 _, ?_, hne2⟩, ?_, (KW1.out.trans (KeepW.grown hown hgrow)).trans (KeepW.set hb2 1 _)⟩
  · have := hgrow.size; simp [World.setCell]; omega
  · refine ownsRow_setCell_other (a := ⟨b, 1, none⟩) ?_ hne2 _
    rw [Lib.strCells_eq, ← Lib.byteCells_append] at hown'
    simpa using hown'
  · exact (hb1.grown hgrow hw1 (fun k hk => (hown.lt k hk).1)).setCell (p := ⟨b, 1, none⟩) hB _
end Go.Proofs.YthibnhgbgmpjoaaDoor
namespace Go.Proofs.YthibnhgbgmpjoaaDoor
open Go.RowKit
set_option linter.unusedSimpArgs false
set_option linter.unusedVariables false
/-- What cursor.Put gives, of m bytes: the bytes. -/
def putL (n : Int) (m : Nat) : List UInt8 := if 0 ≤ n ∧ n < 256 ^ m then byL n m else []
def putB (n : Int) (m : Nat) : Bool := decide (¬ (0 ≤ n ∧ n < 256 ^ m))
theorem put_any (n : Int) (m : Nat) (h1 : 1 ≤ m) (h4 : m ≤ 4) (w : World) :
    ∃ er : Int, (er != 0) = putB n m ∧ Calls Tryd.prog 24 #[.int .i64 n, .int .i64 m] w fun e w' => e = .returned (.tuple #[.string ⟨(putL n m).toArray⟩, .int .i64 er]) ∧ Below w.heap.size w w' := by
  by_cases h : 0 ≤ n ∧ n < 256 ^ m
  · refine ⟨0, by simp [putB, h], (put_ok n m h1 h4 h.1 h.2 w).mono ?_⟩
    rintro e w' ⟨rfl, hb⟩
    exact ⟨by simp [putL, h], hb⟩
  · refine ⟨11, by simp [putB]; omega, (put_large n m h1 h4 (by omega) w).mono ?_⟩
    rintro e w' ⟨rfl, rfl⟩
    exact ⟨by simp [putL, h], Below.refl _ _⟩
theorem Wtr.bel {B b : Nat} {l : List UInt8} {bad : Bool} {w w' : World} (h : Wtr B b l bad w) (hb : Below w.heap.size w w') : Wtr B b l bad w' := by
  have hg : w.grownBy w' none := ⟨hb.os, hb.tape, hb.output, hb.size, fun i hi _ => hb.block i hi⟩
  rcases h with ⟨hB, hw, v, h, ho, hne⟩ | ⟨hB, hw, v, h, ho, hne⟩
  · exact .inl ⟨hB, Nat.le_trans hw hb.size, v, h.bel hb, ho.kept hg (Classical.em _), hne⟩
  · exact .inr ⟨hB, Nat.le_trans hw hb.size, v, h.bel hb, ho.kept hg (Classical.em _), hne⟩
theorem Wtr.bad {B b : Nat} {l : List UInt8} {bad : Bool} {w : World} (h : Wtr B b l bad w) : ∃ p v, Blk w b 77 #[p, v, .bool bad] := by
  rcases h with ⟨_, _, v, h, _, _⟩ | ⟨_, _, v, h, _, _⟩ <;> exact ⟨_, _, h⟩
theorem Wtr.setBad {B b : Nat} {l : List UInt8} {bad : Bool} {w : World} (h : Wtr B b l bad w) (y : Bool) : Wtr B b l y (w.setCell ⟨b, 2, none⟩ (.bool y)) ∧ Below B w (w.setCell ⟨b, 2, none⟩ (.bool y)) ∧ KeepW w (w.setCell ⟨b, 2, none⟩ (.bool y)) := by
  rcases h with ⟨hB, hw, v, h, ho, hne⟩ | ⟨hB, hw, v, h, ho, hne⟩
  · exact ⟨.inl ⟨hB, by simpa [World.setCell] using hw, v, Blk.set_ h 2 _, ownsRow_setCell_other ho hne _, hne⟩, (Below.refl B w).setCell (p := ⟨b, 2, none⟩) hB _, KeepW.set h 2 _⟩
  · exact ⟨.inr ⟨hB, by simpa [World.setCell] using hw, v, Blk.set_ h 2 _, ownsRow_setCell_other ho hne _, hne⟩, (Below.refl B w).setCell (p := ⟨b, 2, none⟩) hB _, KeepW.set h 2 _⟩
set_option maxHeartbeats 1000000 in
theorem wnum_walk (B b : Nat) (l : List UInt8) (n : Int) (m : Nat) (h1 : 1 ≤ m) (h4 : m ≤ 4) (bad : Bool) (w : World) (hl : l.length ≤ 140737488350000) (h : Wtr B b l bad w) :
    Calls Tryd.prog 49 #[.pointer (some ⟨b, 0, none⟩), .int .i64 n, .int .i64 m] w fun e w' => e = .returned (.tuple #[]) ∧ Wtr B b (l ++ putL n m) (bad || putB n m) w' ∧ Below B w w' ∧ KeepW w w' := by
  obtain ⟨er, her, hP⟩ := put_any n m h1 h4 w
  have hpl : (putL n m).length ≤ 4 := by unfold putL; split <;> simp [byL_length]; omega
  have HP := Lib.hid hP; clear hP
  obtain ⟨q, hq⟩ : ∃ q, q = putL n m := ⟨_, rfl⟩
  obtain ⟨x, hx⟩ : ∃ x, x = putB n m := ⟨_, rfl⟩
  rw [← hq] at HP hpl ⊢
  rw [← hx] at her ⊢
  clear hq hx
  have HW := Lib.hid h; clear h
  have hBw : B ≤ w.heap.size := by rcases HW.out with h | h <;> exact h.2.1
  have hsz : (⟨q.toArray⟩ : ByteArray).size = q.length := by simp [ByteArray.size]
  have qsz := Lib.hid hsz; clear hsz
  cases bad with
  | true =>
    rw [Bool.true_or]
    go_enter Tryd.func49, Tryd.ntmps49
    go_wp2_with (first | (go_at_call 24; refine HP.out.mono ?_; rintro ex w1 ⟨rfl, hb1⟩; have HW1 := Lib.hid (HW.out.bel hb1); have HB1 := Lib.hid (hb1.mono hBw); have HK1 := Lib.hid (KeepW.of_below hb1); have HS := Lib.hid (HW1.out.setBad true); obtain ⟨p, v, hk⟩ := HW1.out.bad; have c2 : w1.cell? ⟨b, 2, none⟩ = some (.bool true) := hk.cell 2; have f2 := hk.frozen 2; clear hb1 hk) | (go_at_call 25; refine (writeStr_walk B b l ⟨q.toArray⟩ true _ (by rw [qsz.out]; omega) HS.out.1).mono ?_; rintro ex w2 ⟨⟨y, rfl⟩, h2, hb2, hk2⟩; have HW2 := Lib.hid h2; have HB2 := Lib.hid hb2; have HK2 := Lib.hid hk2; clear h2 hb2 hk2))
    go_end0
    exact ⟨rfl, .inr (by simpa using HW2.out), (HB1.out.trans HS.out.2.1).trans HB2.out, (HK1.out.trans HS.out.2.2).trans HK2.out⟩
  | false =>
    rw [Bool.false_or]
    cases x with
    | true =>
      go_enter Tryd.func49, Tryd.ntmps49
      go_wp2_with (first | (go_at_call 24; refine HP.out.mono ?_; rintro ex w1 ⟨rfl, hb1⟩; have HW1 := Lib.hid (HW.out.bel hb1); have HB1 := Lib.hid (hb1.mono hBw); have HK1 := Lib.hid (KeepW.of_below hb1); have HS := Lib.hid (HW1.out.setBad true); obtain ⟨p, v, hk⟩ := HW1.out.bad; have c2 : w1.cell? ⟨b, 2, none⟩ = some (.bool false) := hk.cell 2; have f2 := hk.frozen 2; clear hb1 hk) | (go_at_call 25; refine (writeStr_walk B b l ⟨q.toArray⟩ true _ (by rw [qsz.out]; omega) HS.out.1).mono ?_; rintro ex w2 ⟨⟨y, rfl⟩, h2, hb2, hk2⟩; have HW2 := Lib.hid h2; have HB2 := Lib.hid hb2; have HK2 := Lib.hid hk2; clear h2 hb2 hk2))
      go_end0
      exact ⟨rfl, .inr (by simpa using HW2.out), (HB1.out.trans HS.out.2.1).trans HB2.out, (HK1.out.trans HS.out.2.2).trans HK2.out⟩
    | false =>
      have hd : er = 0 := by simpa using her
      subst hd
      clear her
      go_enter Tryd.func49, Tryd.ntmps49
      go_wp2_with (first | (go_at_call 24; refine HP.out.mono ?_; rintro ex w1 ⟨rfl, hb1⟩; have HW1 := Lib.hid (HW.out.bel hb1); have HB1 := Lib.hid (hb1.mono hBw); have HK1 := Lib.hid (KeepW.of_below hb1); have HS := Lib.hid (HW1.out.setBad false); obtain ⟨p, v, hk⟩ := HW1.out.bad; have c2 : w1.cell? ⟨b, 2, none⟩ = some (.bool false) := hk.cell 2; have f2 := hk.frozen 2; clear hb1 hk) | (go_at_call 25; refine (writeStr_walk B b l ⟨q.toArray⟩ false _ (by rw [qsz.out]; omega) HS.out.1).mono ?_; rintro ex w2 ⟨⟨y, rfl⟩, h2, hb2, hk2⟩; have HW2 := Lib.hid h2; have HB2 := Lib.hid hb2; have HK2 := Lib.hid hk2; clear h2 hb2 hk2))
      go_end0
      exact ⟨rfl, .inr (by simpa using HW2.out), (HB1.out.trans HS.out.2.1).trans HB2.out, (HK1.out.trans HS.out.2.2).trans HK2.out⟩
end Go.Proofs.YthibnhgbgmpjoaaDoor
