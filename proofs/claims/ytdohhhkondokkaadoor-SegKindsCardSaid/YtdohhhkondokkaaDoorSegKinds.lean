/- A segment is just what its code says, by every question. No condition but the card's own: the table holds what the program's text lays. -/
import Derived.Test.YtdohhhkondokkaaDoorSegN
import Derived.Test.YtdohhhkondokkaaDoorSegQ
import Derived.Test.YtdohhhkondokkaaDoorSegG
import Derived.Test.YtdohhhkondokkaaDoorCards
import Derived.Test.YtdohhhkondokkaaDoorTie
import Derived.Deep.DeepHandedRow
import Derived.Lib.LaidTab
namespace Go.Proofs.YtdohhhkondokkaaDoor
open Go.RowKit
set_option linter.unusedSimpArgs false
set_option linter.unusedVariables false
set_option maxRecDepth 100000
set_option maxHeartbeats 2000000 in
theorem kinds_Plain (c : Int) (s : ByteArray) (hc : 224 ≤ c) (w : World) (hp : Calls Tryd.prog 9 #[.int .i64 c, .string s] w fun e w' => e = .returned (.tuple #[.iface 93 (.agg #[.int .i64 c, .string s]), .int .i64 0]) ∧ Below w.heap.size w w') :
    Calls Tryd.prog 8 #[.int .i64 c, .string s] w fun e w' => e = .returned (.bool true) ∧ Below w.heap.size w w' := by
  have HP := Lib.hid hp; clear hp
  have d1 : decide (c ≤ 194) = false := by simp; omega
  have d2 : (c == 218) = false := by simp; omega
  have d3 : decide (224 ≤ c) = true := by simp; omega
  clear hc
  go_enter Tryd.func8, Tryd.ntmps8
  go_wp2_with (first | (go_at_call 9; refine (HP.out).mono ?_; rintro ex w1 ⟨rfl, hb1⟩; have HB1 := Lib.hid hb1; clear hb1) | (go_at_call 16; ((with_reducible refine (isFrame_Plain c s _).mono ?_); skip); rintro ex w2 ⟨rfl, hb2⟩; have HB2 := Lib.hid (HB1.out.trans (hb2.mono HB1.out.size)); clear hb2) | (go_at_call 17; ((with_reducible refine (isScan_Plain c s _).mono ?_); skip); rintro ex w3 ⟨rfl, hb3⟩; have HB3 := Lib.hid ((HB2.out.alloc HB2.out.size _).trans (hb3.mono (HB2.out.alloc HB2.out.size _).size)); have HF3 : Hid (Blk w3 w2.heap.size 65 #[.int .i64 0, .int .i64 0, .int .i64 0, .slice none 0 0]) := Lib.hid ((Blk.new w2 _ _).bel hb3); clear hb3) | (go_at_call 18; ((with_reducible refine (isTag_Plain c s _).mono ?_); skip); rintro ex w4 ⟨rfl, hb4⟩; have HB4 := Lib.hid ((HB3.out.alloc HB3.out.size _).trans (hb4.mono (HB3.out.alloc HB3.out.size _).size)); have HF4 : Hid (Blk w4 w2.heap.size 65 #[.int .i64 0, .int .i64 0, .int .i64 0, .slice none 0 0]) := Lib.hid ((HF3.out.alloc _).bel hb4); have HX4 : Hid (Blk w4 w3.heap.size 74 #[.slice none 0 0, .int .i64 0, .int .i64 0, .int .i64 0, .int .i64 0]) := Lib.hid ((Blk.new w3 _ _).bel hb4); clear hb4) | (go_at_call 10; ((with_reducible refine (segAwake  _).mono ?_); skip); rintro ex w6 ⟨rfl, hb6⟩; have HB6 := Lib.hid ((HB4.out.alloc HB4.out.size _).trans (hb6.mono (HB4.out.alloc HB4.out.size _).size)); have HT6 : Blk w6 w4.heap.size 78 #[.int .i64 c, .string s] := (Blk.new w4 _ _).bel hb6; have g2 : w6.cell? ⟨w4.heap.size, 0, none⟩ = some (.int .i64 c) := HT6.cell 0; have g3 : w6.cell? ⟨w4.heap.size, 1, none⟩ = some (.string s) := HT6.cell 1; clear HT6; clear hb6))
  go_ret
  exact ⟨rfl, HB6.out⟩
set_option maxHeartbeats 2000000 in
theorem kinds_Quants (c : Int) (s : ByteArray) (hc : c = 219) (w : World) (hp : Calls Tryd.prog 9 #[.int .i64 c, .string s] w fun e w' => ∃ (u : Value), e = .returned (.tuple #[.iface 47 (.agg #[u]), .int .i64 0]) ∧ Below w.heap.size w w') :
    Calls Tryd.prog 8 #[.int .i64 c, .string s] w fun e w' => e = .returned (.bool true) ∧ Below w.heap.size w w' := by
  have HP := Lib.hid hp; clear hp
  subst hc
  go_enter Tryd.func8, Tryd.ntmps8
  go_wp2_with (first | (go_at_call 9; refine (HP.out).mono ?_; rintro ex w1 ⟨u, rfl, hb1⟩; have HB1 := Lib.hid hb1; clear hb1) | (go_at_call 16; ((with_reducible refine (isFrame_Quants u _).mono ?_); skip); rintro ex w2 ⟨rfl, hb2⟩; have HB2 := Lib.hid (HB1.out.trans (hb2.mono HB1.out.size)); clear hb2) | (go_at_call 17; ((with_reducible refine (isScan_Quants u _).mono ?_); skip); rintro ex w3 ⟨rfl, hb3⟩; have HB3 := Lib.hid ((HB2.out.alloc HB2.out.size _).trans (hb3.mono (HB2.out.alloc HB2.out.size _).size)); have HF3 : Hid (Blk w3 w2.heap.size 65 #[.int .i64 0, .int .i64 0, .int .i64 0, .slice none 0 0]) := Lib.hid ((Blk.new w2 _ _).bel hb3); clear hb3) | (go_at_call 18; ((with_reducible refine (isTag_Quants u _).mono ?_); skip); rintro ex w4 ⟨rfl, hb4⟩; have HB4 := Lib.hid ((HB3.out.alloc HB3.out.size _).trans (hb4.mono (HB3.out.alloc HB3.out.size _).size)); have HF4 : Hid (Blk w4 w2.heap.size 65 #[.int .i64 0, .int .i64 0, .int .i64 0, .slice none 0 0]) := Lib.hid ((HF3.out.alloc _).bel hb4); have HX4 : Hid (Blk w4 w3.heap.size 74 #[.slice none 0 0, .int .i64 0, .int .i64 0, .int .i64 0, .int .i64 0]) := Lib.hid ((Blk.new w3 _ _).bel hb4); clear hb4) | (go_at_call 10; ((with_reducible refine (segAwake  _).mono ?_); skip); rintro ex w6 ⟨rfl, hb6⟩; have HB6 := Lib.hid ((HB4.out.alloc HB4.out.size _).trans (hb6.mono (HB4.out.alloc HB4.out.size _).size)); clear hb6))
  go_ret
  exact ⟨rfl, HB6.out⟩
set_option maxHeartbeats 2000000 in
theorem kinds_Huffs (c : Int) (s : ByteArray) (hc : c = 196) (w : World) (hp : Calls Tryd.prog 9 #[.int .i64 c, .string s] w fun e w' => ∃ (u : Value), e = .returned (.tuple #[.iface 55 (.agg #[u]), .int .i64 0]) ∧ Below w.heap.size w w') :
    Calls Tryd.prog 8 #[.int .i64 c, .string s] w fun e w' => e = .returned (.bool true) ∧ Below w.heap.size w w' := by
  have HP := Lib.hid hp; clear hp
  subst hc
  go_enter Tryd.func8, Tryd.ntmps8
  go_wp2_with (first | (go_at_call 9; refine (HP.out).mono ?_; rintro ex w1 ⟨u, rfl, hb1⟩; have HB1 := Lib.hid hb1; clear hb1) | (go_at_call 16; ((with_reducible refine (isFrame_Huffs u _).mono ?_); skip); rintro ex w2 ⟨rfl, hb2⟩; have HB2 := Lib.hid (HB1.out.trans (hb2.mono HB1.out.size)); clear hb2) | (go_at_call 17; ((with_reducible refine (isScan_Huffs u _).mono ?_); skip); rintro ex w3 ⟨rfl, hb3⟩; have HB3 := Lib.hid ((HB2.out.alloc HB2.out.size _).trans (hb3.mono (HB2.out.alloc HB2.out.size _).size)); have HF3 : Hid (Blk w3 w2.heap.size 65 #[.int .i64 0, .int .i64 0, .int .i64 0, .slice none 0 0]) := Lib.hid ((Blk.new w2 _ _).bel hb3); clear hb3) | (go_at_call 18; ((with_reducible refine (isTag_Huffs u _).mono ?_); skip); rintro ex w4 ⟨rfl, hb4⟩; have HB4 := Lib.hid ((HB3.out.alloc HB3.out.size _).trans (hb4.mono (HB3.out.alloc HB3.out.size _).size)); have HF4 : Hid (Blk w4 w2.heap.size 65 #[.int .i64 0, .int .i64 0, .int .i64 0, .slice none 0 0]) := Lib.hid ((HF3.out.alloc _).bel hb4); have HX4 : Hid (Blk w4 w3.heap.size 74 #[.slice none 0 0, .int .i64 0, .int .i64 0, .int .i64 0, .int .i64 0]) := Lib.hid ((Blk.new w3 _ _).bel hb4); clear hb4) | (go_at_call 10; ((with_reducible refine (segAwake  _).mono ?_); skip); rintro ex w6 ⟨rfl, hb6⟩; have HB6 := Lib.hid ((HB4.out.alloc HB4.out.size _).trans (hb6.mono (HB4.out.alloc HB4.out.size _).size)); clear hb6))
  go_ret
  exact ⟨rfl, HB6.out⟩
set_option maxHeartbeats 2000000 in
theorem kinds_Frame (c : Int) (s : ByteArray) (hc : c ≤ 194) (w : World) (hp : Calls Tryd.prog 9 #[.int .i64 c, .string s] w fun e w' => ∃ (h ww : Int) (A : Option Addr) (n cp : Nat), e = .returned (.tuple #[.iface 65 (.agg #[.int .i64 c, .int .i64 h, .int .i64 ww, .slice A n cp]), .int .i64 0]) ∧ Below w.heap.size w w') :
    Calls Tryd.prog 8 #[.int .i64 c, .string s] w fun e w' => e = .returned (.bool true) ∧ Below w.heap.size w w' := by
  have HP := Lib.hid hp; clear hp
  have d1 : decide (c ≤ 194) = true := by simp; omega
  have d2 : (c == 218) = false := by simp; omega
  have d3 : decide (224 ≤ c) = false := by simp; omega
  clear hc
  go_enter Tryd.func8, Tryd.ntmps8
  go_wp2_with (first | (go_at_call 9; refine (HP.out).mono ?_; rintro ex w1 ⟨h, ww, A, n, cp, rfl, hb1⟩; have HB1 := Lib.hid hb1; clear hb1) | (go_at_call 16; ((with_reducible refine (isFrame_Frame c h ww A n cp _).mono ?_); skip); rintro ex w2 ⟨rfl, hb2⟩; have HB2 := Lib.hid (HB1.out.trans (hb2.mono HB1.out.size)); clear hb2) | (go_at_call 17; ((with_reducible refine (isScan_Frame c h ww A n cp _).mono ?_); skip); rintro ex w3 ⟨rfl, hb3⟩; have HB3 := Lib.hid ((HB2.out.alloc HB2.out.size _).trans (hb3.mono (HB2.out.alloc HB2.out.size _).size)); have HF3 : Hid (Blk w3 w2.heap.size 65 #[.int .i64 c, .int .i64 h, .int .i64 ww, .slice A n cp]) := Lib.hid ((Blk.new w2 _ _).bel hb3); clear hb3) | (go_at_call 18; ((with_reducible refine (isTag_Frame c h ww A n cp _).mono ?_); skip); rintro ex w4 ⟨rfl, hb4⟩; have HB4 := Lib.hid ((HB3.out.alloc HB3.out.size _).trans (hb4.mono (HB3.out.alloc HB3.out.size _).size)); have HF4 : Hid (Blk w4 w2.heap.size 65 #[.int .i64 c, .int .i64 h, .int .i64 ww, .slice A n cp]) := Lib.hid ((HF3.out.alloc _).bel hb4); have HX4 : Hid (Blk w4 w3.heap.size 74 #[.slice none 0 0, .int .i64 0, .int .i64 0, .int .i64 0, .int .i64 0]) := Lib.hid ((Blk.new w3 _ _).bel hb4); clear hb4) | (go_at_call 19; ((with_reducible refine (mustFrame_ok c h ww A n cp _).mono ?_); skip); rintro ex w5 ⟨rfl, hb5⟩; have HB5 := Lib.hid ((HB4.out.alloc HB4.out.size _).trans (hb5.mono (HB4.out.alloc HB4.out.size _).size)); have HF5 : Hid (Blk w5 w2.heap.size 65 #[.int .i64 c, .int .i64 h, .int .i64 ww, .slice A n cp]) := Lib.hid ((HF4.out.alloc _).bel hb5); have g0 : (w5.alloc (.cells #[.int .i64 c, .int .i64 h, .int .i64 ww, .slice A n cp] 65)).cell? ⟨w2.heap.size, 0, none⟩ = some (.int .i64 c) := (HF5.out.alloc _).cell 0; have g1 : (w5.alloc (.cells #[.int .i64 c, .int .i64 h, .int .i64 ww, .slice A n cp] 65)).cell? ⟨w2.heap.size, 1, none⟩ = some (.int .i64 h) := (HF5.out.alloc _).cell 1; have g2 : (w5.alloc (.cells #[.int .i64 c, .int .i64 h, .int .i64 ww, .slice A n cp] 65)).cell? ⟨w2.heap.size, 2, none⟩ = some (.int .i64 ww) := (HF5.out.alloc _).cell 2; have g3 : (w5.alloc (.cells #[.int .i64 c, .int .i64 h, .int .i64 ww, .slice A n cp] 65)).cell? ⟨w2.heap.size, 3, none⟩ = some (.slice A n cp) := (HF5.out.alloc _).cell 3; clear hb5) | (go_at_call 10; ((with_reducible refine (segAwake  _).mono ?_); skip); rintro ex w6 ⟨rfl, hb6⟩; have HB6 := Lib.hid ((HB5.out.alloc HB5.out.size _).trans (hb6.mono (HB5.out.alloc HB5.out.size _).size)); clear g0 g1 g2 g3; clear hb6))
  go_ret
  exact ⟨rfl, HB6.out⟩
set_option maxHeartbeats 2000000 in
theorem kinds_Scan (c : Int) (s : ByteArray) (hc : c = 218) (w : World) (hp : Calls Tryd.prog 9 #[.int .i64 c, .string s] w fun e w' => ∃ (A : Option Addr) (n cp : Nat) (x1 x2 x3 x4 : Int), e = .returned (.tuple #[.iface 74 (.agg #[.slice A n cp, .int .i64 x1, .int .i64 x2, .int .i64 x3, .int .i64 x4]), .int .i64 0]) ∧ Below w.heap.size w w') :
    Calls Tryd.prog 8 #[.int .i64 c, .string s] w fun e w' => e = .returned (.bool true) ∧ Below w.heap.size w w' := by
  have HP := Lib.hid hp; clear hp
  subst hc
  go_enter Tryd.func8, Tryd.ntmps8
  go_wp2_with (first | (go_at_call 9; refine (HP.out).mono ?_; rintro ex w1 ⟨A, n, cp, x1, x2, x3, x4, rfl, hb1⟩; have HB1 := Lib.hid hb1; clear hb1) | (go_at_call 16; ((with_reducible refine (isFrame_Scan A n cp x1 x2 x3 x4 _).mono ?_); skip); rintro ex w2 ⟨rfl, hb2⟩; have HB2 := Lib.hid (HB1.out.trans (hb2.mono HB1.out.size)); clear hb2) | (go_at_call 17; ((with_reducible refine (isScan_Scan A n cp x1 x2 x3 x4 _).mono ?_); skip); rintro ex w3 ⟨rfl, hb3⟩; have HB3 := Lib.hid ((HB2.out.alloc HB2.out.size _).trans (hb3.mono (HB2.out.alloc HB2.out.size _).size)); have HF3 : Hid (Blk w3 w2.heap.size 65 #[.int .i64 0, .int .i64 0, .int .i64 0, .slice none 0 0]) := Lib.hid ((Blk.new w2 _ _).bel hb3); clear hb3) | (go_at_call 18; ((with_reducible refine (isTag_Scan A n cp x1 x2 x3 x4 _).mono ?_); skip); rintro ex w4 ⟨rfl, hb4⟩; have HB4 := Lib.hid ((HB3.out.alloc HB3.out.size _).trans (hb4.mono (HB3.out.alloc HB3.out.size _).size)); have HF4 : Hid (Blk w4 w2.heap.size 65 #[.int .i64 0, .int .i64 0, .int .i64 0, .slice none 0 0]) := Lib.hid ((HF3.out.alloc _).bel hb4); have HX4 : Hid (Blk w4 w3.heap.size 74 #[.slice A n cp, .int .i64 x1, .int .i64 x2, .int .i64 x3, .int .i64 x4]) := Lib.hid ((Blk.new w3 _ _).bel hb4); clear hb4) | (go_at_call 10; ((with_reducible refine (segAwake  _).mono ?_); skip); rintro ex w6 ⟨rfl, hb6⟩; have HB6 := Lib.hid ((HB4.out.alloc HB4.out.size _).trans (hb6.mono (HB4.out.alloc HB4.out.size _).size)); clear hb6))
  go_ret
  exact ⟨rfl, HB6.out⟩
set_option maxHeartbeats 2000000 in
theorem kinds_Restart (c : Int) (s : ByteArray) (hc : c = 221) (w : World) (hp : Calls Tryd.prog 9 #[.int .i64 c, .string s] w fun e w' => ∃ (n : Int), e = .returned (.tuple #[.iface 61 (.agg #[.int .i64 n]), .int .i64 0]) ∧ Below w.heap.size w w') :
    Calls Tryd.prog 8 #[.int .i64 c, .string s] w fun e w' => e = .returned (.bool true) ∧ Below w.heap.size w w' := by
  have HP := Lib.hid hp; clear hp
  subst hc
  go_enter Tryd.func8, Tryd.ntmps8
  go_wp2_with (first | (go_at_call 9; refine (HP.out).mono ?_; rintro ex w1 ⟨n, rfl, hb1⟩; have HB1 := Lib.hid hb1; clear hb1) | (go_at_call 16; ((with_reducible refine (isFrame_Restart n _).mono ?_); skip); rintro ex w2 ⟨rfl, hb2⟩; have HB2 := Lib.hid (HB1.out.trans (hb2.mono HB1.out.size)); clear hb2) | (go_at_call 17; ((with_reducible refine (isScan_Restart n _).mono ?_); skip); rintro ex w3 ⟨rfl, hb3⟩; have HB3 := Lib.hid ((HB2.out.alloc HB2.out.size _).trans (hb3.mono (HB2.out.alloc HB2.out.size _).size)); have HF3 : Hid (Blk w3 w2.heap.size 65 #[.int .i64 0, .int .i64 0, .int .i64 0, .slice none 0 0]) := Lib.hid ((Blk.new w2 _ _).bel hb3); clear hb3) | (go_at_call 18; ((with_reducible refine (isTag_Restart n _).mono ?_); skip); rintro ex w4 ⟨rfl, hb4⟩; have HB4 := Lib.hid ((HB3.out.alloc HB3.out.size _).trans (hb4.mono (HB3.out.alloc HB3.out.size _).size)); have HF4 : Hid (Blk w4 w2.heap.size 65 #[.int .i64 0, .int .i64 0, .int .i64 0, .slice none 0 0]) := Lib.hid ((HF3.out.alloc _).bel hb4); have HX4 : Hid (Blk w4 w3.heap.size 74 #[.slice none 0 0, .int .i64 0, .int .i64 0, .int .i64 0, .int .i64 0]) := Lib.hid ((Blk.new w3 _ _).bel hb4); clear hb4) | (go_at_call 10; ((with_reducible refine (segAwake  _).mono ?_); skip); rintro ex w6 ⟨rfl, hb6⟩; have HB6 := Lib.hid ((HB4.out.alloc HB4.out.size _).trans (hb6.mono (HB4.out.alloc HB4.out.size _).size)); clear hb6))
  go_ret
  exact ⟨rfl, HB6.out⟩
set_option maxHeartbeats 2000000 in
theorem kinds_Nil (c : Int) (s : ByteArray) (er : Int) (hc : er ≠ 0) (w : World) (hp : Calls Tryd.prog 9 #[.int .i64 c, .string s] w fun e w' => e = .returned (.tuple #[.nilIface, .int .i64 er]) ∧ Below w.heap.size w w') :
    Calls Tryd.prog 8 #[.int .i64 c, .string s] w fun e w' => e = .returned (.bool true) ∧ Below w.heap.size w w' := by
  have HP := Lib.hid hp; clear hp
  have d1 : (er == 0) = false := by simpa using hc
  clear hc
  go_enter Tryd.func8, Tryd.ntmps8
  go_wp2_with (first | (go_at_call 9; refine (HP.out).mono ?_; rintro ex w1 ⟨rfl, hb1⟩; have HB1 := Lib.hid hb1; clear hb1) | (go_at_call 16; ((with_reducible refine (isFrame_Nil  _).mono ?_); skip); rintro ex w2 ⟨rfl, hb2⟩; have HB2 := Lib.hid (HB1.out.trans (hb2.mono HB1.out.size)); clear hb2) | (go_at_call 17; ((with_reducible refine (isScan_Nil  _).mono ?_); skip); rintro ex w3 ⟨rfl, hb3⟩; have HB3 := Lib.hid ((HB2.out.alloc HB2.out.size _).trans (hb3.mono (HB2.out.alloc HB2.out.size _).size)); have HF3 : Hid (Blk w3 w2.heap.size 65 #[.int .i64 0, .int .i64 0, .int .i64 0, .slice none 0 0]) := Lib.hid ((Blk.new w2 _ _).bel hb3); clear hb3) | (go_at_call 18; ((with_reducible refine (isTag_Nil  _).mono ?_); skip); rintro ex w4 ⟨rfl, hb4⟩; have HB4 := Lib.hid ((HB3.out.alloc HB3.out.size _).trans (hb4.mono (HB3.out.alloc HB3.out.size _).size)); have HF4 : Hid (Blk w4 w2.heap.size 65 #[.int .i64 0, .int .i64 0, .int .i64 0, .slice none 0 0]) := Lib.hid ((HF3.out.alloc _).bel hb4); have HX4 : Hid (Blk w4 w3.heap.size 74 #[.slice none 0 0, .int .i64 0, .int .i64 0, .int .i64 0, .int .i64 0]) := Lib.hid ((Blk.new w3 _ _).bel hb4); clear hb4) | (go_at_call 10; ((with_reducible refine (segAwake  _).mono ?_); skip); rintro ex w6 ⟨rfl, hb6⟩; have HB6 := Lib.hid ((HB4.out.alloc HB4.out.size _).trans (hb6.mono (HB4.out.alloc HB4.out.size _).size)); have g0 : w6.cell? ⟨w2.heap.size, 0, none⟩ = some (.int .i64 0) := Blk.cell (Blk.bel (Blk.alloc HF4.out _) hb6) 0; have g1 : w6.cell? ⟨w3.heap.size, 0, none⟩ = some (.slice none 0 0) := Blk.cell (Blk.bel (Blk.alloc HX4.out _) hb6) 0; have HT6 : Blk w6 w4.heap.size 78 #[.int .i64 0, .string ByteArray.empty] := (Blk.new w4 _ _).bel hb6; have g2 : w6.cell? ⟨w4.heap.size, 0, none⟩ = some (.int .i64 0) := HT6.cell 0; have g3 : w6.cell? ⟨w4.heap.size, 1, none⟩ = some (.string ByteArray.empty) := HT6.cell 1; clear HT6; clear hb6))
  go_ret
  exact ⟨rfl, HB6.out⟩
theorem segKinds_walk (c : Int) (s : ByteArray) (w : World) (hL : Laid w) : Calls Tryd.prog 8 #[.int .i64 c, .string s] w fun e w' => e = .returned (.bool true) ∧ Below w.heap.size w w' := by
  have hp := parse_walk c s w hL
  by_cases he : prE c s = 0
  · rcases prG_cases he with ⟨h1, l, hG⟩ | ⟨h1, l, hG⟩ | ⟨h1, l, a, b, hi, lo, hG⟩ | ⟨h1, n, hG⟩ | ⟨h0, h1, h, ww, l, hG⟩ | ⟨h1, h0, hG⟩
    · refine kinds_Quants c s h1 w (hp.mono ?_)
      rintro e w' ⟨v, rfl, hv, _, hb⟩
      have h2 := hv he
      rw [hG] at h2
      obtain ⟨u, rfl, hO⟩ := h2
      exact ⟨u, by rw [he], hb⟩
    · refine kinds_Huffs c s h1 w (hp.mono ?_)
      rintro e w' ⟨v, rfl, hv, _, hb⟩
      have h2 := hv he
      rw [hG] at h2
      obtain ⟨u, rfl, hO⟩ := h2
      exact ⟨u, by rw [he], hb⟩
    · refine kinds_Scan c s h1 w (hp.mono ?_)
      rintro e w' ⟨v, rfl, hv, _, hb⟩
      have h2 := hv he
      rw [hG] at h2
      obtain ⟨u, rfl, hO⟩ := h2
      obtain ⟨A, n, cp, rfl⟩ := hO.form2
      exact ⟨A, n, cp, a, b, hi, lo, by rw [he], hb⟩
    · refine kinds_Restart c s h1 w (hp.mono ?_)
      rintro e w' ⟨v, rfl, hv, _, hb⟩
      have h2 := hv he
      rw [hG] at h2
      exact ⟨n, by rw [he, h2], hb⟩
    · refine kinds_Frame c s h1 w (hp.mono ?_)
      rintro e w' ⟨v, rfl, hv, _, hb⟩
      have h2 := hv he
      rw [hG] at h2
      obtain ⟨u, rfl, hO⟩ := h2
      obtain ⟨A, n, cp, rfl⟩ := hO.form2
      exact ⟨h, ww, A, n, cp, by rw [he], hb⟩
    · refine kinds_Plain c s h1 w (hp.mono ?_)
      rintro e w' ⟨v, rfl, hv, _, hb⟩
      have h2 := hv he
      rw [hG] at h2
      exact ⟨by rw [he, h2], hb⟩
  · refine kinds_Nil c s _ he w (hp.mono ?_)
    rintro e w' ⟨v, rfl, _, hv, hb⟩
    exact ⟨by rw [hv he], hb⟩
namespace lawSegKinds
open Go.ChangeShapes Go.WideShapes Go.ChangeAt Go.RowKit
theorem own : ownKnob Tryd.prog.godebug = none := by kernel_rfl
theorem laidOut : laidOutB Tryd.prog = true := by kernel_rfl
theorem gTab0 : Tryd.prog.globalNamed "aquatint/zig.order" = some 0 := by kernel_rfl
theorem gTabType0 : (Tryd.prog.globals[0]?).map (·.type) = some 136 := by kernel_rfl
theorem cellsT : Tryd.prog.cellsOf 136 = 64 := by kernel_rfl
theorem cellsE : Tryd.prog.cellsOf 3 = 1 := by kernel_rfl
theorem table {W : World} (h : laidMetH Tryd.prog Rows.segKindsRow.laid W) : Lib.TabIs Tryd.prog W "aquatint/zig.order" .i64 (ordL.map fun (n : Nat) => (n : Int)) :=
  Lib.tabIs_of_head (rest := []) gTab0 gTabType0 Tryd.underlying136 Tryd.underlying3 cellsE cellsT h
theorem laid_of {W : World} (h : laidMetH Tryd.prog Rows.segKindsRow.laid W) : Laid W := by
  have H : ∀ k, k < 64 → W.cell? ⟨0, k, none⟩ = some (.int .i64 (ord k)) := fun k hk => by
    have h1 := (table h).cell gTab0 k (by simpa [ordL] using hk)
    rw [h1]
    have h2 : ord k = ordL[k]'(by simpa [ordL] using hk) := by
      unfold ord
      rw [List.getD_eq_getElem?_getD, List.getElem?_eq_getElem (by simpa [ordL] using hk)]
      rfl
    rw [h2, List.getD_eq_getElem?_getD, List.getElem?_map, List.getElem?_eq_getElem (by simpa [ordL] using hk)]
    rfl
  exact ⟨block_lt_of_cell (H 0 (by omega)), H⟩
open Go.ChangeMaps (open_string shut_string)
theorem contract (H : Type) (enc : TypeId × Value → H) (W : World) (base : Nat) (args : Array Value) (ds gs : List (DataW H)) (before : List MemPlace)
    (hval : ∀ (j : Nat) t v, Tryd.f8.params[j]? = some t → args[j]? = some v → Value.okWide Tryd.prog W .any base t v)
    (hW : DataW.Whole enc Tryd.prog Tryd.f8.params.toList Rows.segKindsSpec.vars false W args.toList ds gs before) (hL : laidMetH Tryd.prog Rows.segKindsRow.laid W) (_hsz : (DataW.weightsEach Tryd.prog (Tryd.f8.params.toList ++ (OpenSpec.ofChange Rows.segKindsSpec).bare.plain.varTypes Tryd.prog) (ds ++ gs)).all (· ≤ reachBytes) = true) :
    Calls Tryd.prog 8 args W fun e W' => ∃ v, e = .returned v ∧ Rows.segKindsSpec.post enc Tryd.prog Tryd.f8 false true false false W args v W' := by
  have hW' := hW
  obtain ⟨p, q, hA0, hV, hbefore, hfz, hnd⟩ := hW
  obtain ⟨rfl, rfl⟩ := trodVars_none hV
  have hA : DataW.TrodAll enc Tryd.prog W 0 (fun _ => true) true Tryd.f8.params.toList args.toList ds p := hA0
  rw [Tryd.params8] at hA hval
  obtain ⟨v0, vs1, d0, ds1, p0, q0, hargs, rfl, hps, h0, r0⟩ := trodAll_cons hA
  obtain ⟨v1, vs2, d1, ds2, p1, q1, rfl, rfl, rfl, h1, r1⟩ := trodAll_cons r0
  obtain ⟨rfl, rfl, rfl⟩ := trodAll_nil r1
  obtain rfl : args = #[v0, v1] := by cases args; simp_all
  have o0 := hval 0 3 v0 rfl rfl
  have o1 := hval 1 9 v1 rfl rfl
  clear hA0
  obtain ⟨x, rfl, rfl, rfl, wx⟩ := open_int Tryd.underlying3 o0 h0
  obtain ⟨y, rfl, rfl, rfl, wy⟩ := open_string Tryd.underlying9 o1 h1
  refine (segKinds_walk x y W (laid_of hL)).mono fun e W' ⟨he, hb⟩ => ?_
  subst he
  exact ⟨_, rfl, law_post laidOut (by rw [Tryd.params8]; intro t ht; simp only [List.mem_cons, List.not_mem_nil, or_false] at ht; rcases ht with rfl | rfl <;> exact ⟨by kernel_rfl, of_decide_eq_true (by kernel_rfl)⟩) (by kernel_rfl) Tryd.underlying4 hW' rfl rfl hb⟩
theorem gTab : Tryd.prog.globalNamed "aquatint/zig.order" = some 0 := by kernel_rfl
theorem gTabType : (Tryd.prog.globals[0]?).map (·.type) = some 136 := by kernel_rfl
/-- A world for the witness: the settled one, the table holding what its initialiser lays. -/
noncomputable def laidWorld (os : Os) : World :=
  { World.holding Tryd.prog os ⟨#[], #[], []⟩ with heap := (World.holding Tryd.prog os ⟨#[], #[], []⟩).heap.modify 0 fun
      | .cells _ t frozen => .cells #[.int .i64 0, .int .i64 1, .int .i64 8, .int .i64 16, .int .i64 9, .int .i64 2, .int .i64 3, .int .i64 10, .int .i64 17, .int .i64 24, .int .i64 32, .int .i64 25, .int .i64 18, .int .i64 11, .int .i64 4, .int .i64 5, .int .i64 12, .int .i64 19, .int .i64 26, .int .i64 33, .int .i64 40, .int .i64 48, .int .i64 41, .int .i64 34, .int .i64 27, .int .i64 20, .int .i64 13, .int .i64 6, .int .i64 7, .int .i64 14, .int .i64 21, .int .i64 28, .int .i64 35, .int .i64 42, .int .i64 49, .int .i64 56, .int .i64 57, .int .i64 50, .int .i64 43, .int .i64 36, .int .i64 29, .int .i64 22, .int .i64 15, .int .i64 23, .int .i64 30, .int .i64 37, .int .i64 44, .int .i64 51, .int .i64 58, .int .i64 59, .int .i64 52, .int .i64 45, .int .i64 38, .int .i64 31, .int .i64 39, .int .i64 46, .int .i64 53, .int .i64 60, .int .i64 61, .int .i64 54, .int .i64 47, .int .i64 55, .int .i64 62, .int .i64 63] t frozen
      | o => o }
theorem laid_met (os : Os) : laidMet Tryd.prog Rows.segKindsRow.laid ((laidWorld os).forCall (fun _ _ => 0) ⟨#[], #[Value.int .i64 0, Value.string ⟨#[]⟩], []⟩).memory :=
  laidMet_of_run' 8 (by kernel_rfl) (by kernel_rfl)
theorem reads (os : Os) {H : Type} (enc : TypeId × Value → H) : ∃ places, DataW.whole enc Tryd.prog ((laidWorld os).forCall (fun _ _ => 0) ⟨#[], #[Value.int .i64 0, Value.string ⟨#[]⟩], []⟩).memory Tryd.f8.params.toList Rows.segKindsSpec.vars false #[Value.int .i64 0, Value.string ⟨#[]⟩].toList 8 = some ([.lit (.int .i64 0), .lit (.string [])], [], places) :=
  ⟨[], by kernel_rfl⟩
set_option maxRecDepth 100000 in
theorem lifted (os : Os) (started : os.Started) (H : Type) (enc : TypeId × Value → H) (F : Stop.Interp) :
    ReturnsInHanded {} Tryd.checked os 8 .any ((OpenSpec.ofChange Rows.segKindsSpec).preRow enc Tryd.prog Tryd.f8 Rows.segKindsRow.domain false Rows.segKindsRow.laid) (((OpenSpec.ofChange Rows.segKindsSpec).at F).post enc Tryd.prog Tryd.f8 false true false false) := by
  obtain ⟨places, hx⟩ := reads os enc
  refine returnsInHanded_of_row (C := Tryd.checked) (s := (OpenSpec.ofChange Rows.segKindsSpec)) own started (by kernel_rfl) Tryd.func8
    (witness_row_at (enc := enc) (C := Tryd.checked) false (laidWorld os) #[Value.int .i64 0, Value.string ⟨#[]⟩] rfl (by kernel_rfl) (by kernel_rfl) (by kernel_rfl)
      (OpenSpec.preRow_of_cond 8 hx (by kernel_rfl) (fun k hk => by cases hk) (by kernel_rfl) (laid_met os))) ?_
  intro W base args ds gs before hval hW _ _ hsz hL _ _
  exact contract H enc W base args ds gs before hval hW hL hsz
theorem said : Rows.SegKindsSaid :=
  OpenClaim.holds_of_cond 8 Tryd.f8 rfl rfl rfl rfl rfl rfl rfl ⟨rfl, rfl, rfl, rfl, rfl⟩ rfl rfl rfl rfl rfl (by kernel_rfl) Tryd.func8 (by kernel_rfl)
    (of_decide_eq_true (by kernel_rfl)) (by unfold Func.isWrapper; first | (rw [if_pos (by decide +kernel)]; kernel_rfl) | (rw [if_neg (by decide +kernel)]; exact ⟨rfl, rfl⟩))
    (fun os started H enc _ F => by rw [OpenClaim.pre_eq_preRow]; exact lifted os started H enc F)
theorem plain (f : FuncId) (fn : Func) (hf : Tryd.pinned.checked.prog.funcNamed "aquatint/aquatintlaw07.SegKinds" = some f) (hfn : Tryd.pinned.checked.prog.funcs[f]? = some fn) :
    true = Tryd.pinned.checked.prog.looks [] ∧ ∀ (j : Nat) t, fn.params[j]? = some t → Tryd.pinned.checked.prog.wantsStandIn t = false := by
  obtain rfl : f = 8 := Option.some.inj ((show Tryd.prog.funcNamed "aquatint/aquatintlaw07.SegKinds" = some 8 by kernel_rfl).symm.trans hf) |>.symm
  obtain rfl : fn = Tryd.f8 := (Option.some.inj (Tryd.func8.symm.trans hfn)).symm
  refine ⟨by kernel_rfl, fun j t ht => ?_⟩
  rw [Tryd.params8] at ht
  have hm := Array.mem_of_getElem? ht
  simp only [List.mem_toArray, List.mem_cons, List.not_mem_nil, or_false] at hm
  rcases hm with rfl | rfl
  · exact (show Tryd.prog.wantsStandIn 3 = false by kernel_rfl)
  · exact (show Tryd.prog.wantsStandIn 9 = false by kernel_rfl)
/-- The card. -/
theorem card : Rows.SegKindsCardSaid :=
  Claim7.holds_tied_plain_at .later [] _ _ _ _ said (fun _ h => by cases h) (by kernel_rfl) (fun _ h => by cases h) segKinds_row_tie rfl ⟨rfl, rfl⟩ (by kernel_rfl) rfl plain (by kernel_rfl)
#print axioms card
end lawSegKinds
end Go.Proofs.YtdohhhkondokkaaDoor
