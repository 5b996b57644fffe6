/- What is parsed is written back, byte for byte, behind its marker and its length. No condition but the card's own: the table holds what the program's text lays. -/
import Derived.Test.YtdohhhkondokkaaDoorSegV
import Derived.Test.YtdohhhkondokkaaDoorSegG
import Derived.Test.YtdohhhkondokkaaDoorCards
import Derived.Test.YtdohhhkondokkaaDoorTie
import Derived.Deep.DeepHandedRow
import Derived.Lib.LaidTab
namespace Go.Proofs.YtdohhhkondokkaaDoor
open Go.RowKit
set_option linter.unusedSimpArgs false
set_option linter.unusedVariables false
set_option maxRecDepth 100000
set_option maxHeartbeats 2000000 in
theorem back_Plain (c : Int) (s : ByteArray) (hs : s.size ≤ 65533) (hc0 : 192 ≤ c) (hc1 : c ≤ 254) (M : ByteArray) (hM : M = ⟨#[UInt8.ofNat c.toNat, UInt8.ofNat (((s.size : Int) + 2) / 256).toNat, UInt8.ofNat (((s.size : Int) + 2) % 256).toNat]⟩) (w : World) (hp : Calls Tryd.prog 9 #[.int .i64 c, .string s] w fun e w' => e = .returned (.tuple #[.iface 93 (.agg #[.int .i64 c, .string s]), .int .i64 0]) ∧ Below w.heap.size w w' ∧ Calls Tryd.prog 11 #[.iface 93 (.agg #[.int .i64 c, .string s])] w' fun e w'' => e = .returned (.tuple #[.string (⟨#[255]⟩ ++ M ++ s), .int .i64 0]) ∧ Below w'.heap.size w' w'') :
    Calls Tryd.prog 3 #[.int .i64 c, .string s] w fun e w' => e = .returned (.bool true) ∧ Below w.heap.size w w' := by
  skip
  have HP := Lib.hid hp; clear hp
  have hMz : M.size = 3 := by rw [hM]; rfl
  have HM := Lib.hid hM; clear hM
  have hz4 : ((⟨#[255]⟩ : ByteArray) ++ M).size ≤ 4 := by rw [ByteArray.size_append, hMz]; exact Nat.le_refl _
  go_enter Tryd.func3, Tryd.ntmps3
  go_wp2_with (first | (go_at_call 9; refine (HP.out).mono ?_; rintro ex w1 ⟨rfl, hb1, hB⟩; have HB1 := Lib.hid hb1; have HBY := Lib.hid hB; clear hb1 hB) | (go_at_call 11; refine (HBY.out).mono ?_; rintro ex w2 ⟨rfl, hb2⟩; have HB2 := Lib.hid (HB1.out.trans (hb2.mono HB1.out.size)); clear hb2) | (go_at_call 10; refine (segAwake _).mono ?_; rintro ex w3 ⟨rfl, hb3⟩; have HB3 := Lib.hid (HB2.out.trans (hb3.mono HB2.out.size)); clear hb3) | (go_at_call 81; refine (codePlain c s _).mono ?_; rintro ex w4 ⟨rfl, hb4⟩; have HB4 := Lib.hid (HB3.out.trans (hb4.mono HB3.out.size)); clear hb4))
  have hcv : (convert 31 9 (.slice (some ⟨w4.heap.size, 0, none⟩) 3 3)).run Tryd.prog (w4.alloc (.cells #[.int .u8 c, .int .u8 (((s.size : Int) + 2) / 256), .int .u8 (((s.size : Int) + 2) % 256)] 5)) = .ok (.string M) (w4.alloc (.cells #[.int .u8 c, .int .u8 (((s.size : Int) + 2) / 256), .int .u8 (((s.size : Int) + 2) % 256)] 5)) := by
    rw [HM.out]
    exact conv_U (n := 3) (c := 3) (l := [c, ((s.size : Int) + 2) / 256, ((s.size : Int) + 2) % 256]) (Blk.new w4 5 #[.int .u8 c, .int .u8 (((s.size : Int) + 2) / 256), .int .u8 (((s.size : Int) + 2) % 256)]) rfl
  rw [hcv]
  clear hcv
  simp only [Result.andThen]
  rw [Oper.upon_value]
  go_wp2
  go_ret
  exact ⟨rfl, HB4.out.alloc HB4.out.size _⟩
set_option maxHeartbeats 2000000 in
theorem back_Quants (c : Int) (s : ByteArray) (hc : c = 219) (hs : s.size ≤ 65533) (hc0 : 192 ≤ c) (hc1 : c ≤ 254) (M : ByteArray) (hM : M = ⟨#[UInt8.ofNat c.toNat, UInt8.ofNat (((s.size : Int) + 2) / 256).toNat, UInt8.ofNat (((s.size : Int) + 2) % 256).toNat]⟩) (w : World) (hp : Calls Tryd.prog 9 #[.int .i64 c, .string s] w fun e w' => ∃ (A : Option Addr) (n cp : Nat), e = .returned (.tuple #[.iface 47 (.agg #[.slice A n cp]), .int .i64 0]) ∧ Below w.heap.size w w' ∧ Calls Tryd.prog 11 #[.iface 47 (.agg #[.slice A n cp])] w' fun e w'' => e = .returned (.tuple #[.string (⟨#[255]⟩ ++ M ++ s), .int .i64 0]) ∧ Below w'.heap.size w' w'') :
    Calls Tryd.prog 3 #[.int .i64 c, .string s] w fun e w' => e = .returned (.bool true) ∧ Below w.heap.size w w' := by
  subst hc
  have HP := Lib.hid hp; clear hp
  have hMz : M.size = 3 := by rw [hM]; rfl
  have HM := Lib.hid hM; clear hM
  have hz4 : ((⟨#[255]⟩ : ByteArray) ++ M).size ≤ 4 := by rw [ByteArray.size_append, hMz]; exact Nat.le_refl _
  go_enter Tryd.func3, Tryd.ntmps3
  go_wp2_with (first | (go_at_call 9; refine (HP.out).mono ?_; rintro ex w1 ⟨A, n, cp, rfl, hb1, hB⟩; have HB1 := Lib.hid hb1; have HBY := Lib.hid hB; clear hb1 hB) | (go_at_call 11; refine (HBY.out).mono ?_; rintro ex w2 ⟨rfl, hb2⟩; have HB2 := Lib.hid (HB1.out.trans (hb2.mono HB1.out.size)); clear hb2) | (go_at_call 10; refine (segAwake _).mono ?_; rintro ex w3 ⟨rfl, hb3⟩; have HB3 := Lib.hid (HB2.out.trans (hb3.mono HB2.out.size)); clear hb3) | (go_at_call 75; refine (codeQuants A n cp _).mono ?_; rintro ex w4 ⟨rfl, hb4⟩; have HB4 := Lib.hid (HB3.out.trans (hb4.mono HB3.out.size)); clear hb4))
  have hcv : (convert 31 9 (.slice (some ⟨w4.heap.size, 0, none⟩) 3 3)).run Tryd.prog (w4.alloc (.cells #[.int .u8 219, .int .u8 (((s.size : Int) + 2) / 256), .int .u8 (((s.size : Int) + 2) % 256)] 5)) = .ok (.string M) (w4.alloc (.cells #[.int .u8 219, .int .u8 (((s.size : Int) + 2) / 256), .int .u8 (((s.size : Int) + 2) % 256)] 5)) := by
    rw [HM.out]
    exact conv_U (n := 3) (c := 3) (l := [219, ((s.size : Int) + 2) / 256, ((s.size : Int) + 2) % 256]) (Blk.new w4 5 #[.int .u8 219, .int .u8 (((s.size : Int) + 2) / 256), .int .u8 (((s.size : Int) + 2) % 256)]) rfl
  rw [hcv]
  clear hcv
  simp only [Result.andThen]
  rw [Oper.upon_value]
  go_wp2
  go_ret
  exact ⟨rfl, HB4.out.alloc HB4.out.size _⟩
set_option maxHeartbeats 2000000 in
theorem back_Huffs (c : Int) (s : ByteArray) (hc : c = 196) (hs : s.size ≤ 65533) (hc0 : 192 ≤ c) (hc1 : c ≤ 254) (M : ByteArray) (hM : M = ⟨#[UInt8.ofNat c.toNat, UInt8.ofNat (((s.size : Int) + 2) / 256).toNat, UInt8.ofNat (((s.size : Int) + 2) % 256).toNat]⟩) (w : World) (hp : Calls Tryd.prog 9 #[.int .i64 c, .string s] w fun e w' => ∃ (A : Option Addr) (n cp : Nat), e = .returned (.tuple #[.iface 55 (.agg #[.slice A n cp]), .int .i64 0]) ∧ Below w.heap.size w w' ∧ Calls Tryd.prog 11 #[.iface 55 (.agg #[.slice A n cp])] w' fun e w'' => e = .returned (.tuple #[.string (⟨#[255]⟩ ++ M ++ s), .int .i64 0]) ∧ Below w'.heap.size w' w'') :
    Calls Tryd.prog 3 #[.int .i64 c, .string s] w fun e w' => e = .returned (.bool true) ∧ Below w.heap.size w w' := by
  subst hc
  have HP := Lib.hid hp; clear hp
  have hMz : M.size = 3 := by rw [hM]; rfl
  have HM := Lib.hid hM; clear hM
  have hz4 : ((⟨#[255]⟩ : ByteArray) ++ M).size ≤ 4 := by rw [ByteArray.size_append, hMz]; exact Nat.le_refl _
  go_enter Tryd.func3, Tryd.ntmps3
  go_wp2_with (first | (go_at_call 9; refine (HP.out).mono ?_; rintro ex w1 ⟨A, n, cp, rfl, hb1, hB⟩; have HB1 := Lib.hid hb1; have HBY := Lib.hid hB; clear hb1 hB) | (go_at_call 11; refine (HBY.out).mono ?_; rintro ex w2 ⟨rfl, hb2⟩; have HB2 := Lib.hid (HB1.out.trans (hb2.mono HB1.out.size)); clear hb2) | (go_at_call 10; refine (segAwake _).mono ?_; rintro ex w3 ⟨rfl, hb3⟩; have HB3 := Lib.hid (HB2.out.trans (hb3.mono HB2.out.size)); clear hb3) | (go_at_call 76; refine (codeHuffs A n cp _).mono ?_; rintro ex w4 ⟨rfl, hb4⟩; have HB4 := Lib.hid (HB3.out.trans (hb4.mono HB3.out.size)); clear hb4))
  have hcv : (convert 31 9 (.slice (some ⟨w4.heap.size, 0, none⟩) 3 3)).run Tryd.prog (w4.alloc (.cells #[.int .u8 196, .int .u8 (((s.size : Int) + 2) / 256), .int .u8 (((s.size : Int) + 2) % 256)] 5)) = .ok (.string M) (w4.alloc (.cells #[.int .u8 196, .int .u8 (((s.size : Int) + 2) / 256), .int .u8 (((s.size : Int) + 2) % 256)] 5)) := by
    rw [HM.out]
    exact conv_U (n := 3) (c := 3) (l := [196, ((s.size : Int) + 2) / 256, ((s.size : Int) + 2) % 256]) (Blk.new w4 5 #[.int .u8 196, .int .u8 (((s.size : Int) + 2) / 256), .int .u8 (((s.size : Int) + 2) % 256)]) rfl
  rw [hcv]
  clear hcv
  simp only [Result.andThen]
  rw [Oper.upon_value]
  go_wp2
  go_ret
  exact ⟨rfl, HB4.out.alloc HB4.out.size _⟩
set_option maxHeartbeats 2000000 in
theorem back_Frame (c : Int) (s : ByteArray) (hs : s.size ≤ 65533) (hc0 : 192 ≤ c) (hc1 : c ≤ 254) (M : ByteArray) (hM : M = ⟨#[UInt8.ofNat c.toNat, UInt8.ofNat (((s.size : Int) + 2) / 256).toNat, UInt8.ofNat (((s.size : Int) + 2) % 256).toNat]⟩) (w : World) (hp : Calls Tryd.prog 9 #[.int .i64 c, .string s] w fun e w' => ∃ (h ww : Int) (A : Option Addr) (n cp : Nat), e = .returned (.tuple #[.iface 65 (.agg #[.int .i64 c, .int .i64 h, .int .i64 ww, .slice A n cp]), .int .i64 0]) ∧ Below w.heap.size w w' ∧ Calls Tryd.prog 11 #[.iface 65 (.agg #[.int .i64 c, .int .i64 h, .int .i64 ww, .slice A n cp])] w' fun e w'' => e = .returned (.tuple #[.string (⟨#[255]⟩ ++ M ++ s), .int .i64 0]) ∧ Below w'.heap.size w' w'') :
    Calls Tryd.prog 3 #[.int .i64 c, .string s] w fun e w' => e = .returned (.bool true) ∧ Below w.heap.size w w' := by
  skip
  have HP := Lib.hid hp; clear hp
  have hMz : M.size = 3 := by rw [hM]; rfl
  have HM := Lib.hid hM; clear hM
  have hz4 : ((⟨#[255]⟩ : ByteArray) ++ M).size ≤ 4 := by rw [ByteArray.size_append, hMz]; exact Nat.le_refl _
  go_enter Tryd.func3, Tryd.ntmps3
  go_wp2_with (first | (go_at_call 9; refine (HP.out).mono ?_; rintro ex w1 ⟨h, ww, A, n, cp, rfl, hb1, hB⟩; have HB1 := Lib.hid hb1; have HBY := Lib.hid hB; clear hb1 hB) | (go_at_call 11; refine (HBY.out).mono ?_; rintro ex w2 ⟨rfl, hb2⟩; have HB2 := Lib.hid (HB1.out.trans (hb2.mono HB1.out.size)); clear hb2) | (go_at_call 10; refine (segAwake _).mono ?_; rintro ex w3 ⟨rfl, hb3⟩; have HB3 := Lib.hid (HB2.out.trans (hb3.mono HB2.out.size)); clear hb3) | (go_at_call 78; refine (codeFrame c h ww A n cp _).mono ?_; rintro ex w4 ⟨rfl, hb4⟩; have HB4 := Lib.hid (HB3.out.trans (hb4.mono HB3.out.size)); clear hb4))
  have hcv : (convert 31 9 (.slice (some ⟨w4.heap.size, 0, none⟩) 3 3)).run Tryd.prog (w4.alloc (.cells #[.int .u8 c, .int .u8 (((s.size : Int) + 2) / 256), .int .u8 (((s.size : Int) + 2) % 256)] 5)) = .ok (.string M) (w4.alloc (.cells #[.int .u8 c, .int .u8 (((s.size : Int) + 2) / 256), .int .u8 (((s.size : Int) + 2) % 256)] 5)) := by
    rw [HM.out]
    exact conv_U (n := 3) (c := 3) (l := [c, ((s.size : Int) + 2) / 256, ((s.size : Int) + 2) % 256]) (Blk.new w4 5 #[.int .u8 c, .int .u8 (((s.size : Int) + 2) / 256), .int .u8 (((s.size : Int) + 2) % 256)]) rfl
  rw [hcv]
  clear hcv
  simp only [Result.andThen]
  rw [Oper.upon_value]
  go_wp2
  go_ret
  exact ⟨rfl, HB4.out.alloc HB4.out.size _⟩
set_option maxHeartbeats 2000000 in
theorem back_Scan (c : Int) (s : ByteArray) (hc : c = 218) (hs : s.size ≤ 65533) (hc0 : 192 ≤ c) (hc1 : c ≤ 254) (M : ByteArray) (hM : M = ⟨#[UInt8.ofNat c.toNat, UInt8.ofNat (((s.size : Int) + 2) / 256).toNat, UInt8.ofNat (((s.size : Int) + 2) % 256).toNat]⟩) (w : World) (hp : Calls Tryd.prog 9 #[.int .i64 c, .string s] w fun e w' => ∃ (A : Option Addr) (n cp : Nat) (x1 x2 x3 x4 : Int), e = .returned (.tuple #[.iface 74 (.agg #[.slice A n cp, .int .i64 x1, .int .i64 x2, .int .i64 x3, .int .i64 x4]), .int .i64 0]) ∧ Below w.heap.size w w' ∧ Calls Tryd.prog 11 #[.iface 74 (.agg #[.slice A n cp, .int .i64 x1, .int .i64 x2, .int .i64 x3, .int .i64 x4])] w' fun e w'' => e = .returned (.tuple #[.string (⟨#[255]⟩ ++ M ++ s), .int .i64 0]) ∧ Below w'.heap.size w' w'') :
    Calls Tryd.prog 3 #[.int .i64 c, .string s] w fun e w' => e = .returned (.bool true) ∧ Below w.heap.size w w' := by
  subst hc
  have HP := Lib.hid hp; clear hp
  have hMz : M.size = 3 := by rw [hM]; rfl
  have HM := Lib.hid hM; clear hM
  have hz4 : ((⟨#[255]⟩ : ByteArray) ++ M).size ≤ 4 := by rw [ByteArray.size_append, hMz]; exact Nat.le_refl _
  go_enter Tryd.func3, Tryd.ntmps3
  go_wp2_with (first | (go_at_call 9; refine (HP.out).mono ?_; rintro ex w1 ⟨A, n, cp, x1, x2, x3, x4, rfl, hb1, hB⟩; have HB1 := Lib.hid hb1; have HBY := Lib.hid hB; clear hb1 hB) | (go_at_call 11; refine (HBY.out).mono ?_; rintro ex w2 ⟨rfl, hb2⟩; have HB2 := Lib.hid (HB1.out.trans (hb2.mono HB1.out.size)); clear hb2) | (go_at_call 10; refine (segAwake _).mono ?_; rintro ex w3 ⟨rfl, hb3⟩; have HB3 := Lib.hid (HB2.out.trans (hb3.mono HB2.out.size)); clear hb3) | (go_at_call 79; refine (codeScan A n cp x1 x2 x3 x4 _).mono ?_; rintro ex w4 ⟨rfl, hb4⟩; have HB4 := Lib.hid (HB3.out.trans (hb4.mono HB3.out.size)); clear hb4))
  have hcv : (convert 31 9 (.slice (some ⟨w4.heap.size, 0, none⟩) 3 3)).run Tryd.prog (w4.alloc (.cells #[.int .u8 218, .int .u8 (((s.size : Int) + 2) / 256), .int .u8 (((s.size : Int) + 2) % 256)] 5)) = .ok (.string M) (w4.alloc (.cells #[.int .u8 218, .int .u8 (((s.size : Int) + 2) / 256), .int .u8 (((s.size : Int) + 2) % 256)] 5)) := by
    rw [HM.out]
    exact conv_U (n := 3) (c := 3) (l := [218, ((s.size : Int) + 2) / 256, ((s.size : Int) + 2) % 256]) (Blk.new w4 5 #[.int .u8 218, .int .u8 (((s.size : Int) + 2) / 256), .int .u8 (((s.size : Int) + 2) % 256)]) rfl
  rw [hcv]
  clear hcv
  simp only [Result.andThen]
  rw [Oper.upon_value]
  go_wp2
  go_ret
  exact ⟨rfl, HB4.out.alloc HB4.out.size _⟩
set_option maxHeartbeats 2000000 in
theorem back_Restart (c : Int) (s : ByteArray) (hc : c = 221) (hs : s.size ≤ 65533) (hc0 : 192 ≤ c) (hc1 : c ≤ 254) (M : ByteArray) (hM : M = ⟨#[UInt8.ofNat c.toNat, UInt8.ofNat (((s.size : Int) + 2) / 256).toNat, UInt8.ofNat (((s.size : Int) + 2) % 256).toNat]⟩) (w : World) (hp : Calls Tryd.prog 9 #[.int .i64 c, .string s] w fun e w' => ∃ n : Int, e = .returned (.tuple #[.iface 61 (.agg #[.int .i64 n]), .int .i64 0]) ∧ Below w.heap.size w w' ∧ Calls Tryd.prog 11 #[.iface 61 (.agg #[.int .i64 n])] w' fun e w'' => e = .returned (.tuple #[.string (⟨#[255]⟩ ++ M ++ s), .int .i64 0]) ∧ Below w'.heap.size w' w'') :
    Calls Tryd.prog 3 #[.int .i64 c, .string s] w fun e w' => e = .returned (.bool true) ∧ Below w.heap.size w w' := by
  subst hc
  have HP := Lib.hid hp; clear hp
  have hMz : M.size = 3 := by rw [hM]; rfl
  have HM := Lib.hid hM; clear hM
  have hz4 : ((⟨#[255]⟩ : ByteArray) ++ M).size ≤ 4 := by rw [ByteArray.size_append, hMz]; exact Nat.le_refl _
  go_enter Tryd.func3, Tryd.ntmps3
  go_wp2_with (first | (go_at_call 9; refine (HP.out).mono ?_; rintro ex w1 ⟨n, rfl, hb1, hB⟩; have HB1 := Lib.hid hb1; have HBY := Lib.hid hB; clear hb1 hB) | (go_at_call 11; refine (HBY.out).mono ?_; rintro ex w2 ⟨rfl, hb2⟩; have HB2 := Lib.hid (HB1.out.trans (hb2.mono HB1.out.size)); clear hb2) | (go_at_call 10; refine (segAwake _).mono ?_; rintro ex w3 ⟨rfl, hb3⟩; have HB3 := Lib.hid (HB2.out.trans (hb3.mono HB2.out.size)); clear hb3) | (go_at_call 77; refine (codeRestart n _).mono ?_; rintro ex w4 ⟨rfl, hb4⟩; have HB4 := Lib.hid (HB3.out.trans (hb4.mono HB3.out.size)); clear hb4))
  have hcv : (convert 31 9 (.slice (some ⟨w4.heap.size, 0, none⟩) 3 3)).run Tryd.prog (w4.alloc (.cells #[.int .u8 221, .int .u8 (((s.size : Int) + 2) / 256), .int .u8 (((s.size : Int) + 2) % 256)] 5)) = .ok (.string M) (w4.alloc (.cells #[.int .u8 221, .int .u8 (((s.size : Int) + 2) / 256), .int .u8 (((s.size : Int) + 2) % 256)] 5)) := by
    rw [HM.out]
    exact conv_U (n := 3) (c := 3) (l := [221, ((s.size : Int) + 2) / 256, ((s.size : Int) + 2) % 256]) (Blk.new w4 5 #[.int .u8 221, .int .u8 (((s.size : Int) + 2) / 256), .int .u8 (((s.size : Int) + 2) % 256)]) rfl
  rw [hcv]
  clear hcv
  simp only [Result.andThen]
  rw [Oper.upon_value]
  go_wp2
  go_ret
  exact ⟨rfl, HB4.out.alloc HB4.out.size _⟩
theorem head_eq (c : Int) (h0 : 192 ≤ c) (h1 : c ≤ 254) : (⟨(putL (bits .or .i64 65280 c) 2).toArray⟩ : ByteArray) = ⟨#[255]⟩ ++ ⟨#[UInt8.ofNat c.toNat]⟩ := by
  obtain ⟨k, rfl⟩ := Int.eq_ofNat_of_zero_le (show 0 ≤ c by omega)
  have h : ∀ k : Fin 255, (⟨(putL (bits .or .i64 65280 ((k.val : Nat) : Int)) 2).toArray⟩ : ByteArray) = ⟨#[255]⟩ ++ ⟨#[UInt8.ofNat ((k.val : Nat) : Int).toNat]⟩ := by decide +kernel
  exact h ⟨k, by omega⟩
theorem bytes_eq (c : Int) (s : ByteArray) (h0 : 192 ≤ c) (h1 : c ≤ 254) (hs : s.size ≤ 65533) :
    (⟨(putL (bits .or .i64 65280 c) 2).toArray⟩ ++ ⟨(putL (s.data.toList.length + 2 : Nat) 2).toArray⟩ ++ ⟨s.data.toList.toArray⟩ : ByteArray) = ⟨#[255]⟩ ++ ⟨#[UInt8.ofNat c.toNat, UInt8.ofNat (((s.size : Int) + 2) / 256).toNat, UInt8.ofNat (((s.size : Int) + 2) % 256).toNat]⟩ ++ s := by
  rw [head_eq c h0 h1]
  have hl : s.data.toList.length = s.size := by rw [Array.length_toList]; rfl
  rw [hl]
  have e : putL ((s.size + 2 : Nat) : Int) 2 = [UInt8.ofNat (((s.size : Int) + 2) / 256).toNat, UInt8.ofNat (((s.size : Int) + 2) % 256).toNat] := by
    unfold putL
    rw [if_pos ⟨by omega, by show ((s.size + 2 : Nat) : Int) < 65536; omega⟩]
    simp only [byL, List.nil_append, List.cons_append]
    congr 2
    omega
  rw [e]
  apply ByteArray.ext
  simp [ByteArray.data_append]
theorem segBack_walk (c : Int) (s : ByteArray) (w : World) (hL : Laid w) : Calls Tryd.prog 3 #[.int .i64 c, .string s] w fun e w' => e = .returned (.bool true) ∧ Below w.heap.size w w' := by
  have hp := parse_walk c s w hL
  by_cases he : prE c s = 0
  · obtain ⟨b1, b2, b3, b4, b5⟩ := parse_back he
    obtain ⟨hm, hs⟩ := prE_may he
    have hr : 192 ≤ c ∧ c ≤ 254 := by have := mayC_zero hm; omega
    have hS : byS (prG c s) = ⟨#[255]⟩ ++ ⟨#[UInt8.ofNat c.toNat, UInt8.ofNat (((s.size : Int) + 2) / 256).toNat, UInt8.ofNat (((s.size : Int) + 2) % 256).toNat]⟩ ++ s := by
      rw [byS, if_pos b5, b1, b2]; exact bytes_eq c s hr.1 hr.2 hs
    have hY : ∀ w' v, Below w.heap.size w w' → SgV w' w.heap.size v (prG c s) → Calls Tryd.prog 11 #[v] w' fun e w'' => e = .returned (.tuple #[.string (⟨#[255]⟩ ++ ⟨#[UInt8.ofNat c.toNat, UInt8.ofNat (((s.size : Int) + 2) / 256).toNat, UInt8.ofNat (((s.size : Int) + 2) % 256).toNat]⟩ ++ s), .int .i64 0]) ∧ Below w'.heap.size w' w'' := fun w' v hb hv => by
      have := bytes_any (hL.below hb) hv b4
      rwa [hS, b5] at this
    rcases prG_cases he with ⟨h1, l, hG⟩ | ⟨h1, l, hG⟩ | ⟨h1, l, a, b, hi, lo, hG⟩ | ⟨h1, n, hG⟩ | ⟨h0, h1, h, ww, l, hG⟩ | ⟨h1, h0, hG⟩
    · refine back_Quants c s h1 hs hr.1 hr.2 _ rfl w (hp.mono ?_)
      rintro e w' ⟨v, rfl, hv, _, hb⟩
      have h2 := hv he
      have h3 := hY w' v hb h2
      rw [hG] at h2
      obtain ⟨u, rfl, hO⟩ := h2
      obtain ⟨A, n, cp, rfl⟩ := hO.form2
      exact ⟨A, n, cp, by rw [he], hb, h3⟩
    · refine back_Huffs c s h1 hs hr.1 hr.2 _ rfl w (hp.mono ?_)
      rintro e w' ⟨v, rfl, hv, _, hb⟩
      have h2 := hv he
      have h3 := hY w' v hb h2
      rw [hG] at h2
      obtain ⟨u, rfl, hO⟩ := h2
      obtain ⟨A, n, cp, rfl⟩ := hO.form2
      exact ⟨A, n, cp, by rw [he], hb, h3⟩
    · refine back_Scan c s h1 hs hr.1 hr.2 _ rfl w (hp.mono ?_)
      rintro e w' ⟨v, rfl, hv, _, hb⟩
      have h2 := hv he
      have h3 := hY w' v hb h2
      rw [hG] at h2
      obtain ⟨u, rfl, hO⟩ := h2
      obtain ⟨A, n, cp, rfl⟩ := hO.form2
      exact ⟨A, n, cp, a, b, hi, lo, by rw [he], hb, h3⟩
    · refine back_Restart c s h1 hs hr.1 hr.2 _ rfl w (hp.mono ?_)
      rintro e w' ⟨v, rfl, hv, _, hb⟩
      have h2 := hv he
      have h3 := hY w' v hb h2
      rw [hG] at h2
      obtain rfl := h2
      exact ⟨n, by rw [he], hb, h3⟩
    · refine back_Frame c s hs hr.1 hr.2 _ rfl w (hp.mono ?_)
      rintro e w' ⟨v, rfl, hv, _, hb⟩
      have h2 := hv he
      have h3 := hY w' v hb h2
      rw [hG] at h2
      obtain ⟨u, rfl, hO⟩ := h2
      obtain ⟨A, n, cp, rfl⟩ := hO.form2
      exact ⟨h, ww, A, n, cp, by rw [he], hb, h3⟩
    · refine back_Plain c s hs hr.1 hr.2 _ rfl w (hp.mono ?_)
      rintro e w' ⟨v, rfl, hv, _, hb⟩
      have h2 := hv he
      have h3 := hY w' v hb h2
      rw [hG] at h2
      obtain rfl := h2
      exact ⟨by rw [he], hb, h3⟩
  · have hp2 := Lib.hid (hp.mono (R' := fun e w' => e = .returned (.tuple #[.nilIface, .int .i64 (prE c s)]) ∧ Below w.heap.size w w') (by
      rintro e w' ⟨v, rfl, _, hv, hb⟩
      exact ⟨by rw [hv he], hb⟩))
    obtain ⟨er, her⟩ : ∃ er, er = prE c s := ⟨_, rfl⟩
    rw [← her] at hp2 he
    have d1 : (er == 0) = false := by simpa using he
    clear hp he her
    go_enter Tryd.func3, Tryd.ntmps3
    go_wp2_with (first | (go_at_call 9; refine (hp2.out).mono ?_; rintro ex w1 ⟨rfl, hb1⟩; have HB1 := Lib.hid hb1; clear hb1) | (go_at_call 10; refine (segAwake _).mono ?_; rintro ex w3 ⟨rfl, hb3⟩; have HB3 := Lib.hid (HB1.out.trans (hb3.mono HB1.out.size)); clear hb3))
    go_ret
    exact ⟨rfl, HB3.out⟩
namespace lawSegBack
open Go.ChangeShapes Go.WideShapes Go.ChangeAt Go.RowKit
theorem own : ownKnob Tryd.prog.godebug = none := by kernel_rfl
theorem laidOut : laidOutB Tryd.prog = true := by kernel_rfl
theorem gTab0 : Tryd.prog.globalNamed "aquatint/zig.order" = some 0 := by kernel_rfl
theorem gTabType0 : (Tryd.prog.globals[0]?).map (·.type) = some 136 := by kernel_rfl
theorem cellsT : Tryd.prog.cellsOf 136 = 64 := by kernel_rfl
theorem cellsE : Tryd.prog.cellsOf 3 = 1 := by kernel_rfl
theorem table {W : World} (h : laidMetH Tryd.prog Rows.segBackRow.laid W) : Lib.TabIs Tryd.prog W "aquatint/zig.order" .i64 (ordL.map fun (n : Nat) => (n : Int)) :=
  Lib.tabIs_of_head (rest := []) gTab0 gTabType0 Tryd.underlying136 Tryd.underlying3 cellsE cellsT h
theorem laid_of {W : World} (h : laidMetH Tryd.prog Rows.segBackRow.laid W) : Laid W := by
  have H : ∀ k, k < 64 → W.cell? ⟨0, k, none⟩ = some (.int .i64 (ord k)) := fun k hk => by
    have h1 := (table h).cell gTab0 k (by simpa [ordL] using hk)
    rw [h1]
    have h2 : ord k = ordL[k]'(by simpa [ordL] using hk) := by
      unfold ord
      rw [List.getD_eq_getElem?_getD, List.getElem?_eq_getElem (by simpa [ordL] using hk)]
      rfl
    rw [h2, List.getD_eq_getElem?_getD, List.getElem?_map, List.getElem?_eq_getElem (by simpa [ordL] using hk)]
    rfl
  exact ⟨block_lt_of_cell (H 0 (by omega)), H⟩
open Go.ChangeMaps (open_string shut_string)
theorem contract (H : Type) (enc : TypeId × Value → H) (W : World) (base : Nat) (args : Array Value) (ds gs : List (DataW H)) (before : List MemPlace)
    (hval : ∀ (j : Nat) t v, Tryd.f3.params[j]? = some t → args[j]? = some v → Value.okWide Tryd.prog W .any base t v)
    (hW : DataW.Whole enc Tryd.prog Tryd.f3.params.toList Rows.segBackSpec.vars false W args.toList ds gs before) (hL : laidMetH Tryd.prog Rows.segBackRow.laid W) (_hsz : (DataW.weightsEach Tryd.prog (Tryd.f3.params.toList ++ (OpenSpec.ofChange Rows.segBackSpec).bare.plain.varTypes Tryd.prog) (ds ++ gs)).all (· ≤ reachBytes) = true) :
    Calls Tryd.prog 3 args W fun e W' => ∃ v, e = .returned v ∧ Rows.segBackSpec.post enc Tryd.prog Tryd.f3 false true false false W args v W' := by
  have hW' := hW
  obtain ⟨p, q, hA0, hV, hbefore, hfz, hnd⟩ := hW
  obtain ⟨rfl, rfl⟩ := trodVars_none hV
  have hA : DataW.TrodAll enc Tryd.prog W 0 (fun _ => true) true Tryd.f3.params.toList args.toList ds p := hA0
  rw [Tryd.params3] at hA hval
  obtain ⟨v0, vs1, d0, ds1, p0, q0, hargs, rfl, hps, h0, r0⟩ := trodAll_cons hA
  obtain ⟨v1, vs2, d1, ds2, p1, q1, rfl, rfl, rfl, h1, r1⟩ := trodAll_cons r0
  obtain ⟨rfl, rfl, rfl⟩ := trodAll_nil r1
  obtain rfl : args = #[v0, v1] := by cases args; simp_all
  have o0 := hval 0 3 v0 rfl rfl
  have o1 := hval 1 9 v1 rfl rfl
  clear hA0
  obtain ⟨x, rfl, rfl, rfl, wx⟩ := open_int Tryd.underlying3 o0 h0
  obtain ⟨y, rfl, rfl, rfl, wy⟩ := open_string Tryd.underlying9 o1 h1
  refine (segBack_walk x y W (laid_of hL)).mono fun e W' ⟨he, hb⟩ => ?_
  subst he
  exact ⟨_, rfl, law_post laidOut (by rw [Tryd.params3]; intro t ht; simp only [List.mem_cons, List.not_mem_nil, or_false] at ht; rcases ht with rfl | rfl <;> exact ⟨by kernel_rfl, of_decide_eq_true (by kernel_rfl)⟩) (by kernel_rfl) Tryd.underlying4 hW' rfl rfl hb⟩
theorem gTab : Tryd.prog.globalNamed "aquatint/zig.order" = some 0 := by kernel_rfl
theorem gTabType : (Tryd.prog.globals[0]?).map (·.type) = some 136 := by kernel_rfl
/-- A world for the witness: the settled one, the table holding what its initialiser lays. -/
noncomputable def laidWorld (os : Os) : World :=
  { World.holding Tryd.prog os ⟨#[], #[], []⟩ with heap := (World.holding Tryd.prog os ⟨#[], #[], []⟩).heap.modify 0 fun
      | .cells _ t frozen => .cells #[.int .i64 0, .int .i64 1, .int .i64 8, .int .i64 16, .int .i64 9, .int .i64 2, .int .i64 3, .int .i64 10, .int .i64 17, .int .i64 24, .int .i64 32, .int .i64 25, .int .i64 18, .int .i64 11, .int .i64 4, .int .i64 5, .int .i64 12, .int .i64 19, .int .i64 26, .int .i64 33, .int .i64 40, .int .i64 48, .int .i64 41, .int .i64 34, .int .i64 27, .int .i64 20, .int .i64 13, .int .i64 6, .int .i64 7, .int .i64 14, .int .i64 21, .int .i64 28, .int .i64 35, .int .i64 42, .int .i64 49, .int .i64 56, .int .i64 57, .int .i64 50, .int .i64 43, .int .i64 36, .int .i64 29, .int .i64 22, .int .i64 15, .int .i64 23, .int .i64 30, .int .i64 37, .int .i64 44, .int .i64 51, .int .i64 58, .int .i64 59, .int .i64 52, .int .i64 45, .int .i64 38, .int .i64 31, .int .i64 39, .int .i64 46, .int .i64 53, .int .i64 60, .int .i64 61, .int .i64 54, .int .i64 47, .int .i64 55, .int .i64 62, .int .i64 63] t frozen
      | o => o }
theorem laid_met (os : Os) : laidMet Tryd.prog Rows.segBackRow.laid ((laidWorld os).forCall (fun _ _ => 0) ⟨#[], #[Value.int .i64 0, Value.string ⟨#[]⟩], []⟩).memory :=
  laidMet_of_run' 8 (by kernel_rfl) (by kernel_rfl)
theorem reads (os : Os) {H : Type} (enc : TypeId × Value → H) : ∃ places, DataW.whole enc Tryd.prog ((laidWorld os).forCall (fun _ _ => 0) ⟨#[], #[Value.int .i64 0, Value.string ⟨#[]⟩], []⟩).memory Tryd.f3.params.toList Rows.segBackSpec.vars false #[Value.int .i64 0, Value.string ⟨#[]⟩].toList 8 = some ([.lit (.int .i64 0), .lit (.string [])], [], places) :=
  ⟨[], by kernel_rfl⟩
set_option maxRecDepth 100000 in
theorem lifted (os : Os) (started : os.Started) (H : Type) (enc : TypeId × Value → H) (F : Stop.Interp) :
    ReturnsInHanded {} Tryd.checked os 3 .any ((OpenSpec.ofChange Rows.segBackSpec).preRow enc Tryd.prog Tryd.f3 Rows.segBackRow.domain false Rows.segBackRow.laid) (((OpenSpec.ofChange Rows.segBackSpec).at F).post enc Tryd.prog Tryd.f3 false true false false) := by
  obtain ⟨places, hx⟩ := reads os enc
  refine returnsInHanded_of_row (C := Tryd.checked) (s := (OpenSpec.ofChange Rows.segBackSpec)) own started (by kernel_rfl) Tryd.func3
    (witness_row_at (enc := enc) (C := Tryd.checked) false (laidWorld os) #[Value.int .i64 0, Value.string ⟨#[]⟩] rfl (by kernel_rfl) (by kernel_rfl) (by kernel_rfl)
      (OpenSpec.preRow_of_cond 8 hx (by kernel_rfl) (fun k hk => by cases hk) (by kernel_rfl) (laid_met os))) ?_
  intro W base args ds gs before hval hW _ _ hsz hL _ _
  exact contract H enc W base args ds gs before hval hW hL hsz
theorem said : Rows.SegBackSaid :=
  OpenClaim.holds_of_cond 3 Tryd.f3 rfl rfl rfl rfl rfl rfl rfl ⟨rfl, rfl, rfl, rfl, rfl⟩ rfl rfl rfl rfl rfl (by kernel_rfl) Tryd.func3 (by kernel_rfl)
    (of_decide_eq_true (by kernel_rfl)) (by unfold Func.isWrapper; first | (rw [if_pos (by decide +kernel)]; kernel_rfl) | (rw [if_neg (by decide +kernel)]; exact ⟨rfl, rfl⟩))
    (fun os started H enc _ F => by rw [OpenClaim.pre_eq_preRow]; exact lifted os started H enc F)
theorem plain (f : FuncId) (fn : Func) (hf : Tryd.pinned.checked.prog.funcNamed "aquatint/aquatintlaw07.SegBack" = some f) (hfn : Tryd.pinned.checked.prog.funcs[f]? = some fn) :
    true = Tryd.pinned.checked.prog.looks [] ∧ ∀ (j : Nat) t, fn.params[j]? = some t → Tryd.pinned.checked.prog.wantsStandIn t = false := by
  obtain rfl : f = 3 := Option.some.inj ((show Tryd.prog.funcNamed "aquatint/aquatintlaw07.SegBack" = some 3 by kernel_rfl).symm.trans hf) |>.symm
  obtain rfl : fn = Tryd.f3 := (Option.some.inj (Tryd.func3.symm.trans hfn)).symm
  refine ⟨by kernel_rfl, fun j t ht => ?_⟩
  rw [Tryd.params3] at ht
  have hm := Array.mem_of_getElem? ht
  simp only [List.mem_toArray, List.mem_cons, List.not_mem_nil, or_false] at hm
  rcases hm with rfl | rfl
  · exact (show Tryd.prog.wantsStandIn 3 = false by kernel_rfl)
  · exact (show Tryd.prog.wantsStandIn 9 = false by kernel_rfl)
/-- The card. -/
theorem card : Rows.SegBackCardSaid :=
  Claim7.holds_tied_plain_at .later [] _ _ _ _ said (fun _ h => by cases h) (by kernel_rfl) (fun _ h => by cases h) segBack_row_tie rfl ⟨rfl, rfl⟩ (by kernel_rfl) rfl plain (by kernel_rfl)
#print axioms card
end lawSegBack
end Go.Proofs.YtdohhhkondokkaaDoor
