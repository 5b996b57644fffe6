/- IsFrame, IsScan, IsTag, MustFrame, of each kind of segment (gen_segq.py). -/
import Derived.Test.YtdohhhkondokkaaDoorSegH
import Derived.Handy
namespace Go.Proofs.YtdohhhkondokkaaDoor
open Go.RowKit
set_option linter.unusedSimpArgs false
set_option linter.unusedVariables false
set_option maxRecDepth 100000
theorem isFrame_Plain (c : Int) (b : ByteArray) (w : World) : Calls Tryd.prog 16 #[.iface 93 (.agg #[.int .i64 c, .string b])] w fun e w' => e = .returned (.tuple #[.agg #[.int .i64 0, .int .i64 0, .int .i64 0, .slice none 0 0], .bool false]) ∧ Below w.heap.size w w' := by
  go_enter Tryd.func16, Tryd.ntmps16
  go_wp2
  refine bodyPost_ret (v := .tuple #[.agg #[.int .i64 0, .int .i64 0, .int .i64 0, .slice none 0 0], .bool false]) (by simp [results, Tryd.results16, go_sem]) rfl ⟨rfl, ?_⟩
  first | exact below2 _ _ _ | (have h1 := below2 w _ _; exact h1.setCell (by simp) _)
theorem isFrame_Quants (u : Value) (w : World) : Calls Tryd.prog 16 #[.iface 47 (.agg #[u])] w fun e w' => e = .returned (.tuple #[.agg #[.int .i64 0, .int .i64 0, .int .i64 0, .slice none 0 0], .bool false]) ∧ Below w.heap.size w w' := by
  go_enter Tryd.func16, Tryd.ntmps16
  go_wp2
  refine bodyPost_ret (v := .tuple #[.agg #[.int .i64 0, .int .i64 0, .int .i64 0, .slice none 0 0], .bool false]) (by simp [results, Tryd.results16, go_sem]) rfl ⟨rfl, ?_⟩
  first | exact below2 _ _ _ | (have h1 := below2 w _ _; exact h1.setCell (by simp) _)
theorem isFrame_Huffs (u : Value) (w : World) : Calls Tryd.prog 16 #[.iface 55 (.agg #[u])] w fun e w' => e = .returned (.tuple #[.agg #[.int .i64 0, .int .i64 0, .int .i64 0, .slice none 0 0], .bool false]) ∧ Below w.heap.size w w' := by
  go_enter Tryd.func16, Tryd.ntmps16
  go_wp2
  refine bodyPost_ret (v := .tuple #[.agg #[.int .i64 0, .int .i64 0, .int .i64 0, .slice none 0 0], .bool false]) (by simp [results, Tryd.results16, go_sem]) rfl ⟨rfl, ?_⟩
  first | exact below2 _ _ _ | (have h1 := below2 w _ _; exact h1.setCell (by simp) _)
theorem isFrame_Frame (c h ww : Int) (A : Option Addr) (n cp : Nat) (w : World) : Calls Tryd.prog 16 #[.iface 65 (.agg #[.int .i64 c, .int .i64 h, .int .i64 ww, .slice A n cp])] w fun e w' => e = .returned (.tuple #[.agg #[.int .i64 c, .int .i64 h, .int .i64 ww, .slice A n cp], .bool true]) ∧ Below w.heap.size w w' := by
  go_enter Tryd.func16, Tryd.ntmps16
  go_wp2
  refine bodyPost_ret (v := .tuple #[.agg #[.int .i64 c, .int .i64 h, .int .i64 ww, .slice A n cp], .bool true]) (by simp [results, Tryd.results16, go_sem]) rfl ⟨rfl, ?_⟩
  first | exact below2 _ _ _ | (have h1 := below2 w _ _; exact h1.setCell (by simp) _)
theorem isFrame_Scan (A : Option Addr) (n cp : Nat) (x1 x2 x3 x4 : Int) (w : World) : Calls Tryd.prog 16 #[.iface 74 (.agg #[.slice A n cp, .int .i64 x1, .int .i64 x2, .int .i64 x3, .int .i64 x4])] w fun e w' => e = .returned (.tuple #[.agg #[.int .i64 0, .int .i64 0, .int .i64 0, .slice none 0 0], .bool false]) ∧ Below w.heap.size w w' := by
  go_enter Tryd.func16, Tryd.ntmps16
  go_wp2
  refine bodyPost_ret (v := .tuple #[.agg #[.int .i64 0, .int .i64 0, .int .i64 0, .slice none 0 0], .bool false]) (by simp [results, Tryd.results16, go_sem]) rfl ⟨rfl, ?_⟩
  first | exact below2 _ _ _ | (have h1 := below2 w _ _; exact h1.setCell (by simp) _)
theorem isFrame_Restart (n : Int) (w : World) : Calls Tryd.prog 16 #[.iface 61 (.agg #[.int .i64 n])] w fun e w' => e = .returned (.tuple #[.agg #[.int .i64 0, .int .i64 0, .int .i64 0, .slice none 0 0], .bool false]) ∧ Below w.heap.size w w' := by
  go_enter Tryd.func16, Tryd.ntmps16
  go_wp2
  refine bodyPost_ret (v := .tuple #[.agg #[.int .i64 0, .int .i64 0, .int .i64 0, .slice none 0 0], .bool false]) (by simp [results, Tryd.results16, go_sem]) rfl ⟨rfl, ?_⟩
  first | exact below2 _ _ _ | (have h1 := below2 w _ _; exact h1.setCell (by simp) _)
theorem isFrame_Nil  (w : World) : Calls Tryd.prog 16 #[.nilIface] w fun e w' => e = .returned (.tuple #[.agg #[.int .i64 0, .int .i64 0, .int .i64 0, .slice none 0 0], .bool false]) ∧ Below w.heap.size w w' := by
  go_enter Tryd.func16, Tryd.ntmps16
  go_wp2
  refine bodyPost_ret (v := .tuple #[.agg #[.int .i64 0, .int .i64 0, .int .i64 0, .slice none 0 0], .bool false]) (by simp [results, Tryd.results16, go_sem]) rfl ⟨rfl, ?_⟩
  first | exact below2 _ _ _ | (have h1 := below2 w _ _; exact h1.setCell (by simp) _)
theorem isScan_Plain (c : Int) (b : ByteArray) (w : World) : Calls Tryd.prog 17 #[.iface 93 (.agg #[.int .i64 c, .string b])] w fun e w' => e = .returned (.tuple #[.agg #[.slice none 0 0, .int .i64 0, .int .i64 0, .int .i64 0, .int .i64 0], .bool false]) ∧ Below w.heap.size w w' := by
  go_enter Tryd.func17, Tryd.ntmps17
  go_wp2
  refine bodyPost_ret (v := .tuple #[.agg #[.slice none 0 0, .int .i64 0, .int .i64 0, .int .i64 0, .int .i64 0], .bool false]) (by simp [results, Tryd.results17, go_sem]) rfl ⟨rfl, ?_⟩
  first | exact below2 _ _ _ | (have h1 := below2 w _ _; exact h1.setCell (by simp) _)
theorem isScan_Quants (u : Value) (w : World) : Calls Tryd.prog 17 #[.iface 47 (.agg #[u])] w fun e w' => e = .returned (.tuple #[.agg #[.slice none 0 0, .int .i64 0, .int .i64 0, .int .i64 0, .int .i64 0], .bool false]) ∧ Below w.heap.size w w' := by
  go_enter Tryd.func17, Tryd.ntmps17
  go_wp2
  refine bodyPost_ret (v := .tuple #[.agg #[.slice none 0 0, .int .i64 0, .int .i64 0, .int .i64 0, .int .i64 0], .bool false]) (by simp [results, Tryd.results17, go_sem]) rfl ⟨rfl, ?_⟩
  first | exact below2 _ _ _ | (have h1 := below2 w _ _; exact h1.setCell (by simp) _)
theorem isScan_Huffs (u : Value) (w : World) : Calls Tryd.prog 17 #[.iface 55 (.agg #[u])] w fun e w' => e = .returned (.tuple #[.agg #[.slice none 0 0, .int .i64 0, .int .i64 0, .int .i64 0, .int .i64 0], .bool false]) ∧ Below w.heap.size w w' := by
  go_enter Tryd.func17, Tryd.ntmps17
  go_wp2
  refine bodyPost_ret (v := .tuple #[.agg #[.slice none 0 0, .int .i64 0, .int .i64 0, .int .i64 0, .int .i64 0], .bool false]) (by simp [results, Tryd.results17, go_sem]) rfl ⟨rfl, ?_⟩
  first | exact below2 _ _ _ | (have h1 := below2 w _ _; exact h1.setCell (by simp) _)
theorem isScan_Frame (c h ww : Int) (A : Option Addr) (n cp : Nat) (w : World) : Calls Tryd.prog 17 #[.iface 65 (.agg #[.int .i64 c, .int .i64 h, .int .i64 ww, .slice A n cp])] w fun e w' => e = .returned (.tuple #[.agg #[.slice none 0 0, .int .i64 0, .int .i64 0, .int .i64 0, .int .i64 0], .bool false]) ∧ Below w.heap.size w w' := by
  go_enter Tryd.func17, Tryd.ntmps17
  go_wp2
  refine bodyPost_ret (v := .tuple #[.agg #[.slice none 0 0, .int .i64 0, .int .i64 0, .int .i64 0, .int .i64 0], .bool false]) (by simp [results, Tryd.results17, go_sem]) rfl ⟨rfl, ?_⟩
  first | exact below2 _ _ _ | (have h1 := below2 w _ _; exact h1.setCell (by simp) _)
theorem isScan_Scan (A : Option Addr) (n cp : Nat) (x1 x2 x3 x4 : Int) (w : World) : Calls Tryd.prog 17 #[.iface 74 (.agg #[.slice A n cp, .int .i64 x1, .int .i64 x2, .int .i64 x3, .int .i64 x4])] w fun e w' => e = .returned (.tuple #[.agg #[.slice A n cp, .int .i64 x1, .int .i64 x2, .int .i64 x3, .int .i64 x4], .bool true]) ∧ Below w.heap.size w w' := by
  go_enter Tryd.func17, Tryd.ntmps17
  go_wp2
  refine bodyPost_ret (v := .tuple #[.agg #[.slice A n cp, .int .i64 x1, .int .i64 x2, .int .i64 x3, .int .i64 x4], .bool true]) (by simp [results, Tryd.results17, go_sem]) rfl ⟨rfl, ?_⟩
  first | exact below2 _ _ _ | (have h1 := below2 w _ _; exact h1.setCell (by simp) _)
theorem isScan_Restart (n : Int) (w : World) : Calls Tryd.prog 17 #[.iface 61 (.agg #[.int .i64 n])] w fun e w' => e = .returned (.tuple #[.agg #[.slice none 0 0, .int .i64 0, .int .i64 0, .int .i64 0, .int .i64 0], .bool false]) ∧ Below w.heap.size w w' := by
  go_enter Tryd.func17, Tryd.ntmps17
  go_wp2
  refine bodyPost_ret (v := .tuple #[.agg #[.slice none 0 0, .int .i64 0, .int .i64 0, .int .i64 0, .int .i64 0], .bool false]) (by simp [results, Tryd.results17, go_sem]) rfl ⟨rfl, ?_⟩
  first | exact below2 _ _ _ | (have h1 := below2 w _ _; exact h1.setCell (by simp) _)
theorem isScan_Nil  (w : World) : Calls Tryd.prog 17 #[.nilIface] w fun e w' => e = .returned (.tuple #[.agg #[.slice none 0 0, .int .i64 0, .int .i64 0, .int .i64 0, .int .i64 0], .bool false]) ∧ Below w.heap.size w w' := by
  go_enter Tryd.func17, Tryd.ntmps17
  go_wp2
  refine bodyPost_ret (v := .tuple #[.agg #[.slice none 0 0, .int .i64 0, .int .i64 0, .int .i64 0, .int .i64 0], .bool false]) (by simp [results, Tryd.results17, go_sem]) rfl ⟨rfl, ?_⟩
  first | exact below2 _ _ _ | (have h1 := below2 w _ _; exact h1.setCell (by simp) _)
theorem isTag_Plain (c : Int) (b : ByteArray) (w : World) : Calls Tryd.prog 18 #[.iface 93 (.agg #[.int .i64 c, .string b])] w fun e w' => e = .returned (.tuple #[.agg #[.int .i64 c, .string b], .bool true]) ∧ Below w.heap.size w w' := by
  go_enter Tryd.func18, Tryd.ntmps18
  go_wp2
  refine bodyPost_ret (v := .tuple #[.agg #[.int .i64 c, .string b], .bool true]) (by simp [results, Tryd.results18, go_sem]) rfl ⟨rfl, ?_⟩
  first | exact below2 _ _ _ | (have h1 := below2 w _ _; exact h1.setCell (by simp) _)
theorem isTag_Quants (u : Value) (w : World) : Calls Tryd.prog 18 #[.iface 47 (.agg #[u])] w fun e w' => e = .returned (.tuple #[.agg #[.int .i64 0, .string ByteArray.empty], .bool false]) ∧ Below w.heap.size w w' := by
  go_enter Tryd.func18, Tryd.ntmps18
  go_wp2
  refine bodyPost_ret (v := .tuple #[.agg #[.int .i64 0, .string ByteArray.empty], .bool false]) (by simp [results, Tryd.results18, go_sem]) rfl ⟨rfl, ?_⟩
  first | exact below2 _ _ _ | (have h1 := below2 w _ _; exact h1.setCell (by simp) _)
theorem isTag_Huffs (u : Value) (w : World) : Calls Tryd.prog 18 #[.iface 55 (.agg #[u])] w fun e w' => e = .returned (.tuple #[.agg #[.int .i64 0, .string ByteArray.empty], .bool false]) ∧ Below w.heap.size w w' := by
  go_enter Tryd.func18, Tryd.ntmps18
  go_wp2
  refine bodyPost_ret (v := .tuple #[.agg #[.int .i64 0, .string ByteArray.empty], .bool false]) (by simp [results, Tryd.results18, go_sem]) rfl ⟨rfl, ?_⟩
  first | exact below2 _ _ _ | (have h1 := below2 w _ _; exact h1.setCell (by simp) _)
theorem isTag_Frame (c h ww : Int) (A : Option Addr) (n cp : Nat) (w : World) : Calls Tryd.prog 18 #[.iface 65 (.agg #[.int .i64 c, .int .i64 h, .int .i64 ww, .slice A n cp])] w fun e w' => e = .returned (.tuple #[.agg #[.int .i64 0, .string ByteArray.empty], .bool false]) ∧ Below w.heap.size w w' := by
  go_enter Tryd.func18, Tryd.ntmps18
  go_wp2
  refine bodyPost_ret (v := .tuple #[.agg #[.int .i64 0, .string ByteArray.empty], .bool false]) (by simp [results, Tryd.results18, go_sem]) rfl ⟨rfl, ?_⟩
  first | exact below2 _ _ _ | (have h1 := below2 w _ _; exact h1.setCell (by simp) _)
theorem isTag_Scan (A : Option Addr) (n cp : Nat) (x1 x2 x3 x4 : Int) (w : World) : Calls Tryd.prog 18 #[.iface 74 (.agg #[.slice A n cp, .int .i64 x1, .int .i64 x2, .int .i64 x3, .int .i64 x4])] w fun e w' => e = .returned (.tuple #[.agg #[.int .i64 0, .string ByteArray.empty], .bool false]) ∧ Below w.heap.size w w' := by
  go_enter Tryd.func18, Tryd.ntmps18
  go_wp2
  refine bodyPost_ret (v := .tuple #[.agg #[.int .i64 0, .string ByteArray.empty], .bool false]) (by simp [results, Tryd.results18, go_sem]) rfl ⟨rfl, ?_⟩
  first | exact below2 _ _ _ | (have h1 := below2 w _ _; exact h1.setCell (by simp) _)
theorem isTag_Restart (n : Int) (w : World) : Calls Tryd.prog 18 #[.iface 61 (.agg #[.int .i64 n])] w fun e w' => e = .returned (.tuple #[.agg #[.int .i64 0, .string ByteArray.empty], .bool false]) ∧ Below w.heap.size w w' := by
  go_enter Tryd.func18, Tryd.ntmps18
  go_wp2
  refine bodyPost_ret (v := .tuple #[.agg #[.int .i64 0, .string ByteArray.empty], .bool false]) (by simp [results, Tryd.results18, go_sem]) rfl ⟨rfl, ?_⟩
  first | exact below2 _ _ _ | (have h1 := below2 w _ _; exact h1.setCell (by simp) _)
theorem isTag_Nil  (w : World) : Calls Tryd.prog 18 #[.nilIface] w fun e w' => e = .returned (.tuple #[.agg #[.int .i64 0, .string ByteArray.empty], .bool false]) ∧ Below w.heap.size w w' := by
  go_enter Tryd.func18, Tryd.ntmps18
  go_wp2
  refine bodyPost_ret (v := .tuple #[.agg #[.int .i64 0, .string ByteArray.empty], .bool false]) (by simp [results, Tryd.results18, go_sem]) rfl ⟨rfl, ?_⟩
  first | exact below2 _ _ _ | (have h1 := below2 w _ _; exact h1.setCell (by simp) _)
@[go_sem] theorem asMust_Frame (v : Value) (w : World) : (Instr.typeAssert (.iface 65 v) 23 65 false).run Tryd.prog w = .ok v w := by kernel_rfl
theorem mustFrame_ok (c h ww : Int) (A : Option Addr) (n cp : Nat) (w : World) : Calls Tryd.prog 19 #[.iface 65 (.agg #[.int .i64 c, .int .i64 h, .int .i64 ww, .slice A n cp])] w fun e w' => e = .returned (.agg #[.int .i64 c, .int .i64 h, .int .i64 ww, .slice A n cp]) ∧ Below w.heap.size w w' := by
  go_enter Tryd.func19, Tryd.ntmps19
  go_wp2
  refine bodyPost_ret (v := .agg #[.int .i64 c, .int .i64 h, .int .i64 ww, .slice A n cp]) (by simp [results, Tryd.results19, go_sem]) rfl ⟨rfl, ?_⟩
  exact (Below.refl _ _).alloc (Nat.le_refl _) _
end Go.Proofs.YtdohhhkondokkaaDoor
