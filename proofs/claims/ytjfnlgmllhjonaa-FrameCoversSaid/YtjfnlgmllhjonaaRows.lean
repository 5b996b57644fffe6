/-
  No cell of these rows narrows 'for every input' (looked for: loops, veiled, ifaces, maps, wideKeys, modest, calm, conditions, laid).
  DERIVED. THE GIVEN ROWS OF THIS SEAT. 4 by the template 'for every input the law returns true; each argument reads behind the call as it read before'; 0 by the template 'total and deterministic' (their statements: YtjfnlgmllhjonaaTotals.lean).
  GIVEN WITH THE SEED: the statements are not yours to turn. If you find one false, say at which input.
  Laid BY PROGRAM, IN A SANDBOX (cutbox-rows.mjs): the forced cells as the released guide's own fill.sh prints them over the translation b81af7c166e4b3ca… (all of the seat's roots in one cut). By AI agents, Wed Nov 11 2026. No macro, syntax, notation, axiom, sorry.
-/
import Derived.Test.YtjfnlgmllhjonaaChecked
import GoSem.Claim
import GoSem.ClaimJoined
import GoSem.ClaimMapViews
import Derived.JoinedTies
import Derived.KernelRfl
namespace Go.Proofs.Ytjfnlgmllhjonaa
/- THE CELL 'sum', in the pinned program and in every row, IS THE sha256 OF THE DUMP (.gsa) THAT YtjfnlgmllhjonaaProg.lean LOADS. Nothing in Lean hashes anything: it is a label: what it is worth is what the hold of that sum in a sandbox is worth. -/
noncomputable def Try.pinned : Pinned := { name := "ytjfnlgmllhjonaa", sum := "b81af7c166e4b3ca127ac8dee39dac44142aedc6871f07dad7a3cc3b0eabdc0c", checked := Try.checked }
namespace Rows
def none {H : Type} : Left H := { results := [], args := [] }

/-- 'aquatintlaw09.FrameOwns': WHATEVER THE INPUT: true; the input reads as it did. -/
def frameOwnsSpec : ChangeSpec := { name := "frameOwns", fn := fun _ => fun
  | [d1, d2, d3] => { results := [.lit (.bool true)], args := [d1, d2, d3] }
  | _ => none }
def frameOwnsRow : OpenClaim := { program := "ytjfnlgmllhjonaa", sum := "b81af7c166e4b3ca127ac8dee39dac44142aedc6871f07dad7a3cc3b0eabdc0c", func := "aquatint/aquatintlaw09.FrameOwns", spec := "frameOwns", unfollowed := true, recurses := true, apart := false }
def FrameOwnsSaid : Prop := frameOwnsRow.holds Try.pinned (OpenSpec.ofChange frameOwnsSpec)

/-- ITS FALSE NEIGHBOUR: 'it returns false'. Refute it at one input. -/
def frameOwnsWrong : ChangeSpec := { name := "frameOwns", fn := fun _ => fun
  | [d1, d2, d3] => { results := [.lit (.bool false)], args := [d1, d2, d3] }
  | _ => none }
def FrameOwnsWrongFalsely : Prop := frameOwnsRow.holds Try.pinned (OpenSpec.ofChange frameOwnsWrong)

/-- 'aquatintlaw09.FrameMakes': WHATEVER THE INPUT: true; the input reads as it did. -/
def frameMakesSpec : ChangeSpec := { name := "frameMakes", fn := fun _ => fun
  | [d1, d2, d3, d4] => { results := [.lit (.bool true)], args := [d1, d2, d3, d4] }
  | _ => none }
def frameMakesRow : OpenClaim := { program := "ytjfnlgmllhjonaa", sum := "b81af7c166e4b3ca127ac8dee39dac44142aedc6871f07dad7a3cc3b0eabdc0c", func := "aquatint/aquatintlaw09.FrameMakes", spec := "frameMakes", unfollowed := true, recurses := true, apart := false }
def FrameMakesSaid : Prop := frameMakesRow.holds Try.pinned (OpenSpec.ofChange frameMakesSpec)

/-- ITS FALSE NEIGHBOUR: 'it returns false'. Refute it at one input. -/
def frameMakesWrong : ChangeSpec := { name := "frameMakes", fn := fun _ => fun
  | [d1, d2, d3, d4] => { results := [.lit (.bool false)], args := [d1, d2, d3, d4] }
  | _ => none }
def FrameMakesWrongFalsely : Prop := frameMakesRow.holds Try.pinned (OpenSpec.ofChange frameMakesWrong)

/-- 'aquatintlaw09.FrameCovers': WHATEVER THE INPUT: true; the input reads as it did. -/
def frameCoversSpec : ChangeSpec := { name := "frameCovers", fn := fun _ => fun
  | [d1, d2, d3] => { results := [.lit (.bool true)], args := [d1, d2, d3] }
  | _ => none }
def frameCoversRow : OpenClaim := { program := "ytjfnlgmllhjonaa", sum := "b81af7c166e4b3ca127ac8dee39dac44142aedc6871f07dad7a3cc3b0eabdc0c", func := "aquatint/aquatintlaw09.FrameCovers", spec := "frameCovers", unfollowed := true, recurses := true, apart := false }
def FrameCoversSaid : Prop := frameCoversRow.holds Try.pinned (OpenSpec.ofChange frameCoversSpec)

/-- ITS FALSE NEIGHBOUR: 'it returns false'. Refute it at one input. -/
def frameCoversWrong : ChangeSpec := { name := "frameCovers", fn := fun _ => fun
  | [d1, d2, d3] => { results := [.lit (.bool false)], args := [d1, d2, d3] }
  | _ => none }
def FrameCoversWrongFalsely : Prop := frameCoversRow.holds Try.pinned (OpenSpec.ofChange frameCoversWrong)

/-- 'aquatintlaw09.FrameScans': WHATEVER THE INPUT: true; the input reads as it did. -/
def frameScansSpec : ChangeSpec := { name := "frameScans", fn := fun _ => fun
  | [d1, d2, d3, d4, d5] => { results := [.lit (.bool true)], args := [d1, d2, d3, d4, d5] }
  | _ => none }
def frameScansRow : OpenClaim := { program := "ytjfnlgmllhjonaa", sum := "b81af7c166e4b3ca127ac8dee39dac44142aedc6871f07dad7a3cc3b0eabdc0c", func := "aquatint/aquatintlaw09.FrameScans", spec := "frameScans", unfollowed := true, recurses := true, apart := false }
def FrameScansSaid : Prop := frameScansRow.holds Try.pinned (OpenSpec.ofChange frameScansSpec)

/-- ITS FALSE NEIGHBOUR: 'it returns false'. Refute it at one input. -/
def frameScansWrong : ChangeSpec := { name := "frameScans", fn := fun _ => fun
  | [d1, d2, d3, d4, d5] => { results := [.lit (.bool false)], args := [d1, d2, d3, d4, d5] }
  | _ => none }
def FrameScansWrongFalsely : Prop := frameScansRow.holds Try.pinned (OpenSpec.ofChange frameScansWrong)

/- THE SECOND FORM. 'bulk': how many values and letters a reading holds, each counted each time it is reached (what is shared counts as often as it is met; a slice's spare places count too). A statement '..UptoSaid' is the law's where the arguments, and the package variables that the reading takes, are together of bulk at most 1048576: NARROWER than '..Said'. Prove '..Said' where nothing that the law and all that it calls make is longer than what came in: it says more and counts as full. Else prove '..UptoSaid'. A law counts once. -/
mutual
def uptoBulk {H : Type} : DataW H → Nat
  | .lit (.string bytes) => bytes.length + 1
  | .lit _ => 1
  | .nil => 1
  | .ptr d => uptoBulk d + 1
  | .slice elems spare => uptoBulkAll elems + uptoBulkAll spare + 1
  | .agg parts => uptoBulkAll parts + 1
  | .iface _ d => uptoBulk d + 1
  | .map entries => uptoBulkEntries entries + 1
  | .held _ => 1
def uptoBulkAll {H : Type} : List (DataW H) → Nat
  | [] => 0
  | d :: r => uptoBulk d + uptoBulkAll r
def uptoBulkEntries {H : Type} : List (Lit × DataW H) → Nat
  | [] => 0
  | x :: r => uptoBulkEntry x + uptoBulkEntries r
def uptoBulkEntry {H : Type} : Lit × DataW H → Nat
  | (.string bytes, d) => bytes.length + uptoBulk d + 1
  | (_, d) => uptoBulk d + 1
 end
def uptoSmall : (H : Type) → List (DataW H) → Bool := fun _ ds => decide (uptoBulkAll ds ≤ 1048576)
def OpenSpec.upto (s : _root_.Go.ChangeSpec) : _root_.Go.OpenSpec := { _root_.Go.OpenSpec.ofChange s with cond := some uptoSmall }

/-- 'aquatintlaw09.FrameOwns', WHERE WHAT IT READS IS OF BULK AT MOST 1048576: true; the input reads as it did. -/
def frameOwnsUptoRow : OpenClaim := { program := "ytjfnlgmllhjonaa", sum := "b81af7c166e4b3ca127ac8dee39dac44142aedc6871f07dad7a3cc3b0eabdc0c", func := "aquatint/aquatintlaw09.FrameOwns", spec := "frameOwns", unfollowed := true, recurses := true, apart := false, narrowed := true }
def FrameOwnsUptoSaid : Prop := frameOwnsUptoRow.holds Try.pinned (OpenSpec.upto frameOwnsSpec)

/-- 'aquatintlaw09.FrameMakes', WHERE WHAT IT READS IS OF BULK AT MOST 1048576: true; the input reads as it did. -/
def frameMakesUptoRow : OpenClaim := { program := "ytjfnlgmllhjonaa", sum := "b81af7c166e4b3ca127ac8dee39dac44142aedc6871f07dad7a3cc3b0eabdc0c", func := "aquatint/aquatintlaw09.FrameMakes", spec := "frameMakes", unfollowed := true, recurses := true, apart := false, narrowed := true }
def FrameMakesUptoSaid : Prop := frameMakesUptoRow.holds Try.pinned (OpenSpec.upto frameMakesSpec)

/-- 'aquatintlaw09.FrameCovers', WHERE WHAT IT READS IS OF BULK AT MOST 1048576: true; the input reads as it did. -/
def frameCoversUptoRow : OpenClaim := { program := "ytjfnlgmllhjonaa", sum := "b81af7c166e4b3ca127ac8dee39dac44142aedc6871f07dad7a3cc3b0eabdc0c", func := "aquatint/aquatintlaw09.FrameCovers", spec := "frameCovers", unfollowed := true, recurses := true, apart := false, narrowed := true }
def FrameCoversUptoSaid : Prop := frameCoversUptoRow.holds Try.pinned (OpenSpec.upto frameCoversSpec)

/-- 'aquatintlaw09.FrameScans', WHERE WHAT IT READS IS OF BULK AT MOST 1048576: true; the input reads as it did. -/
def frameScansUptoRow : OpenClaim := { program := "ytjfnlgmllhjonaa", sum := "b81af7c166e4b3ca127ac8dee39dac44142aedc6871f07dad7a3cc3b0eabdc0c", func := "aquatint/aquatintlaw09.FrameScans", spec := "frameScans", unfollowed := true, recurses := true, apart := false, narrowed := true }
def FrameScansUptoSaid : Prop := frameScansUptoRow.holds Try.pinned (OpenSpec.upto frameScansSpec)

end Rows
end Go.Proofs.Ytjfnlgmllhjonaa
