/-
  NARROWER THAN 'FOR EVERY INPUT', by the rows' own cells (each row's printed sentence says how): MarkTags: laid · MarkSplits: laid · MarkBack: laid · MarkJoins: laid.
  DERIVED. THE GIVEN ROWS OF THIS SEAT. 4 by the template 'for every input the law returns true; each argument reads behind the call as it read before'; 0 by the template 'total and deterministic' (their statements: YthibnhgbgmpjoaaDoorTotals.lean).
  GIVEN WITH THE SEED: the statements are not yours to turn. If you find one false, say at which input.
  Laid BY PROGRAM, IN A SANDBOX (cutbox-rows.mjs): the forced cells as the released guide's own fill.sh prints them over the translation 0ed736898fb58397… (all of the seat's roots in one cut). By AI agents, Wed Nov 11 2026. No macro, syntax, notation, axiom, sorry.
-/
import Derived.Test.YthibnhgbgmpjoaaDoorChecked
import GoSem.Claim
import GoSem.ClaimJoined
import GoSem.ClaimMapViews
import Derived.JoinedTies
import Derived.KernelRfl
namespace Go.Proofs.YthibnhgbgmpjoaaDoor
/- THE CELL 'sum', in the pinned program and in every row, IS THE sha256 OF THE DUMP (.gsa) THAT YthibnhgbgmpjoaaDoorProg.lean LOADS. Nothing in Lean hashes anything: it is a label: what it is worth is what the hold of that sum in a sandbox is worth. -/
noncomputable def Tryd.pinned : Pinned := { name := "ythibnhgbgmpjoaadoor", sum := "0ed736898fb583979cb486b5c2b1e46ec401031bcc32ef15326478465d15766e", checked := Tryd.checked }
namespace Rows
def none {H : Type} : Left H := { results := [], args := [] }

/- WHAT THE LISTED PACKAGE-LEVEL VARIABLES READ AS WHEN THE CALL BEGINS. Each datum BY PROGRAM (the guide's laid-datum.mjs) off the statement by which the dump's own 'gosem.cut.vars' lays the variable. In a bare row this is a premise. The card (YthibnhgbgmpjoaaDoorCards.lean) ties it to the program's text. -/
def laid_aquatint_zig_order {H : Type} : DataW H := .agg [.lit (.int .i64 0), .lit (.int .i64 1), .lit (.int .i64 8), .lit (.int .i64 16), .lit (.int .i64 9), .lit (.int .i64 2), .lit (.int .i64 3), .lit (.int .i64 10), .lit (.int .i64 17), .lit (.int .i64 24), .lit (.int .i64 32), .lit (.int .i64 25), .lit (.int .i64 18), .lit (.int .i64 11), .lit (.int .i64 4), .lit (.int .i64 5), .lit (.int .i64 12), .lit (.int .i64 19), .lit (.int .i64 26), .lit (.int .i64 33), .lit (.int .i64 40), .lit (.int .i64 48), .lit (.int .i64 41), .lit (.int .i64 34), .lit (.int .i64 27), .lit (.int .i64 20), .lit (.int .i64 13), .lit (.int .i64 6), .lit (.int .i64 7), .lit (.int .i64 14), .lit (.int .i64 21), .lit (.int .i64 28), .lit (.int .i64 35), .lit (.int .i64 42), .lit (.int .i64 49), .lit (.int .i64 56), .lit (.int .i64 57), .lit (.int .i64 50), .lit (.int .i64 43), .lit (.int .i64 36), .lit (.int .i64 29), .lit (.int .i64 22), .lit (.int .i64 15), .lit (.int .i64 23), .lit (.int .i64 30), .lit (.int .i64 37), .lit (.int .i64 44), .lit (.int .i64 51), .lit (.int .i64 58), .lit (.int .i64 59), .lit (.int .i64 52), .lit (.int .i64 45), .lit (.int .i64 38), .lit (.int .i64 31), .lit (.int .i64 39), .lit (.int .i64 46), .lit (.int .i64 53), .lit (.int .i64 60), .lit (.int .i64 61), .lit (.int .i64 54), .lit (.int .i64 47), .lit (.int .i64 55), .lit (.int .i64 62), .lit (.int .i64 63)]

/-- 'aquatintlaw08.MarkTags': WHATEVER THE INPUT: true; the input reads as it did. -/
def markTagsSpec : ChangeSpec := { name := "markTags", fn := fun _ => fun
  | [d] => { results := [.lit (.bool true)], args := [d] }
  | _ => none }
def markTagsRow : OpenClaim := { program := "ythibnhgbgmpjoaadoor", sum := "0ed736898fb583979cb486b5c2b1e46ec401031bcc32ef15326478465d15766e", func := "aquatint/aquatintlaw08.MarkTags", spec := "markTags", named := ["aquatint/zig.order"], apart := false, laid := [("aquatint/zig.order", laid_aquatint_zig_order)] }
def MarkTagsSaid : Prop := markTagsRow.holds Tryd.pinned (OpenSpec.ofChange markTagsSpec)

/-- ITS FALSE NEIGHBOUR: 'it returns false'. Refute it at one input. -/
def markTagsWrong : ChangeSpec := { name := "markTags", fn := fun _ => fun
  | [d] => { results := [.lit (.bool false)], args := [d] }
  | _ => none }
def MarkTagsWrongFalsely : Prop := markTagsRow.holds Tryd.pinned (OpenSpec.ofChange markTagsWrong)

/-- 'aquatintlaw08.MarkSplits': WHATEVER THE INPUT: true; the input reads as it did. -/
def markSplitsSpec : ChangeSpec := { name := "markSplits", fn := fun _ => fun
  | [d] => { results := [.lit (.bool true)], args := [d] }
  | _ => none }
def markSplitsRow : OpenClaim := { program := "ythibnhgbgmpjoaadoor", sum := "0ed736898fb583979cb486b5c2b1e46ec401031bcc32ef15326478465d15766e", func := "aquatint/aquatintlaw08.MarkSplits", spec := "markSplits", inPlace := ["internal/abi.NoEscape"], unfollowed := true, recurses := true, named := ["aquatint/zig.order"], apart := false, laid := [("aquatint/zig.order", laid_aquatint_zig_order)] }
def MarkSplitsSaid : Prop := markSplitsRow.holds Tryd.pinned (OpenSpec.ofChange markSplitsSpec)

/-- ITS FALSE NEIGHBOUR: 'it returns false'. Refute it at one input. -/
def markSplitsWrong : ChangeSpec := { name := "markSplits", fn := fun _ => fun
  | [d] => { results := [.lit (.bool false)], args := [d] }
  | _ => none }
def MarkSplitsWrongFalsely : Prop := markSplitsRow.holds Tryd.pinned (OpenSpec.ofChange markSplitsWrong)

/-- 'aquatintlaw08.MarkBack': WHATEVER THE INPUT: true; the input reads as it did. -/
def markBackSpec : ChangeSpec := { name := "markBack", fn := fun _ => fun
  | [d] => { results := [.lit (.bool true)], args := [d] }
  | _ => none }
def markBackRow : OpenClaim := { program := "ythibnhgbgmpjoaadoor", sum := "0ed736898fb583979cb486b5c2b1e46ec401031bcc32ef15326478465d15766e", func := "aquatint/aquatintlaw08.MarkBack", spec := "markBack", inPlace := ["internal/abi.NoEscape"], unfollowed := true, recurses := true, named := ["aquatint/zig.order"], apart := false, laid := [("aquatint/zig.order", laid_aquatint_zig_order)] }
def MarkBackSaid : Prop := markBackRow.holds Tryd.pinned (OpenSpec.ofChange markBackSpec)

/-- ITS FALSE NEIGHBOUR: 'it returns false'. Refute it at one input. -/
def markBackWrong : ChangeSpec := { name := "markBack", fn := fun _ => fun
  | [d] => { results := [.lit (.bool false)], args := [d] }
  | _ => none }
def MarkBackWrongFalsely : Prop := markBackRow.holds Tryd.pinned (OpenSpec.ofChange markBackWrong)

/-- 'aquatintlaw08.MarkJoins': WHATEVER THE INPUT: true; the input reads as it did. -/
def markJoinsSpec : ChangeSpec := { name := "markJoins", fn := fun _ => fun
  | [d1, d2, d3] => { results := [.lit (.bool true)], args := [d1, d2, d3] }
  | _ => none }
def markJoinsRow : OpenClaim := { program := "ythibnhgbgmpjoaadoor", sum := "0ed736898fb583979cb486b5c2b1e46ec401031bcc32ef15326478465d15766e", func := "aquatint/aquatintlaw08.MarkJoins", spec := "markJoins", inPlace := ["internal/abi.NoEscape"], unfollowed := true, recurses := true, named := ["aquatint/zig.order"], apart := false, laid := [("aquatint/zig.order", laid_aquatint_zig_order)] }
def MarkJoinsSaid : Prop := markJoinsRow.holds Tryd.pinned (OpenSpec.ofChange markJoinsSpec)

/-- ITS FALSE NEIGHBOUR: 'it returns false'. Refute it at one input. -/
def markJoinsWrong : ChangeSpec := { name := "markJoins", fn := fun _ => fun
  | [d1, d2, d3] => { results := [.lit (.bool false)], args := [d1, d2, d3] }
  | _ => none }
def MarkJoinsWrongFalsely : Prop := markJoinsRow.holds Tryd.pinned (OpenSpec.ofChange markJoinsWrong)

/- THE SECOND FORM. 'bulk': how many values and letters a reading holds, each counted each time it is reached (what is shared counts as often as it is met; a slice's spare places count too). A statement '..UptoSaid' is the law's where the arguments, and the package variables that the reading takes, are together of bulk at most 1048576: NARROWER than '..Said'. Prove '..Said' where nothing that the law and all that it calls make is longer than what came in: it says more and counts as full. Else prove '..UptoSaid'. A law counts once. -/
mutual
def uptoBulk {H : Type} : DataW H → Nat
  | .lit (.string bytes) => bytes.length + 1
  | .lit _ => 1
  | .nil => 1
  | .ptr d => uptoBulk d + 1
  | .slice elems spare => uptoBulkAll elems + uptoBulkAll spare + 1
  | .agg parts => uptoBulkAll parts + 1
  | .iface _ d => uptoBulk d + 1
  | .map entries => uptoBulkEntries entries + 1
  | .held _ => 1
def uptoBulkAll {H : Type} : List (DataW H) → Nat
  | [] => 0
  | d :: r => uptoBulk d + uptoBulkAll r
def uptoBulkEntries {H : Type} : List (Lit × DataW H) → Nat
  | [] => 0
  | x :: r => uptoBulkEntry x + uptoBulkEntries r
def uptoBulkEntry {H : Type} : Lit × DataW H → Nat
  | (.string bytes, d) => bytes.length + uptoBulk d + 1
  | (_, d) => uptoBulk d + 1
 end
def uptoSmall : (H : Type) → List (DataW H) → Bool := fun _ ds => decide (uptoBulkAll ds ≤ 1048576)
def OpenSpec.upto (s : _root_.Go.ChangeSpec) : _root_.Go.OpenSpec := { _root_.Go.OpenSpec.ofChange s with cond := some uptoSmall }

/-- 'aquatintlaw08.MarkTags', WHERE WHAT IT READS IS OF BULK AT MOST 1048576: true; the input reads as it did. -/
def markTagsUptoRow : OpenClaim := { program := "ythibnhgbgmpjoaadoor", sum := "0ed736898fb583979cb486b5c2b1e46ec401031bcc32ef15326478465d15766e", func := "aquatint/aquatintlaw08.MarkTags", spec := "markTags", named := ["aquatint/zig.order"], apart := false, laid := [("aquatint/zig.order", laid_aquatint_zig_order)], narrowed := true }
def MarkTagsUptoSaid : Prop := markTagsUptoRow.holds Tryd.pinned (OpenSpec.upto markTagsSpec)

/-- 'aquatintlaw08.MarkSplits', WHERE WHAT IT READS IS OF BULK AT MOST 1048576: true; the input reads as it did. -/
def markSplitsUptoRow : OpenClaim := { program := "ythibnhgbgmpjoaadoor", sum := "0ed736898fb583979cb486b5c2b1e46ec401031bcc32ef15326478465d15766e", func := "aquatint/aquatintlaw08.MarkSplits", spec := "markSplits", inPlace := ["internal/abi.NoEscape"], unfollowed := true, recurses := true, named := ["aquatint/zig.order"], apart := false, laid := [("aquatint/zig.order", laid_aquatint_zig_order)], narrowed := true }
def MarkSplitsUptoSaid : Prop := markSplitsUptoRow.holds Tryd.pinned (OpenSpec.upto markSplitsSpec)

/-- 'aquatintlaw08.MarkBack', WHERE WHAT IT READS IS OF BULK AT MOST 1048576: true; the input reads as it did. -/
def markBackUptoRow : OpenClaim := { program := "ythibnhgbgmpjoaadoor", sum := "0ed736898fb583979cb486b5c2b1e46ec401031bcc32ef15326478465d15766e", func := "aquatint/aquatintlaw08.MarkBack", spec := "markBack", inPlace := ["internal/abi.NoEscape"], unfollowed := true, recurses := true, named := ["aquatint/zig.order"], apart := false, laid := [("aquatint/zig.order", laid_aquatint_zig_order)], narrowed := true }
def MarkBackUptoSaid : Prop := markBackUptoRow.holds Tryd.pinned (OpenSpec.upto markBackSpec)

/-- 'aquatintlaw08.MarkJoins', WHERE WHAT IT READS IS OF BULK AT MOST 1048576: true; the input reads as it did. -/
def markJoinsUptoRow : OpenClaim := { program := "ythibnhgbgmpjoaadoor", sum := "0ed736898fb583979cb486b5c2b1e46ec401031bcc32ef15326478465d15766e", func := "aquatint/aquatintlaw08.MarkJoins", spec := "markJoins", inPlace := ["internal/abi.NoEscape"], unfollowed := true, recurses := true, named := ["aquatint/zig.order"], apart := false, laid := [("aquatint/zig.order", laid_aquatint_zig_order)], narrowed := true }
def MarkJoinsUptoSaid : Prop := markJoinsUptoRow.holds Tryd.pinned (OpenSpec.upto markJoinsSpec)

end Rows
end Go.Proofs.YthibnhgbgmpjoaaDoor
