/-
  NARROWER THAN 'FOR EVERY INPUT', by the rows' own cells (each row's printed sentence says how): ZigOrders: laid · ZigLast: laid · ZigLines: laid · ZigBack: laid · ZigBlocks: laid · ZigTables: laid.
  DERIVED. THE GIVEN ROWS OF THIS SEAT. 6 by the template 'for every input the law returns true; each argument reads behind the call as it read before'; 0 by the template 'total and deterministic' (their statements: YtalkeefjnejelaaDoorTotals.lean).
  GIVEN WITH THE SEED: the statements are not yours to turn. If you find one false, say at which input.
  Laid BY PROGRAM, IN A SANDBOX (cutbox-rows.mjs): the forced cells as the released guide's own fill.sh prints them over the translation d717d67fe80d8eef… (all of the seat's roots in one cut). By AI agents, Wed Nov 11 2026. No macro, syntax, notation, axiom, sorry.
-/
import Derived.Test.YtalkeefjnejelaaDoorChecked
import GoSem.Claim
import GoSem.ClaimJoined
import GoSem.ClaimMapViews
import Derived.JoinedTies
import Derived.KernelRfl
namespace Go.Proofs.YtalkeefjnejelaaDoor
/- THE CELL 'sum', in the pinned program and in every row, IS THE sha256 OF THE DUMP (.gsa) THAT YtalkeefjnejelaaDoorProg.lean LOADS. Nothing in Lean hashes anything: it is a label: what it is worth is what the hold of that sum in a sandbox is worth. -/
noncomputable def Tryd.pinned : Pinned := { name := "ytalkeefjnejelaadoor", sum := "d717d67fe80d8eef63140cdf6106c2bfafe271e66938bac3085ddfe4c1d10937", checked := Tryd.checked }
namespace Rows
def none {H : Type} : Left H := { results := [], args := [] }

/- WHAT THE LISTED PACKAGE-LEVEL VARIABLES READ AS WHEN THE CALL BEGINS. Each datum BY PROGRAM (the guide's laid-datum.mjs) off the statement by which the dump's own 'gosem.cut.vars' lays the variable. In a bare row this is a premise. The card (YtalkeefjnejelaaDoorCards.lean) ties it to the program's text. -/
def laid_aquatint_zig_order {H : Type} : DataW H := .agg [.lit (.int .i64 0), .lit (.int .i64 1), .lit (.int .i64 8), .lit (.int .i64 16), .lit (.int .i64 9), .lit (.int .i64 2), .lit (.int .i64 3), .lit (.int .i64 10), .lit (.int .i64 17), .lit (.int .i64 24), .lit (.int .i64 32), .lit (.int .i64 25), .lit (.int .i64 18), .lit (.int .i64 11), .lit (.int .i64 4), .lit (.int .i64 5), .lit (.int .i64 12), .lit (.int .i64 19), .lit (.int .i64 26), .lit (.int .i64 33), .lit (.int .i64 40), .lit (.int .i64 48), .lit (.int .i64 41), .lit (.int .i64 34), .lit (.int .i64 27), .lit (.int .i64 20), .lit (.int .i64 13), .lit (.int .i64 6), .lit (.int .i64 7), .lit (.int .i64 14), .lit (.int .i64 21), .lit (.int .i64 28), .lit (.int .i64 35), .lit (.int .i64 42), .lit (.int .i64 49), .lit (.int .i64 56), .lit (.int .i64 57), .lit (.int .i64 50), .lit (.int .i64 43), .lit (.int .i64 36), .lit (.int .i64 29), .lit (.int .i64 22), .lit (.int .i64 15), .lit (.int .i64 23), .lit (.int .i64 30), .lit (.int .i64 37), .lit (.int .i64 44), .lit (.int .i64 51), .lit (.int .i64 58), .lit (.int .i64 59), .lit (.int .i64 52), .lit (.int .i64 45), .lit (.int .i64 38), .lit (.int .i64 31), .lit (.int .i64 39), .lit (.int .i64 46), .lit (.int .i64 53), .lit (.int .i64 60), .lit (.int .i64 61), .lit (.int .i64 54), .lit (.int .i64 47), .lit (.int .i64 55), .lit (.int .i64 62), .lit (.int .i64 63)]

/-- 'aquatintlaw04.ZigOrders': WHATEVER THE INPUT: true; the input reads as it did. -/
def zigOrdersSpec : ChangeSpec := { name := "zigOrders", fn := fun _ => fun
  | [d] => { results := [.lit (.bool true)], args := [d] }
  | _ => none }
def zigOrdersRow : OpenClaim := { program := "ytalkeefjnejelaadoor", sum := "d717d67fe80d8eef63140cdf6106c2bfafe271e66938bac3085ddfe4c1d10937", func := "aquatint/aquatintlaw04.ZigOrders", spec := "zigOrders", named := ["aquatint/zig.order"], apart := false, laid := [("aquatint/zig.order", laid_aquatint_zig_order)] }
def ZigOrdersSaid : Prop := zigOrdersRow.holds Tryd.pinned (OpenSpec.ofChange zigOrdersSpec)

/-- ITS FALSE NEIGHBOUR: 'it returns false'. Refute it at one input. -/
def zigOrdersWrong : ChangeSpec := { name := "zigOrders", fn := fun _ => fun
  | [d] => { results := [.lit (.bool false)], args := [d] }
  | _ => none }
def ZigOrdersWrongFalsely : Prop := zigOrdersRow.holds Tryd.pinned (OpenSpec.ofChange zigOrdersWrong)

/-- 'aquatintlaw04.ZigLast': WHATEVER THE INPUT: true; the input reads as it did. -/
def zigLastSpec : ChangeSpec := { name := "zigLast", fn := fun _ => fun
  | [d] => { results := [.lit (.bool true)], args := [d] }
  | _ => none }
def zigLastRow : OpenClaim := { program := "ytalkeefjnejelaadoor", sum := "d717d67fe80d8eef63140cdf6106c2bfafe271e66938bac3085ddfe4c1d10937", func := "aquatint/aquatintlaw04.ZigLast", spec := "zigLast", named := ["aquatint/zig.order"], apart := false, laid := [("aquatint/zig.order", laid_aquatint_zig_order)] }
def ZigLastSaid : Prop := zigLastRow.holds Tryd.pinned (OpenSpec.ofChange zigLastSpec)

/-- ITS FALSE NEIGHBOUR: 'it returns false'. Refute it at one input. -/
def zigLastWrong : ChangeSpec := { name := "zigLast", fn := fun _ => fun
  | [d] => { results := [.lit (.bool false)], args := [d] }
  | _ => none }
def ZigLastWrongFalsely : Prop := zigLastRow.holds Tryd.pinned (OpenSpec.ofChange zigLastWrong)

/-- 'aquatintlaw04.ZigLines': WHATEVER THE INPUT: true; the input reads as it did. -/
def zigLinesSpec : ChangeSpec := { name := "zigLines", fn := fun _ => fun
  | [d] => { results := [.lit (.bool true)], args := [d] }
  | _ => none }
def zigLinesRow : OpenClaim := { program := "ytalkeefjnejelaadoor", sum := "d717d67fe80d8eef63140cdf6106c2bfafe271e66938bac3085ddfe4c1d10937", func := "aquatint/aquatintlaw04.ZigLines", spec := "zigLines", named := ["aquatint/zig.order"], apart := false, laid := [("aquatint/zig.order", laid_aquatint_zig_order)] }
def ZigLinesSaid : Prop := zigLinesRow.holds Tryd.pinned (OpenSpec.ofChange zigLinesSpec)

/-- ITS FALSE NEIGHBOUR: 'it returns false'. Refute it at one input. -/
def zigLinesWrong : ChangeSpec := { name := "zigLines", fn := fun _ => fun
  | [d] => { results := [.lit (.bool false)], args := [d] }
  | _ => none }
def ZigLinesWrongFalsely : Prop := zigLinesRow.holds Tryd.pinned (OpenSpec.ofChange zigLinesWrong)

/-- 'aquatintlaw04.ZigBack': WHATEVER THE INPUT: true; the input reads as it did. -/
def zigBackSpec : ChangeSpec := { name := "zigBack", fn := fun _ => fun
  | [d] => { results := [.lit (.bool true)], args := [d] }
  | _ => none }
def zigBackRow : OpenClaim := { program := "ytalkeefjnejelaadoor", sum := "d717d67fe80d8eef63140cdf6106c2bfafe271e66938bac3085ddfe4c1d10937", func := "aquatint/aquatintlaw04.ZigBack", spec := "zigBack", named := ["aquatint/zig.order"], apart := false, laid := [("aquatint/zig.order", laid_aquatint_zig_order)] }
def ZigBackSaid : Prop := zigBackRow.holds Tryd.pinned (OpenSpec.ofChange zigBackSpec)

/-- ITS FALSE NEIGHBOUR: 'it returns false'. Refute it at one input. -/
def zigBackWrong : ChangeSpec := { name := "zigBack", fn := fun _ => fun
  | [d] => { results := [.lit (.bool false)], args := [d] }
  | _ => none }
def ZigBackWrongFalsely : Prop := zigBackRow.holds Tryd.pinned (OpenSpec.ofChange zigBackWrong)

/-- 'aquatintlaw04.ZigBlocks': WHATEVER THE INPUT: true; the input reads as it did. -/
def zigBlocksSpec : ChangeSpec := { name := "zigBlocks", fn := fun _ => fun
  | [d] => { results := [.lit (.bool true)], args := [d] }
  | _ => none }
def zigBlocksRow : OpenClaim := { program := "ytalkeefjnejelaadoor", sum := "d717d67fe80d8eef63140cdf6106c2bfafe271e66938bac3085ddfe4c1d10937", func := "aquatint/aquatintlaw04.ZigBlocks", spec := "zigBlocks", named := ["aquatint/zig.order"], apart := false, laid := [("aquatint/zig.order", laid_aquatint_zig_order)] }
def ZigBlocksSaid : Prop := zigBlocksRow.holds Tryd.pinned (OpenSpec.ofChange zigBlocksSpec)

/-- ITS FALSE NEIGHBOUR: 'it returns false'. Refute it at one input. -/
def zigBlocksWrong : ChangeSpec := { name := "zigBlocks", fn := fun _ => fun
  | [d] => { results := [.lit (.bool false)], args := [d] }
  | _ => none }
def ZigBlocksWrongFalsely : Prop := zigBlocksRow.holds Tryd.pinned (OpenSpec.ofChange zigBlocksWrong)

/-- 'aquatintlaw04.ZigTables': WHATEVER THE INPUT: true; the input reads as it did. -/
def zigTablesSpec : ChangeSpec := { name := "zigTables", fn := fun _ => fun
  | [d] => { results := [.lit (.bool true)], args := [d] }
  | _ => none }
def zigTablesRow : OpenClaim := { program := "ytalkeefjnejelaadoor", sum := "d717d67fe80d8eef63140cdf6106c2bfafe271e66938bac3085ddfe4c1d10937", func := "aquatint/aquatintlaw04.ZigTables", spec := "zigTables", named := ["aquatint/zig.order"], apart := false, laid := [("aquatint/zig.order", laid_aquatint_zig_order)] }
def ZigTablesSaid : Prop := zigTablesRow.holds Tryd.pinned (OpenSpec.ofChange zigTablesSpec)

/-- ITS FALSE NEIGHBOUR: 'it returns false'. Refute it at one input. -/
def zigTablesWrong : ChangeSpec := { name := "zigTables", fn := fun _ => fun
  | [d] => { results := [.lit (.bool false)], args := [d] }
  | _ => none }
def ZigTablesWrongFalsely : Prop := zigTablesRow.holds Tryd.pinned (OpenSpec.ofChange zigTablesWrong)

/- THE SECOND FORM. 'bulk': how many values and letters a reading holds, each counted each time it is reached (what is shared counts as often as it is met; a slice's spare places count too). A statement '..UptoSaid' is the law's where the arguments, and the package variables that the reading takes, are together of bulk at most 1048576: NARROWER than '..Said'. Prove '..Said' where nothing that the law and all that it calls make is longer than what came in: it says more and counts as full. Else prove '..UptoSaid'. A law counts once. -/
mutual
def uptoBulk {H : Type} : DataW H → Nat
  | .lit (.string bytes) => bytes.length + 1
  | .lit _ => 1
  | .nil => 1
  | .ptr d => uptoBulk d + 1
  | .slice elems spare => uptoBulkAll elems + uptoBulkAll spare + 1
  | .agg parts => uptoBulkAll parts + 1
  | .iface _ d => uptoBulk d + 1
  | .map entries => uptoBulkEntries entries + 1
  | .held _ => 1
def uptoBulkAll {H : Type} : List (DataW H) → Nat
  | [] => 0
  | d :: r => uptoBulk d + uptoBulkAll r
def uptoBulkEntries {H : Type} : List (Lit × DataW H) → Nat
  | [] => 0
  | x :: r => uptoBulkEntry x + uptoBulkEntries r
def uptoBulkEntry {H : Type} : Lit × DataW H → Nat
  | (.string bytes, d) => bytes.length + uptoBulk d + 1
  | (_, d) => uptoBulk d + 1
 end
def uptoSmall : (H : Type) → List (DataW H) → Bool := fun _ ds => decide (uptoBulkAll ds ≤ 1048576)
def OpenSpec.upto (s : _root_.Go.ChangeSpec) : _root_.Go.OpenSpec := { _root_.Go.OpenSpec.ofChange s with cond := some uptoSmall }

/-- 'aquatintlaw04.ZigOrders', WHERE WHAT IT READS IS OF BULK AT MOST 1048576: true; the input reads as it did. -/
def zigOrdersUptoRow : OpenClaim := { program := "ytalkeefjnejelaadoor", sum := "d717d67fe80d8eef63140cdf6106c2bfafe271e66938bac3085ddfe4c1d10937", func := "aquatint/aquatintlaw04.ZigOrders", spec := "zigOrders", named := ["aquatint/zig.order"], apart := false, laid := [("aquatint/zig.order", laid_aquatint_zig_order)], narrowed := true }
def ZigOrdersUptoSaid : Prop := zigOrdersUptoRow.holds Tryd.pinned (OpenSpec.upto zigOrdersSpec)

/-- 'aquatintlaw04.ZigLast', WHERE WHAT IT READS IS OF BULK AT MOST 1048576: true; the input reads as it did. -/
def zigLastUptoRow : OpenClaim := { program := "ytalkeefjnejelaadoor", sum := "d717d67fe80d8eef63140cdf6106c2bfafe271e66938bac3085ddfe4c1d10937", func := "aquatint/aquatintlaw04.ZigLast", spec := "zigLast", named := ["aquatint/zig.order"], apart := false, laid := [("aquatint/zig.order", laid_aquatint_zig_order)], narrowed := true }
def ZigLastUptoSaid : Prop := zigLastUptoRow.holds Tryd.pinned (OpenSpec.upto zigLastSpec)

/-- 'aquatintlaw04.ZigLines', WHERE WHAT IT READS IS OF BULK AT MOST 1048576: true; the input reads as it did. -/
def zigLinesUptoRow : OpenClaim := { program := "ytalkeefjnejelaadoor", sum := "d717d67fe80d8eef63140cdf6106c2bfafe271e66938bac3085ddfe4c1d10937", func := "aquatint/aquatintlaw04.ZigLines", spec := "zigLines", named := ["aquatint/zig.order"], apart := false, laid := [("aquatint/zig.order", laid_aquatint_zig_order)], narrowed := true }
def ZigLinesUptoSaid : Prop := zigLinesUptoRow.holds Tryd.pinned (OpenSpec.upto zigLinesSpec)

/-- 'aquatintlaw04.ZigBack', WHERE WHAT IT READS IS OF BULK AT MOST 1048576: true; the input reads as it did. -/
def zigBackUptoRow : OpenClaim := { program := "ytalkeefjnejelaadoor", sum := "d717d67fe80d8eef63140cdf6106c2bfafe271e66938bac3085ddfe4c1d10937", func := "aquatint/aquatintlaw04.ZigBack", spec := "zigBack", named := ["aquatint/zig.order"], apart := false, laid := [("aquatint/zig.order", laid_aquatint_zig_order)], narrowed := true }
def ZigBackUptoSaid : Prop := zigBackUptoRow.holds Tryd.pinned (OpenSpec.upto zigBackSpec)

/-- 'aquatintlaw04.ZigBlocks', WHERE WHAT IT READS IS OF BULK AT MOST 1048576: true; the input reads as it did. -/
def zigBlocksUptoRow : OpenClaim := { program := "ytalkeefjnejelaadoor", sum := "d717d67fe80d8eef63140cdf6106c2bfafe271e66938bac3085ddfe4c1d10937", func := "aquatint/aquatintlaw04.ZigBlocks", spec := "zigBlocks", named := ["aquatint/zig.order"], apart := false, laid := [("aquatint/zig.order", laid_aquatint_zig_order)], narrowed := true }
def ZigBlocksUptoSaid : Prop := zigBlocksUptoRow.holds Tryd.pinned (OpenSpec.upto zigBlocksSpec)

/-- 'aquatintlaw04.ZigTables', WHERE WHAT IT READS IS OF BULK AT MOST 1048576: true; the input reads as it did. -/
def zigTablesUptoRow : OpenClaim := { program := "ytalkeefjnejelaadoor", sum := "d717d67fe80d8eef63140cdf6106c2bfafe271e66938bac3085ddfe4c1d10937", func := "aquatint/aquatintlaw04.ZigTables", spec := "zigTables", named := ["aquatint/zig.order"], apart := false, laid := [("aquatint/zig.order", laid_aquatint_zig_order)], narrowed := true }
def ZigTablesUptoSaid : Prop := zigTablesUptoRow.holds Tryd.pinned (OpenSpec.upto zigTablesSpec)

end Rows
end Go.Proofs.YtalkeefjnejelaaDoor
