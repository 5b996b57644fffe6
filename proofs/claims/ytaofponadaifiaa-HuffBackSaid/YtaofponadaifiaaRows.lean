/-
  No cell of these rows narrows 'for every input' (looked for: loops, veiled, ifaces, maps, wideKeys, modest, calm, conditions, laid).
  DERIVED. THE GIVEN ROWS OF THIS SEAT. 6 by the template 'for every input the law returns true; each argument reads behind the call as it read before'; 0 by the template 'total and deterministic' (their statements: YtaofponadaifiaaTotals.lean).
  GIVEN WITH THE SEED: the statements are not yours to turn. If you find one false, say at which input.
  Laid BY PROGRAM, IN A SANDBOX (cutbox-rows.mjs): the forced cells as the released guide's own fill.sh prints them over the translation 360410647294e587… (all of the seat's roots in one cut). By AI agents, Wed Nov 11 2026. No macro, syntax, notation, axiom, sorry.
-/
import Derived.Test.YtaofponadaifiaaChecked
import GoSem.Claim
import GoSem.ClaimJoined
import GoSem.ClaimMapViews
import Derived.JoinedTies
import Derived.KernelRfl
namespace Go.Proofs.Ytaofponadaifiaa
/- THE CELL 'sum', in the pinned program and in every row, IS THE sha256 OF THE DUMP (.gsa) THAT YtaofponadaifiaaProg.lean LOADS. Nothing in Lean hashes anything: it is a label: what it is worth is what the hold of that sum in a sandbox is worth. -/
noncomputable def Try.pinned : Pinned := { name := "ytaofponadaifiaa", sum := "360410647294e587209ddb186854a3d17a91f42a188e3cd92e342ba624379341", checked := Try.checked }
namespace Rows
def none {H : Type} : Left H := { results := [], args := [] }

/-- 'aquatintlaw05.HuffPrefix': WHATEVER THE INPUT: true; the input reads as it did. -/
def huffPrefixSpec : ChangeSpec := { name := "huffPrefix", fn := fun _ => fun
  | [d1, d2, d3, d4] => { results := [.lit (.bool true)], args := [d1, d2, d3, d4] }
  | _ => none }
def huffPrefixRow : OpenClaim := { program := "ytaofponadaifiaa", sum := "360410647294e587209ddb186854a3d17a91f42a188e3cd92e342ba624379341", func := "aquatint/aquatintlaw05.HuffPrefix", spec := "huffPrefix", apart := false }
def HuffPrefixSaid : Prop := huffPrefixRow.holds Try.pinned (OpenSpec.ofChange huffPrefixSpec)

/-- ITS FALSE NEIGHBOUR: 'it returns false'. Refute it at one input. -/
def huffPrefixWrong : ChangeSpec := { name := "huffPrefix", fn := fun _ => fun
  | [d1, d2, d3, d4] => { results := [.lit (.bool false)], args := [d1, d2, d3, d4] }
  | _ => none }
def HuffPrefixWrongFalsely : Prop := huffPrefixRow.holds Try.pinned (OpenSpec.ofChange huffPrefixWrong)

/-- 'aquatintlaw05.HuffTables': WHATEVER THE INPUT: true; the input reads as it did. -/
def huffTablesSpec : ChangeSpec := { name := "huffTables", fn := fun _ => fun
  | [d1, d2, d3] => { results := [.lit (.bool true)], args := [d1, d2, d3] }
  | _ => none }
def huffTablesRow : OpenClaim := { program := "ytaofponadaifiaa", sum := "360410647294e587209ddb186854a3d17a91f42a188e3cd92e342ba624379341", func := "aquatint/aquatintlaw05.HuffTables", spec := "huffTables", apart := false }
def HuffTablesSaid : Prop := huffTablesRow.holds Try.pinned (OpenSpec.ofChange huffTablesSpec)

/-- ITS FALSE NEIGHBOUR: 'it returns false'. Refute it at one input. -/
def huffTablesWrong : ChangeSpec := { name := "huffTables", fn := fun _ => fun
  | [d1, d2, d3] => { results := [.lit (.bool false)], args := [d1, d2, d3] }
  | _ => none }
def HuffTablesWrongFalsely : Prop := huffTablesRow.holds Try.pinned (OpenSpec.ofChange huffTablesWrong)

/-- 'aquatintlaw05.HuffExtends': WHATEVER THE INPUT: true; the input reads as it did. -/
def huffExtendsSpec : ChangeSpec := { name := "huffExtends", fn := fun _ => fun
  | [d1, d2] => { results := [.lit (.bool true)], args := [d1, d2] }
  | _ => none }
def huffExtendsRow : OpenClaim := { program := "ytaofponadaifiaa", sum := "360410647294e587209ddb186854a3d17a91f42a188e3cd92e342ba624379341", func := "aquatint/aquatintlaw05.HuffExtends", spec := "huffExtends", apart := false }
def HuffExtendsSaid : Prop := huffExtendsRow.holds Try.pinned (OpenSpec.ofChange huffExtendsSpec)

/-- ITS FALSE NEIGHBOUR: 'it returns false'. Refute it at one input. -/
def huffExtendsWrong : ChangeSpec := { name := "huffExtends", fn := fun _ => fun
  | [d1, d2] => { results := [.lit (.bool false)], args := [d1, d2] }
  | _ => none }
def HuffExtendsWrongFalsely : Prop := huffExtendsRow.holds Try.pinned (OpenSpec.ofChange huffExtendsWrong)

/-- 'aquatintlaw05.HuffReads': WHATEVER THE INPUT: true; the input reads as it did. -/
def huffReadsSpec : ChangeSpec := { name := "huffReads", fn := fun _ => fun
  | [d1, d2, d3] => { results := [.lit (.bool true)], args := [d1, d2, d3] }
  | _ => none }
def huffReadsRow : OpenClaim := { program := "ytaofponadaifiaa", sum := "360410647294e587209ddb186854a3d17a91f42a188e3cd92e342ba624379341", func := "aquatint/aquatintlaw05.HuffReads", spec := "huffReads", apart := false }
def HuffReadsSaid : Prop := huffReadsRow.holds Try.pinned (OpenSpec.ofChange huffReadsSpec)

/-- ITS FALSE NEIGHBOUR: 'it returns false'. Refute it at one input. -/
def huffReadsWrong : ChangeSpec := { name := "huffReads", fn := fun _ => fun
  | [d1, d2, d3] => { results := [.lit (.bool false)], args := [d1, d2, d3] }
  | _ => none }
def HuffReadsWrongFalsely : Prop := huffReadsRow.holds Try.pinned (OpenSpec.ofChange huffReadsWrong)

/-- 'aquatintlaw05.HuffNil': WHATEVER THE INPUT: true; the input reads as it did. -/
def huffNilSpec : ChangeSpec := { name := "huffNil", fn := fun _ => fun
  | [d] => { results := [.lit (.bool true)], args := [d] }
  | _ => none }
def huffNilRow : OpenClaim := { program := "ytaofponadaifiaa", sum := "360410647294e587209ddb186854a3d17a91f42a188e3cd92e342ba624379341", func := "aquatint/aquatintlaw05.HuffNil", spec := "huffNil", apart := false }
def HuffNilSaid : Prop := huffNilRow.holds Try.pinned (OpenSpec.ofChange huffNilSpec)

/-- ITS FALSE NEIGHBOUR: 'it returns false'. Refute it at one input. -/
def huffNilWrong : ChangeSpec := { name := "huffNil", fn := fun _ => fun
  | [d] => { results := [.lit (.bool false)], args := [d] }
  | _ => none }
def HuffNilWrongFalsely : Prop := huffNilRow.holds Try.pinned (OpenSpec.ofChange huffNilWrong)

/-- 'aquatintlaw05.HuffBack': WHATEVER THE INPUT: true; the input reads as it did. -/
def huffBackSpec : ChangeSpec := { name := "huffBack", fn := fun _ => fun
  | [d1, d2, d3] => { results := [.lit (.bool true)], args := [d1, d2, d3] }
  | _ => none }
def huffBackRow : OpenClaim := { program := "ytaofponadaifiaa", sum := "360410647294e587209ddb186854a3d17a91f42a188e3cd92e342ba624379341", func := "aquatint/aquatintlaw05.HuffBack", spec := "huffBack", apart := false }
def HuffBackSaid : Prop := huffBackRow.holds Try.pinned (OpenSpec.ofChange huffBackSpec)

/-- ITS FALSE NEIGHBOUR: 'it returns false'. Refute it at one input. -/
def huffBackWrong : ChangeSpec := { name := "huffBack", fn := fun _ => fun
  | [d1, d2, d3] => { results := [.lit (.bool false)], args := [d1, d2, d3] }
  | _ => none }
def HuffBackWrongFalsely : Prop := huffBackRow.holds Try.pinned (OpenSpec.ofChange huffBackWrong)

/- THE SECOND FORM. 'bulk': how many values and letters a reading holds, each counted each time it is reached (what is shared counts as often as it is met; a slice's spare places count too). A statement '..UptoSaid' is the law's where the arguments, and the package variables that the reading takes, are together of bulk at most 1048576: NARROWER than '..Said'. Prove '..Said' where nothing that the law and all that it calls make is longer than what came in: it says more and counts as full. Else prove '..UptoSaid'. A law counts once. -/
mutual
def uptoBulk {H : Type} : DataW H → Nat
  | .lit (.string bytes) => bytes.length + 1
  | .lit _ => 1
  | .nil => 1
  | .ptr d => uptoBulk d + 1
  | .slice elems spare => uptoBulkAll elems + uptoBulkAll spare + 1
  | .agg parts => uptoBulkAll parts + 1
  | .iface _ d => uptoBulk d + 1
  | .map entries => uptoBulkEntries entries + 1
  | .held _ => 1
def uptoBulkAll {H : Type} : List (DataW H) → Nat
  | [] => 0
  | d :: r => uptoBulk d + uptoBulkAll r
def uptoBulkEntries {H : Type} : List (Lit × DataW H) → Nat
  | [] => 0
  | x :: r => uptoBulkEntry x + uptoBulkEntries r
def uptoBulkEntry {H : Type} : Lit × DataW H → Nat
  | (.string bytes, d) => bytes.length + uptoBulk d + 1
  | (_, d) => uptoBulk d + 1
 end
def uptoSmall : (H : Type) → List (DataW H) → Bool := fun _ ds => decide (uptoBulkAll ds ≤ 1048576)
def OpenSpec.upto (s : _root_.Go.ChangeSpec) : _root_.Go.OpenSpec := { _root_.Go.OpenSpec.ofChange s with cond := some uptoSmall }

/-- 'aquatintlaw05.HuffPrefix', WHERE WHAT IT READS IS OF BULK AT MOST 1048576: true; the input reads as it did. -/
def huffPrefixUptoRow : OpenClaim := { program := "ytaofponadaifiaa", sum := "360410647294e587209ddb186854a3d17a91f42a188e3cd92e342ba624379341", func := "aquatint/aquatintlaw05.HuffPrefix", spec := "huffPrefix", apart := false, narrowed := true }
def HuffPrefixUptoSaid : Prop := huffPrefixUptoRow.holds Try.pinned (OpenSpec.upto huffPrefixSpec)

/-- 'aquatintlaw05.HuffTables', WHERE WHAT IT READS IS OF BULK AT MOST 1048576: true; the input reads as it did. -/
def huffTablesUptoRow : OpenClaim := { program := "ytaofponadaifiaa", sum := "360410647294e587209ddb186854a3d17a91f42a188e3cd92e342ba624379341", func := "aquatint/aquatintlaw05.HuffTables", spec := "huffTables", apart := false, narrowed := true }
def HuffTablesUptoSaid : Prop := huffTablesUptoRow.holds Try.pinned (OpenSpec.upto huffTablesSpec)

/-- 'aquatintlaw05.HuffExtends', WHERE WHAT IT READS IS OF BULK AT MOST 1048576: true; the input reads as it did. -/
def huffExtendsUptoRow : OpenClaim := { program := "ytaofponadaifiaa", sum := "360410647294e587209ddb186854a3d17a91f42a188e3cd92e342ba624379341", func := "aquatint/aquatintlaw05.HuffExtends", spec := "huffExtends", apart := false, narrowed := true }
def HuffExtendsUptoSaid : Prop := huffExtendsUptoRow.holds Try.pinned (OpenSpec.upto huffExtendsSpec)

/-- 'aquatintlaw05.HuffReads', WHERE WHAT IT READS IS OF BULK AT MOST 1048576: true; the input reads as it did. -/
def huffReadsUptoRow : OpenClaim := { program := "ytaofponadaifiaa", sum := "360410647294e587209ddb186854a3d17a91f42a188e3cd92e342ba624379341", func := "aquatint/aquatintlaw05.HuffReads", spec := "huffReads", apart := false, narrowed := true }
def HuffReadsUptoSaid : Prop := huffReadsUptoRow.holds Try.pinned (OpenSpec.upto huffReadsSpec)

/-- 'aquatintlaw05.HuffNil', WHERE WHAT IT READS IS OF BULK AT MOST 1048576: true; the input reads as it did. -/
def huffNilUptoRow : OpenClaim := { program := "ytaofponadaifiaa", sum := "360410647294e587209ddb186854a3d17a91f42a188e3cd92e342ba624379341", func := "aquatint/aquatintlaw05.HuffNil", spec := "huffNil", apart := false, narrowed := true }
def HuffNilUptoSaid : Prop := huffNilUptoRow.holds Try.pinned (OpenSpec.upto huffNilSpec)

/-- 'aquatintlaw05.HuffBack', WHERE WHAT IT READS IS OF BULK AT MOST 1048576: true; the input reads as it did. -/
def huffBackUptoRow : OpenClaim := { program := "ytaofponadaifiaa", sum := "360410647294e587209ddb186854a3d17a91f42a188e3cd92e342ba624379341", func := "aquatint/aquatintlaw05.HuffBack", spec := "huffBack", apart := false, narrowed := true }
def HuffBackUptoSaid : Prop := huffBackUptoRow.holds Try.pinned (OpenSpec.upto huffBackSpec)

end Rows
end Go.Proofs.Ytaofponadaifiaa
