/-
  DERIVED. GIVEN WITH THE SEED: THE CARDS: each row of YtalkeefjnejelaaDoorRows.lean that lists a variable, with what it lists TIED to the program's text (the seventh form; the later family's looks); each row that meets fmt, with fmt's text TOLD by the authors' own Lean function (tested against real Go, not proved from fmt's source: count such statements apart). THE CARD IS WHAT COUNTS. Prove the row's statement (the work); the ties are given (YtalkeefjnejelaaDoorTie.lean); close each card by the builder's one call (the guide's Derived/Test/ToyasCard.lean, 'card_holds'). Laid BY PROGRAM, IN A SANDBOX (cutbox-door.mjs). By AI agents, Wed Nov 11 2026. No macro, syntax, notation, axiom, sorry.
-/
import Derived.Test.YtalkeefjnejelaaDoorRows
import GoSem.ClaimSeven
namespace Go.Proofs.YtalkeefjnejelaaDoor
namespace Rows

/-- THE TIED CARD OF 'aquatintlaw04.ZigOrders'. -/
def zigOrdersCard : Claim7 := { stood := { row := zigOrdersRow, standIns := [], harness := (true, "f753fb668ce040689f2fa5380fcab11bb521d274676ecca4880f039de2dfa8a3"), looks := false }, kinds := [], alts := [], laidByText := true, laidKinds := [.data], laidTests := true, laidLooks := .later }
def ZigOrdersCardSaid : Prop := Claim7.holds Tryd.pinned (.plain (OpenSpec.ofChange zigOrdersSpec)) zigOrdersCard

/-- THE TIED CARD OF 'aquatintlaw04.ZigLast'. -/
def zigLastCard : Claim7 := { stood := { row := zigLastRow, standIns := [], harness := (true, "f753fb668ce040689f2fa5380fcab11bb521d274676ecca4880f039de2dfa8a3"), looks := false }, kinds := [], alts := [], laidByText := true, laidKinds := [.data], laidTests := true, laidLooks := .later }
def ZigLastCardSaid : Prop := Claim7.holds Tryd.pinned (.plain (OpenSpec.ofChange zigLastSpec)) zigLastCard

/-- THE TIED CARD OF 'aquatintlaw04.ZigLines'. -/
def zigLinesCard : Claim7 := { stood := { row := zigLinesRow, standIns := [], harness := (true, "f753fb668ce040689f2fa5380fcab11bb521d274676ecca4880f039de2dfa8a3"), looks := false }, kinds := [], alts := [], laidByText := true, laidKinds := [.data], laidTests := true, laidLooks := .later }
def ZigLinesCardSaid : Prop := Claim7.holds Tryd.pinned (.plain (OpenSpec.ofChange zigLinesSpec)) zigLinesCard

/-- THE TIED CARD OF 'aquatintlaw04.ZigBack'. -/
def zigBackCard : Claim7 := { stood := { row := zigBackRow, standIns := [], harness := (true, "f753fb668ce040689f2fa5380fcab11bb521d274676ecca4880f039de2dfa8a3"), looks := false }, kinds := [], alts := [], laidByText := true, laidKinds := [.data], laidTests := true, laidLooks := .later }
def ZigBackCardSaid : Prop := Claim7.holds Tryd.pinned (.plain (OpenSpec.ofChange zigBackSpec)) zigBackCard

/-- THE TIED CARD OF 'aquatintlaw04.ZigBlocks'. -/
def zigBlocksCard : Claim7 := { stood := { row := zigBlocksRow, standIns := [], harness := (true, "f753fb668ce040689f2fa5380fcab11bb521d274676ecca4880f039de2dfa8a3"), looks := false }, kinds := [], alts := [], laidByText := true, laidKinds := [.data], laidTests := true, laidLooks := .later }
def ZigBlocksCardSaid : Prop := Claim7.holds Tryd.pinned (.plain (OpenSpec.ofChange zigBlocksSpec)) zigBlocksCard

/-- THE TIED CARD OF 'aquatintlaw04.ZigTables'. -/
def zigTablesCard : Claim7 := { stood := { row := zigTablesRow, standIns := [], harness := (true, "f753fb668ce040689f2fa5380fcab11bb521d274676ecca4880f039de2dfa8a3"), looks := false }, kinds := [], alts := [], laidByText := true, laidKinds := [.data], laidTests := true, laidLooks := .later }
def ZigTablesCardSaid : Prop := Claim7.holds Tryd.pinned (.plain (OpenSpec.ofChange zigTablesSpec)) zigTablesCard

/-- THE SECOND FORM's CARD OF 'aquatintlaw04.ZigOrders'. -/
def zigOrdersUptoCard : Claim7 := { stood := { row := zigOrdersUptoRow, standIns := [], harness := (true, "f753fb668ce040689f2fa5380fcab11bb521d274676ecca4880f039de2dfa8a3"), looks := false }, kinds := [], alts := [], laidByText := true, laidKinds := [.data], laidTests := true, laidLooks := .later }
def ZigOrdersUptoCardSaid : Prop := Claim7.holds Tryd.pinned (.plain (OpenSpec.upto zigOrdersSpec)) zigOrdersUptoCard

/-- THE SECOND FORM's CARD OF 'aquatintlaw04.ZigLast'. -/
def zigLastUptoCard : Claim7 := { stood := { row := zigLastUptoRow, standIns := [], harness := (true, "f753fb668ce040689f2fa5380fcab11bb521d274676ecca4880f039de2dfa8a3"), looks := false }, kinds := [], alts := [], laidByText := true, laidKinds := [.data], laidTests := true, laidLooks := .later }
def ZigLastUptoCardSaid : Prop := Claim7.holds Tryd.pinned (.plain (OpenSpec.upto zigLastSpec)) zigLastUptoCard

/-- THE SECOND FORM's CARD OF 'aquatintlaw04.ZigLines'. -/
def zigLinesUptoCard : Claim7 := { stood := { row := zigLinesUptoRow, standIns := [], harness := (true, "f753fb668ce040689f2fa5380fcab11bb521d274676ecca4880f039de2dfa8a3"), looks := false }, kinds := [], alts := [], laidByText := true, laidKinds := [.data], laidTests := true, laidLooks := .later }
def ZigLinesUptoCardSaid : Prop := Claim7.holds Tryd.pinned (.plain (OpenSpec.upto zigLinesSpec)) zigLinesUptoCard

/-- THE SECOND FORM's CARD OF 'aquatintlaw04.ZigBack'. -/
def zigBackUptoCard : Claim7 := { stood := { row := zigBackUptoRow, standIns := [], harness := (true, "f753fb668ce040689f2fa5380fcab11bb521d274676ecca4880f039de2dfa8a3"), looks := false }, kinds := [], alts := [], laidByText := true, laidKinds := [.data], laidTests := true, laidLooks := .later }
def ZigBackUptoCardSaid : Prop := Claim7.holds Tryd.pinned (.plain (OpenSpec.upto zigBackSpec)) zigBackUptoCard

/-- THE SECOND FORM's CARD OF 'aquatintlaw04.ZigBlocks'. -/
def zigBlocksUptoCard : Claim7 := { stood := { row := zigBlocksUptoRow, standIns := [], harness := (true, "f753fb668ce040689f2fa5380fcab11bb521d274676ecca4880f039de2dfa8a3"), looks := false }, kinds := [], alts := [], laidByText := true, laidKinds := [.data], laidTests := true, laidLooks := .later }
def ZigBlocksUptoCardSaid : Prop := Claim7.holds Tryd.pinned (.plain (OpenSpec.upto zigBlocksSpec)) zigBlocksUptoCard

/-- THE SECOND FORM's CARD OF 'aquatintlaw04.ZigTables'. -/
def zigTablesUptoCard : Claim7 := { stood := { row := zigTablesUptoRow, standIns := [], harness := (true, "f753fb668ce040689f2fa5380fcab11bb521d274676ecca4880f039de2dfa8a3"), looks := false }, kinds := [], alts := [], laidByText := true, laidKinds := [.data], laidTests := true, laidLooks := .later }
def ZigTablesUptoCardSaid : Prop := Claim7.holds Tryd.pinned (.plain (OpenSpec.upto zigTablesSpec)) zigTablesUptoCard
end Rows
end Go.Proofs.YtalkeefjnejelaaDoor
