/-
  DERIVED. GIVEN WITH THE SEED: THE CARDS: each row of YtdohhhkondokkaaDoorRows.lean that lists a variable, with what it lists TIED to the program's text (the seventh form; the later family's looks); each row that meets fmt, with fmt's text TOLD by the authors' own Lean function (tested against real Go, not proved from fmt's source: count such statements apart). THE CARD IS WHAT COUNTS. Prove the row's statement (the work); the ties are given (YtdohhhkondokkaaDoorTie.lean); close each card by the builder's one call (the guide's Derived/Test/ToyasCard.lean, 'card_holds'). Laid BY PROGRAM, IN A SANDBOX (cutbox-door.mjs). By AI agents, Wed Nov 11 2026. No macro, syntax, notation, axiom, sorry.
-/
import Derived.Test.YtdohhhkondokkaaDoorRows
import GoSem.ClaimSeven
namespace Go.Proofs.YtdohhhkondokkaaDoor
namespace Rows

/-- THE TIED CARD OF 'aquatintlaw07.SegBack'. -/
def segBackCard : Claim7 := { stood := { row := segBackRow, standIns := [], harness := (true, "443508ed4c7f246ee930e6a867cfbdb7c268d05324a97b13dc85b84e7332c2cf"), looks := true }, kinds := [], alts := [], laidByText := true, laidKinds := [.data], laidTests := true, laidLooks := .later }
def SegBackCardSaid : Prop := Claim7.holds Tryd.pinned (.plain (OpenSpec.ofChange segBackSpec)) segBackCard

/-- THE TIED CARD OF 'aquatintlaw07.SegParses'. -/
def segParsesCard : Claim7 := { stood := { row := segParsesRow, standIns := [], harness := (true, "443508ed4c7f246ee930e6a867cfbdb7c268d05324a97b13dc85b84e7332c2cf"), looks := true }, kinds := [], alts := [], laidByText := true, laidKinds := [.data], laidTests := true, laidLooks := .later }
def SegParsesCardSaid : Prop := Claim7.holds Tryd.pinned (.plain (OpenSpec.ofChange segParsesSpec)) segParsesCard

/-- THE TIED CARD OF 'aquatintlaw07.SegBares'. -/
def segBaresCard : Claim7 := { stood := { row := segBaresRow, standIns := [], harness := (true, "443508ed4c7f246ee930e6a867cfbdb7c268d05324a97b13dc85b84e7332c2cf"), looks := true }, kinds := [], alts := [], laidByText := true, laidKinds := [.data], laidTests := true, laidLooks := .later }
def SegBaresCardSaid : Prop := Claim7.holds Tryd.pinned (.plain (OpenSpec.ofChange segBaresSpec)) segBaresCard

/-- THE TIED CARD OF 'aquatintlaw07.SegWrites'. -/
def segWritesCard : Claim7 := { stood := { row := segWritesRow, standIns := [], harness := (true, "443508ed4c7f246ee930e6a867cfbdb7c268d05324a97b13dc85b84e7332c2cf"), looks := true }, kinds := [], alts := [], laidByText := true, laidKinds := [.data], laidTests := true, laidLooks := .later }
def SegWritesCardSaid : Prop := Claim7.holds Tryd.pinned (.plain (OpenSpec.ofChange segWritesSpec)) segWritesCard

/-- THE TIED CARD OF 'aquatintlaw07.SegFrames'. -/
def segFramesCard : Claim7 := { stood := { row := segFramesRow, standIns := [], harness := (true, "443508ed4c7f246ee930e6a867cfbdb7c268d05324a97b13dc85b84e7332c2cf"), looks := true }, kinds := [], alts := [], laidByText := true, laidKinds := [.data], laidTests := true, laidLooks := .later }
def SegFramesCardSaid : Prop := Claim7.holds Tryd.pinned (.plain (OpenSpec.ofChange segFramesSpec)) segFramesCard

/-- THE TIED CARD OF 'aquatintlaw07.SegKinds'. -/
def segKindsCard : Claim7 := { stood := { row := segKindsRow, standIns := [], harness := (true, "443508ed4c7f246ee930e6a867cfbdb7c268d05324a97b13dc85b84e7332c2cf"), looks := true }, kinds := [], alts := [], laidByText := true, laidKinds := [.data], laidTests := true, laidLooks := .later }
def SegKindsCardSaid : Prop := Claim7.holds Tryd.pinned (.plain (OpenSpec.ofChange segKindsSpec)) segKindsCard

/-- THE SECOND FORM's CARD OF 'aquatintlaw07.SegBack'. -/
def segBackUptoCard : Claim7 := { stood := { row := segBackUptoRow, standIns := [], harness := (true, "443508ed4c7f246ee930e6a867cfbdb7c268d05324a97b13dc85b84e7332c2cf"), looks := true }, kinds := [], alts := [], laidByText := true, laidKinds := [.data], laidTests := true, laidLooks := .later }
def SegBackUptoCardSaid : Prop := Claim7.holds Tryd.pinned (.plain (OpenSpec.upto segBackSpec)) segBackUptoCard

/-- THE SECOND FORM's CARD OF 'aquatintlaw07.SegParses'. -/
def segParsesUptoCard : Claim7 := { stood := { row := segParsesUptoRow, standIns := [], harness := (true, "443508ed4c7f246ee930e6a867cfbdb7c268d05324a97b13dc85b84e7332c2cf"), looks := true }, kinds := [], alts := [], laidByText := true, laidKinds := [.data], laidTests := true, laidLooks := .later }
def SegParsesUptoCardSaid : Prop := Claim7.holds Tryd.pinned (.plain (OpenSpec.upto segParsesSpec)) segParsesUptoCard

/-- THE SECOND FORM's CARD OF 'aquatintlaw07.SegBares'. -/
def segBaresUptoCard : Claim7 := { stood := { row := segBaresUptoRow, standIns := [], harness := (true, "443508ed4c7f246ee930e6a867cfbdb7c268d05324a97b13dc85b84e7332c2cf"), looks := true }, kinds := [], alts := [], laidByText := true, laidKinds := [.data], laidTests := true, laidLooks := .later }
def SegBaresUptoCardSaid : Prop := Claim7.holds Tryd.pinned (.plain (OpenSpec.upto segBaresSpec)) segBaresUptoCard

/-- THE SECOND FORM's CARD OF 'aquatintlaw07.SegWrites'. -/
def segWritesUptoCard : Claim7 := { stood := { row := segWritesUptoRow, standIns := [], harness := (true, "443508ed4c7f246ee930e6a867cfbdb7c268d05324a97b13dc85b84e7332c2cf"), looks := true }, kinds := [], alts := [], laidByText := true, laidKinds := [.data], laidTests := true, laidLooks := .later }
def SegWritesUptoCardSaid : Prop := Claim7.holds Tryd.pinned (.plain (OpenSpec.upto segWritesSpec)) segWritesUptoCard

/-- THE SECOND FORM's CARD OF 'aquatintlaw07.SegFrames'. -/
def segFramesUptoCard : Claim7 := { stood := { row := segFramesUptoRow, standIns := [], harness := (true, "443508ed4c7f246ee930e6a867cfbdb7c268d05324a97b13dc85b84e7332c2cf"), looks := true }, kinds := [], alts := [], laidByText := true, laidKinds := [.data], laidTests := true, laidLooks := .later }
def SegFramesUptoCardSaid : Prop := Claim7.holds Tryd.pinned (.plain (OpenSpec.upto segFramesSpec)) segFramesUptoCard

/-- THE SECOND FORM's CARD OF 'aquatintlaw07.SegKinds'. -/
def segKindsUptoCard : Claim7 := { stood := { row := segKindsUptoRow, standIns := [], harness := (true, "443508ed4c7f246ee930e6a867cfbdb7c268d05324a97b13dc85b84e7332c2cf"), looks := true }, kinds := [], alts := [], laidByText := true, laidKinds := [.data], laidTests := true, laidLooks := .later }
def SegKindsUptoCardSaid : Prop := Claim7.holds Tryd.pinned (.plain (OpenSpec.upto segKindsSpec)) segKindsUptoCard
end Rows
end Go.Proofs.YtdohhhkondokkaaDoor
