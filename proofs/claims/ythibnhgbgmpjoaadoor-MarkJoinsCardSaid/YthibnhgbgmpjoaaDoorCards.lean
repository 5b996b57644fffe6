/-
  DERIVED. GIVEN WITH THE SEED: THE CARDS: each row of YthibnhgbgmpjoaaDoorRows.lean that lists a variable, with what it lists TIED to the program's text (the seventh form; the later family's looks); each row that meets fmt, with fmt's text TOLD by the authors' own Lean function (tested against real Go, not proved from fmt's source: count such statements apart). THE CARD IS WHAT COUNTS. Prove the row's statement (the work); the ties are given (YthibnhgbgmpjoaaDoorTie.lean); close each card by the builder's one call (the guide's Derived/Test/ToyasCard.lean, 'card_holds'). Laid BY PROGRAM, IN A SANDBOX (cutbox-door.mjs). By AI agents, Wed Nov 11 2026. No macro, syntax, notation, axiom, sorry.
-/
import Derived.Test.YthibnhgbgmpjoaaDoorRows
import GoSem.ClaimSeven
namespace Go.Proofs.YthibnhgbgmpjoaaDoor
namespace Rows

/-- THE TIED CARD OF 'aquatintlaw08.MarkTags'. -/
def markTagsCard : Claim7 := { stood := { row := markTagsRow, standIns := [], harness := (true, "c5d6193f619cef845d45909b60c903804a1f86aafaf6caf270878ff8adaa0ea1"), looks := true }, kinds := [], alts := [], laidByText := true, laidKinds := [.data], laidTests := true, laidLooks := .later }
def MarkTagsCardSaid : Prop := Claim7.holds Tryd.pinned (.plain (OpenSpec.ofChange markTagsSpec)) markTagsCard

/-- THE TIED CARD OF 'aquatintlaw08.MarkSplits'. -/
def markSplitsCard : Claim7 := { stood := { row := markSplitsRow, standIns := [], harness := (true, "c5d6193f619cef845d45909b60c903804a1f86aafaf6caf270878ff8adaa0ea1"), looks := true }, kinds := [], alts := [], laidByText := true, laidKinds := [.data], laidTests := true, laidLooks := .later }
def MarkSplitsCardSaid : Prop := Claim7.holds Tryd.pinned (.plain (OpenSpec.ofChange markSplitsSpec)) markSplitsCard

/-- THE TIED CARD OF 'aquatintlaw08.MarkBack'. -/
def markBackCard : Claim7 := { stood := { row := markBackRow, standIns := [], harness := (true, "c5d6193f619cef845d45909b60c903804a1f86aafaf6caf270878ff8adaa0ea1"), looks := true }, kinds := [], alts := [], laidByText := true, laidKinds := [.data], laidTests := true, laidLooks := .later }
def MarkBackCardSaid : Prop := Claim7.holds Tryd.pinned (.plain (OpenSpec.ofChange markBackSpec)) markBackCard

/-- THE TIED CARD OF 'aquatintlaw08.MarkJoins'. -/
def markJoinsCard : Claim7 := { stood := { row := markJoinsRow, standIns := [], harness := (true, "c5d6193f619cef845d45909b60c903804a1f86aafaf6caf270878ff8adaa0ea1"), looks := true }, kinds := [], alts := [], laidByText := true, laidKinds := [.data], laidTests := true, laidLooks := .later }
def MarkJoinsCardSaid : Prop := Claim7.holds Tryd.pinned (.plain (OpenSpec.ofChange markJoinsSpec)) markJoinsCard

/-- THE SECOND FORM's CARD OF 'aquatintlaw08.MarkTags'. -/
def markTagsUptoCard : Claim7 := { stood := { row := markTagsUptoRow, standIns := [], harness := (true, "c5d6193f619cef845d45909b60c903804a1f86aafaf6caf270878ff8adaa0ea1"), looks := true }, kinds := [], alts := [], laidByText := true, laidKinds := [.data], laidTests := true, laidLooks := .later }
def MarkTagsUptoCardSaid : Prop := Claim7.holds Tryd.pinned (.plain (OpenSpec.upto markTagsSpec)) markTagsUptoCard

/-- THE SECOND FORM's CARD OF 'aquatintlaw08.MarkSplits'. -/
def markSplitsUptoCard : Claim7 := { stood := { row := markSplitsUptoRow, standIns := [], harness := (true, "c5d6193f619cef845d45909b60c903804a1f86aafaf6caf270878ff8adaa0ea1"), looks := true }, kinds := [], alts := [], laidByText := true, laidKinds := [.data], laidTests := true, laidLooks := .later }
def MarkSplitsUptoCardSaid : Prop := Claim7.holds Tryd.pinned (.plain (OpenSpec.upto markSplitsSpec)) markSplitsUptoCard

/-- THE SECOND FORM's CARD OF 'aquatintlaw08.MarkBack'. -/
def markBackUptoCard : Claim7 := { stood := { row := markBackUptoRow, standIns := [], harness := (true, "c5d6193f619cef845d45909b60c903804a1f86aafaf6caf270878ff8adaa0ea1"), looks := true }, kinds := [], alts := [], laidByText := true, laidKinds := [.data], laidTests := true, laidLooks := .later }
def MarkBackUptoCardSaid : Prop := Claim7.holds Tryd.pinned (.plain (OpenSpec.upto markBackSpec)) markBackUptoCard

/-- THE SECOND FORM's CARD OF 'aquatintlaw08.MarkJoins'. -/
def markJoinsUptoCard : Claim7 := { stood := { row := markJoinsUptoRow, standIns := [], harness := (true, "c5d6193f619cef845d45909b60c903804a1f86aafaf6caf270878ff8adaa0ea1"), looks := true }, kinds := [], alts := [], laidByText := true, laidKinds := [.data], laidTests := true, laidLooks := .later }
def MarkJoinsUptoCardSaid : Prop := Claim7.holds Tryd.pinned (.plain (OpenSpec.upto markJoinsSpec)) markJoinsUptoCard
end Rows
end Go.Proofs.YthibnhgbgmpjoaaDoor
