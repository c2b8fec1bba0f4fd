/-
  DERIVED. GIVEN WITH THE SEED: THE CARDS: each row of YtpejkcmkboegdaaDoorRows.lean that lists a variable, with what it lists TIED to the program's text (the seventh form; the later family's looks); each row that meets fmt, with fmt's text TOLD by the authors' own Lean function (tested against real Go, not proved from fmt's source: count such statements apart). THE CARD IS WHAT COUNTS. Prove the row's statement (the work); the ties are given (YtpejkcmkboegdaaDoorTie.lean); close each card by the builder's one call (the guide's Derived/Test/ToyasCard.lean, 'card_holds'). Laid BY PROGRAM, IN A SANDBOX (cutbox-door.mjs). By AI agents, Wed Nov 11 2026. No macro, syntax, notation, axiom, sorry.
-/
import Derived.Test.YtpejkcmkboegdaaDoorRows
import GoSem.ClaimSeven
namespace Go.Proofs.YtpejkcmkboegdaaDoor
namespace Rows

/-- THE TIED CARD OF 'moatlaw04.LabelTexts'. -/
def labelTextsCard : Claim7 := { stood := { row := labelTextsRow, standIns := [], harness := (true, "c417201eb3d783debcbc0e2e4f07941c79809183ec7ed771f018481866310294"), looks := true }, kinds := [], alts := [], laidByText := true, laidKinds := [.data, .data, .data, .data, .sentinel, .sentinel, .pinned], laidTests := true, laidLooks := .later }
def LabelTextsCardSaid : Prop := Claim7.holds Tryd.pinned (.plain (OpenSpec.ofChange labelTextsSpec)) labelTextsCard

/-- THE TIED CARD OF 'moatlaw04.LabelBack'. -/
def labelBackCard : Claim7 := { stood := { row := labelBackRow, standIns := [], harness := (true, "c417201eb3d783debcbc0e2e4f07941c79809183ec7ed771f018481866310294"), looks := true }, kinds := [], alts := [], laidByText := true, laidKinds := [.data, .data, .data, .data, .sentinel, .sentinel, .pinned], laidTests := true, laidLooks := .later }
def LabelBackCardSaid : Prop := Claim7.holds Tryd.pinned (.plain (OpenSpec.ofChange labelBackSpec)) labelBackCard

/-- THE TIED CARD OF 'moatlaw04.LabelOrder'. -/
def labelOrderCard : Claim7 := { stood := { row := labelOrderRow, standIns := [], harness := (true, "c417201eb3d783debcbc0e2e4f07941c79809183ec7ed771f018481866310294"), looks := true }, kinds := [], alts := [], laidByText := true, laidKinds := [.data, .data, .data, .data, .sentinel, .sentinel, .pinned], laidTests := true, laidLooks := .later }
def LabelOrderCardSaid : Prop := Claim7.holds Tryd.pinned (.plain (OpenSpec.ofChange labelOrderSpec)) labelOrderCard

/-- THE TIED CARD OF 'moatlaw04.LabelJoins'. -/
def labelJoinsCard : Claim7 := { stood := { row := labelJoinsRow, standIns := [], harness := (true, "c417201eb3d783debcbc0e2e4f07941c79809183ec7ed771f018481866310294"), looks := true }, kinds := [], alts := [], laidByText := true, laidKinds := [.data, .data, .data, .data, .sentinel, .sentinel, .pinned], laidTests := true, laidLooks := .later }
def LabelJoinsCardSaid : Prop := Claim7.holds Tryd.pinned (.plain (OpenSpec.ofChange labelJoinsSpec)) labelJoinsCard

/-- THE TIED CARD OF 'moatlaw04.LabelBounds'. -/
def labelBoundsCard : Claim7 := { stood := { row := labelBoundsRow, standIns := [], harness := (true, "c417201eb3d783debcbc0e2e4f07941c79809183ec7ed771f018481866310294"), looks := true }, kinds := [], alts := [], laidByText := true, laidKinds := [.data, .data, .data, .data, .sentinel, .sentinel, .pinned], laidTests := true, laidLooks := .later }
def LabelBoundsCardSaid : Prop := Claim7.holds Tryd.pinned (.plain (OpenSpec.ofChange labelBoundsSpec)) labelBoundsCard

/-- THE TIED CARD OF 'moatlaw04.LabelStands'. -/
def labelStandsCard : Claim7 := { stood := { row := labelStandsRow, standIns := [], harness := (true, "c417201eb3d783debcbc0e2e4f07941c79809183ec7ed771f018481866310294"), looks := true }, kinds := [], alts := [], laidByText := true, laidKinds := [.data, .data, .data, .data, .sentinel, .sentinel, .pinned], laidTests := true, laidLooks := .later }
def LabelStandsCardSaid : Prop := Claim7.holds Tryd.pinned (.plain (OpenSpec.ofChange labelStandsSpec)) labelStandsCard

/-- THE TIED CARD OF 'moatlaw04.LabelSets'. -/
def labelSetsCard : Claim7 := { stood := { row := labelSetsRow, standIns := [], harness := (true, "c417201eb3d783debcbc0e2e4f07941c79809183ec7ed771f018481866310294"), looks := true }, kinds := [], alts := [], laidByText := true, laidKinds := [.data, .data, .data, .data, .sentinel, .sentinel, .pinned], laidTests := true, laidLooks := .later }
def LabelSetsCardSaid : Prop := Claim7.holds Tryd.pinned (.plain (OpenSpec.ofChange labelSetsSpec)) labelSetsCard

/-- THE SECOND FORM's CARD OF 'moatlaw04.LabelTexts'. -/
def labelTextsUptoCard : Claim7 := { stood := { row := labelTextsUptoRow, standIns := [], harness := (true, "c417201eb3d783debcbc0e2e4f07941c79809183ec7ed771f018481866310294"), looks := true }, kinds := [], alts := [], laidByText := true, laidKinds := [.data, .data, .data, .data, .sentinel, .sentinel, .pinned], laidTests := true, laidLooks := .later }
def LabelTextsUptoCardSaid : Prop := Claim7.holds Tryd.pinned (.plain (OpenSpec.upto labelTextsSpec)) labelTextsUptoCard

/-- THE SECOND FORM's CARD OF 'moatlaw04.LabelBack'. -/
def labelBackUptoCard : Claim7 := { stood := { row := labelBackUptoRow, standIns := [], harness := (true, "c417201eb3d783debcbc0e2e4f07941c79809183ec7ed771f018481866310294"), looks := true }, kinds := [], alts := [], laidByText := true, laidKinds := [.data, .data, .data, .data, .sentinel, .sentinel, .pinned], laidTests := true, laidLooks := .later }
def LabelBackUptoCardSaid : Prop := Claim7.holds Tryd.pinned (.plain (OpenSpec.upto labelBackSpec)) labelBackUptoCard

/-- THE SECOND FORM's CARD OF 'moatlaw04.LabelOrder'. -/
def labelOrderUptoCard : Claim7 := { stood := { row := labelOrderUptoRow, standIns := [], harness := (true, "c417201eb3d783debcbc0e2e4f07941c79809183ec7ed771f018481866310294"), looks := true }, kinds := [], alts := [], laidByText := true, laidKinds := [.data, .data, .data, .data, .sentinel, .sentinel, .pinned], laidTests := true, laidLooks := .later }
def LabelOrderUptoCardSaid : Prop := Claim7.holds Tryd.pinned (.plain (OpenSpec.upto labelOrderSpec)) labelOrderUptoCard

/-- THE SECOND FORM's CARD OF 'moatlaw04.LabelJoins'. -/
def labelJoinsUptoCard : Claim7 := { stood := { row := labelJoinsUptoRow, standIns := [], harness := (true, "c417201eb3d783debcbc0e2e4f07941c79809183ec7ed771f018481866310294"), looks := true }, kinds := [], alts := [], laidByText := true, laidKinds := [.data, .data, .data, .data, .sentinel, .sentinel, .pinned], laidTests := true, laidLooks := .later }
def LabelJoinsUptoCardSaid : Prop := Claim7.holds Tryd.pinned (.plain (OpenSpec.upto labelJoinsSpec)) labelJoinsUptoCard

/-- THE SECOND FORM's CARD OF 'moatlaw04.LabelBounds'. -/
def labelBoundsUptoCard : Claim7 := { stood := { row := labelBoundsUptoRow, standIns := [], harness := (true, "c417201eb3d783debcbc0e2e4f07941c79809183ec7ed771f018481866310294"), looks := true }, kinds := [], alts := [], laidByText := true, laidKinds := [.data, .data, .data, .data, .sentinel, .sentinel, .pinned], laidTests := true, laidLooks := .later }
def LabelBoundsUptoCardSaid : Prop := Claim7.holds Tryd.pinned (.plain (OpenSpec.upto labelBoundsSpec)) labelBoundsUptoCard

/-- THE SECOND FORM's CARD OF 'moatlaw04.LabelStands'. -/
def labelStandsUptoCard : Claim7 := { stood := { row := labelStandsUptoRow, standIns := [], harness := (true, "c417201eb3d783debcbc0e2e4f07941c79809183ec7ed771f018481866310294"), looks := true }, kinds := [], alts := [], laidByText := true, laidKinds := [.data, .data, .data, .data, .sentinel, .sentinel, .pinned], laidTests := true, laidLooks := .later }
def LabelStandsUptoCardSaid : Prop := Claim7.holds Tryd.pinned (.plain (OpenSpec.upto labelStandsSpec)) labelStandsUptoCard

/-- THE SECOND FORM's CARD OF 'moatlaw04.LabelSets'. -/
def labelSetsUptoCard : Claim7 := { stood := { row := labelSetsUptoRow, standIns := [], harness := (true, "c417201eb3d783debcbc0e2e4f07941c79809183ec7ed771f018481866310294"), looks := true }, kinds := [], alts := [], laidByText := true, laidKinds := [.data, .data, .data, .data, .sentinel, .sentinel, .pinned], laidTests := true, laidLooks := .later }
def LabelSetsUptoCardSaid : Prop := Claim7.holds Tryd.pinned (.plain (OpenSpec.upto labelSetsSpec)) labelSetsUptoCard
end Rows
end Go.Proofs.YtpejkcmkboegdaaDoor
