/-
  DERIVED. GIVEN WITH THE SEED: THE CARDS: each row of YtckkdaehmccjlaaDoorRows.lean that lists a variable, with what it lists TIED to the program's text (the seventh form; the later family's looks); each row that meets fmt, with fmt's text TOLD by the authors' own Lean function (tested against real Go, not proved from fmt's source: count such statements apart). THE CARD IS WHAT COUNTS. Prove the row's statement (the work); the ties are given (YtckkdaehmccjlaaDoorTie.lean); close each card by the builder's one call (the guide's Derived/Test/ToyasCard.lean, 'card_holds'). Laid BY PROGRAM, IN A SANDBOX (cutbox-door.mjs). By AI agents, Wed Nov 11 2026. No macro, syntax, notation, axiom, sorry.
-/
import Derived.Test.YtckkdaehmccjlaaDoorRows
import GoSem.ClaimSeven
namespace Go.Proofs.YtckkdaehmccjlaaDoor
namespace Rows

/-- THE TIED CARD OF 'backseatlaw10.FindLooks'. -/
def findLooksCard : Claim7 := { stood := { row := findLooksRow, standIns := [], harness := (true, "56f34029b3037d658335f65c104c5fb094e35f5c91688626dc0cdcff1830fce7"), looks := false }, kinds := [], alts := [], laidByText := true, laidKinds := [.data, .pinned], laidTests := true, laidLooks := .later }
def FindLooksCardSaid : Prop := Claim7.holds Tryd.pinned (.plain (OpenSpec.ofChange findLooksSpec)) findLooksCard

/-- THE TIED CARD OF 'backseatlaw10.FindBack'. -/
def findBackCard : Claim7 := { stood := { row := findBackRow, standIns := [], harness := (true, "56f34029b3037d658335f65c104c5fb094e35f5c91688626dc0cdcff1830fce7"), looks := false }, kinds := [], alts := [], laidByText := true, laidKinds := [.data, .pinned], laidTests := true, laidLooks := .later }
def FindBackCardSaid : Prop := Claim7.holds Tryd.pinned (.plain (OpenSpec.ofChange findBackSpec)) findBackCard

/-- THE TIED CARD OF 'backseatlaw08.FlowJoins'. -/
def flowJoinsCard : Claim7 := { stood := { row := flowJoinsRow, standIns := [], harness := (true, "56f34029b3037d658335f65c104c5fb094e35f5c91688626dc0cdcff1830fce7"), looks := false }, kinds := [], alts := [], laidByText := true, laidKinds := [.data, .pinned], laidTests := true, laidLooks := .later }
def FlowJoinsCardSaid : Prop := Claim7.holds Tryd.pinned (.plain (OpenSpec.ofChange flowJoinsSpec)) flowJoinsCard

/-- THE TIED CARD OF 'backseatlaw08.FlowFolds'. -/
def flowFoldsCard : Claim7 := { stood := { row := flowFoldsRow, standIns := [], harness := (true, "56f34029b3037d658335f65c104c5fb094e35f5c91688626dc0cdcff1830fce7"), looks := false }, kinds := [], alts := [], laidByText := true, laidKinds := [.data, .pinned], laidTests := true, laidLooks := .later }
def FlowFoldsCardSaid : Prop := Claim7.holds Tryd.pinned (.plain (OpenSpec.ofChange flowFoldsSpec)) flowFoldsCard

/-- THE TIED CARD OF 'backseatlaw08.FlowTurns'. -/
def flowTurnsCard : Claim7 := { stood := { row := flowTurnsRow, standIns := [], harness := (true, "56f34029b3037d658335f65c104c5fb094e35f5c91688626dc0cdcff1830fce7"), looks := false }, kinds := [], alts := [], laidByText := true, laidKinds := [.data, .pinned], laidTests := true, laidLooks := .later }
def FlowTurnsCardSaid : Prop := Claim7.holds Tryd.pinned (.plain (OpenSpec.ofChange flowTurnsSpec)) flowTurnsCard

/-- THE TIED CARD OF 'backseatlaw10.FindTakes'. -/
def findTakesCard : Claim7 := { stood := { row := findTakesRow, standIns := [], harness := (true, "56f34029b3037d658335f65c104c5fb094e35f5c91688626dc0cdcff1830fce7"), looks := false }, kinds := [], alts := [], laidByText := true, laidKinds := [.data, .pinned], laidTests := true, laidLooks := .later }
def FindTakesCardSaid : Prop := Claim7.holds Tryd.pinned (.plain (OpenSpec.ofChange findTakesSpec)) findTakesCard

/-- THE SECOND FORM's CARD OF 'backseatlaw10.FindLooks'. -/
def findLooksUptoCard : Claim7 := { stood := { row := findLooksUptoRow, standIns := [], harness := (true, "56f34029b3037d658335f65c104c5fb094e35f5c91688626dc0cdcff1830fce7"), looks := false }, kinds := [], alts := [], laidByText := true, laidKinds := [.data, .pinned], laidTests := true, laidLooks := .later }
def FindLooksUptoCardSaid : Prop := Claim7.holds Tryd.pinned (.plain (OpenSpec.upto findLooksSpec)) findLooksUptoCard

/-- THE SECOND FORM's CARD OF 'backseatlaw10.FindBack'. -/
def findBackUptoCard : Claim7 := { stood := { row := findBackUptoRow, standIns := [], harness := (true, "56f34029b3037d658335f65c104c5fb094e35f5c91688626dc0cdcff1830fce7"), looks := false }, kinds := [], alts := [], laidByText := true, laidKinds := [.data, .pinned], laidTests := true, laidLooks := .later }
def FindBackUptoCardSaid : Prop := Claim7.holds Tryd.pinned (.plain (OpenSpec.upto findBackSpec)) findBackUptoCard

/-- THE SECOND FORM's CARD OF 'backseatlaw08.FlowJoins'. -/
def flowJoinsUptoCard : Claim7 := { stood := { row := flowJoinsUptoRow, standIns := [], harness := (true, "56f34029b3037d658335f65c104c5fb094e35f5c91688626dc0cdcff1830fce7"), looks := false }, kinds := [], alts := [], laidByText := true, laidKinds := [.data, .pinned], laidTests := true, laidLooks := .later }
def FlowJoinsUptoCardSaid : Prop := Claim7.holds Tryd.pinned (.plain (OpenSpec.upto flowJoinsSpec)) flowJoinsUptoCard

/-- THE SECOND FORM's CARD OF 'backseatlaw08.FlowFolds'. -/
def flowFoldsUptoCard : Claim7 := { stood := { row := flowFoldsUptoRow, standIns := [], harness := (true, "56f34029b3037d658335f65c104c5fb094e35f5c91688626dc0cdcff1830fce7"), looks := false }, kinds := [], alts := [], laidByText := true, laidKinds := [.data, .pinned], laidTests := true, laidLooks := .later }
def FlowFoldsUptoCardSaid : Prop := Claim7.holds Tryd.pinned (.plain (OpenSpec.upto flowFoldsSpec)) flowFoldsUptoCard

/-- THE SECOND FORM's CARD OF 'backseatlaw08.FlowTurns'. -/
def flowTurnsUptoCard : Claim7 := { stood := { row := flowTurnsUptoRow, standIns := [], harness := (true, "56f34029b3037d658335f65c104c5fb094e35f5c91688626dc0cdcff1830fce7"), looks := false }, kinds := [], alts := [], laidByText := true, laidKinds := [.data, .pinned], laidTests := true, laidLooks := .later }
def FlowTurnsUptoCardSaid : Prop := Claim7.holds Tryd.pinned (.plain (OpenSpec.upto flowTurnsSpec)) flowTurnsUptoCard

/-- THE SECOND FORM's CARD OF 'backseatlaw10.FindTakes'. -/
def findTakesUptoCard : Claim7 := { stood := { row := findTakesUptoRow, standIns := [], harness := (true, "56f34029b3037d658335f65c104c5fb094e35f5c91688626dc0cdcff1830fce7"), looks := false }, kinds := [], alts := [], laidByText := true, laidKinds := [.data, .pinned], laidTests := true, laidLooks := .later }
def FindTakesUptoCardSaid : Prop := Claim7.holds Tryd.pinned (.plain (OpenSpec.upto findTakesSpec)) findTakesUptoCard
end Rows
end Go.Proofs.YtckkdaehmccjlaaDoor
