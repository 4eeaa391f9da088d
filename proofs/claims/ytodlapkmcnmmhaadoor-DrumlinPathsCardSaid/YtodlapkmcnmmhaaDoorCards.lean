/-
  DERIVED. GIVEN WITH THE SEED: THE CARDS: each row of YtodlapkmcnmmhaaDoorRows.lean that lists a variable, with what it lists TIED to the program's text (the seventh form; the later family's looks); each row that meets fmt, with fmt's text TOLD by the authors' own Lean function (tested against real Go, not proved from fmt's source: count such statements apart). THE CARD IS WHAT COUNTS. Prove the row's statement (the work); the ties are given (YtodlapkmcnmmhaaDoorTie.lean); close each card by the builder's one call (the guide's Derived/Test/ToyasCard.lean, 'card_holds'). Laid BY PROGRAM, IN A SANDBOX (cutbox-door.mjs). By AI agents, Wed Nov 11 2026. No macro, syntax, notation, axiom, sorry.
-/
import Derived.Test.YtodlapkmcnmmhaaDoorRows
import GoSem.ClaimSeven
namespace Go.Proofs.YtodlapkmcnmmhaaDoor
namespace Rows

/-- THE TIED CARD OF 'drumlintop.DrumlinPaths'. -/
def drumlinPathsCard : Claim7 := { stood := { row := drumlinPathsRow, standIns := [], harness := (true, "d20ae37355741ccdd912153257c23841431c3d5c87f6db69eef3080fe8e083e6"), looks := false }, kinds := [], alts := [], laidByText := true, laidKinds := [.data, .pinned], laidTests := true, laidLooks := .later }
def DrumlinPathsCardSaid : Prop := Claim7.holds Tryd.pinned (.plain (OpenSpec.ofChange drumlinPathsSpec)) drumlinPathsCard

/-- THE TIED CARD OF 'drumlinlaw08.NameParses'. -/
def nameParsesCard : Claim7 := { stood := { row := nameParsesRow, standIns := [], harness := (true, "d20ae37355741ccdd912153257c23841431c3d5c87f6db69eef3080fe8e083e6"), looks := false }, kinds := [], alts := [], laidByText := true, laidKinds := [.data, .pinned], laidTests := true, laidLooks := .later }
def NameParsesCardSaid : Prop := Claim7.holds Tryd.pinned (.plain (OpenSpec.ofChange nameParsesSpec)) nameParsesCard

/-- THE TIED CARD OF 'drumlinlaw08.NameLasts'. -/
def nameLastsCard : Claim7 := { stood := { row := nameLastsRow, standIns := [], harness := (true, "d20ae37355741ccdd912153257c23841431c3d5c87f6db69eef3080fe8e083e6"), looks := false }, kinds := [], alts := [], laidByText := true, laidKinds := [.data, .pinned], laidTests := true, laidLooks := .later }
def NameLastsCardSaid : Prop := Claim7.holds Tryd.pinned (.plain (OpenSpec.ofChange nameLastsSpec)) nameLastsCard

/-- THE TIED CARD OF 'drumlinlaw08.NameJoins'. -/
def nameJoinsCard : Claim7 := { stood := { row := nameJoinsRow, standIns := [], harness := (true, "d20ae37355741ccdd912153257c23841431c3d5c87f6db69eef3080fe8e083e6"), looks := false }, kinds := [], alts := [], laidByText := true, laidKinds := [.data, .pinned], laidTests := true, laidLooks := .later }
def NameJoinsCardSaid : Prop := Claim7.holds Tryd.pinned (.plain (OpenSpec.ofChange nameJoinsSpec)) nameJoinsCard

/-- THE TIED CARD OF 'drumlinlaw08.NameCleans'. -/
def nameCleansCard : Claim7 := { stood := { row := nameCleansRow, standIns := [], harness := (true, "d20ae37355741ccdd912153257c23841431c3d5c87f6db69eef3080fe8e083e6"), looks := false }, kinds := [], alts := [], laidByText := true, laidKinds := [.data, .pinned], laidTests := true, laidLooks := .later }
def NameCleansCardSaid : Prop := Claim7.holds Tryd.pinned (.plain (OpenSpec.ofChange nameCleansSpec)) nameCleansCard

/-- THE TIED CARD OF 'drumlinlaw08.NameKeeps'. -/
def nameKeepsCard : Claim7 := { stood := { row := nameKeepsRow, standIns := [], harness := (true, "d20ae37355741ccdd912153257c23841431c3d5c87f6db69eef3080fe8e083e6"), looks := false }, kinds := [], alts := [], laidByText := true, laidKinds := [.data, .pinned], laidTests := true, laidLooks := .later }
def NameKeepsCardSaid : Prop := Claim7.holds Tryd.pinned (.plain (OpenSpec.ofChange nameKeepsSpec)) nameKeepsCard

/-- THE SECOND FORM's CARD OF 'drumlintop.DrumlinPaths'. -/
def drumlinPathsUptoCard : Claim7 := { stood := { row := drumlinPathsUptoRow, standIns := [], harness := (true, "d20ae37355741ccdd912153257c23841431c3d5c87f6db69eef3080fe8e083e6"), looks := false }, kinds := [], alts := [], laidByText := true, laidKinds := [.data, .pinned], laidTests := true, laidLooks := .later }
def DrumlinPathsUptoCardSaid : Prop := Claim7.holds Tryd.pinned (.plain (OpenSpec.upto drumlinPathsSpec)) drumlinPathsUptoCard

/-- THE SECOND FORM's CARD OF 'drumlinlaw08.NameParses'. -/
def nameParsesUptoCard : Claim7 := { stood := { row := nameParsesUptoRow, standIns := [], harness := (true, "d20ae37355741ccdd912153257c23841431c3d5c87f6db69eef3080fe8e083e6"), looks := false }, kinds := [], alts := [], laidByText := true, laidKinds := [.data, .pinned], laidTests := true, laidLooks := .later }
def NameParsesUptoCardSaid : Prop := Claim7.holds Tryd.pinned (.plain (OpenSpec.upto nameParsesSpec)) nameParsesUptoCard

/-- THE SECOND FORM's CARD OF 'drumlinlaw08.NameLasts'. -/
def nameLastsUptoCard : Claim7 := { stood := { row := nameLastsUptoRow, standIns := [], harness := (true, "d20ae37355741ccdd912153257c23841431c3d5c87f6db69eef3080fe8e083e6"), looks := false }, kinds := [], alts := [], laidByText := true, laidKinds := [.data, .pinned], laidTests := true, laidLooks := .later }
def NameLastsUptoCardSaid : Prop := Claim7.holds Tryd.pinned (.plain (OpenSpec.upto nameLastsSpec)) nameLastsUptoCard

/-- THE SECOND FORM's CARD OF 'drumlinlaw08.NameJoins'. -/
def nameJoinsUptoCard : Claim7 := { stood := { row := nameJoinsUptoRow, standIns := [], harness := (true, "d20ae37355741ccdd912153257c23841431c3d5c87f6db69eef3080fe8e083e6"), looks := false }, kinds := [], alts := [], laidByText := true, laidKinds := [.data, .pinned], laidTests := true, laidLooks := .later }
def NameJoinsUptoCardSaid : Prop := Claim7.holds Tryd.pinned (.plain (OpenSpec.upto nameJoinsSpec)) nameJoinsUptoCard

/-- THE SECOND FORM's CARD OF 'drumlinlaw08.NameCleans'. -/
def nameCleansUptoCard : Claim7 := { stood := { row := nameCleansUptoRow, standIns := [], harness := (true, "d20ae37355741ccdd912153257c23841431c3d5c87f6db69eef3080fe8e083e6"), looks := false }, kinds := [], alts := [], laidByText := true, laidKinds := [.data, .pinned], laidTests := true, laidLooks := .later }
def NameCleansUptoCardSaid : Prop := Claim7.holds Tryd.pinned (.plain (OpenSpec.upto nameCleansSpec)) nameCleansUptoCard

/-- THE SECOND FORM's CARD OF 'drumlinlaw08.NameKeeps'. -/
def nameKeepsUptoCard : Claim7 := { stood := { row := nameKeepsUptoRow, standIns := [], harness := (true, "d20ae37355741ccdd912153257c23841431c3d5c87f6db69eef3080fe8e083e6"), looks := false }, kinds := [], alts := [], laidByText := true, laidKinds := [.data, .pinned], laidTests := true, laidLooks := .later }
def NameKeepsUptoCardSaid : Prop := Claim7.holds Tryd.pinned (.plain (OpenSpec.upto nameKeepsSpec)) nameKeepsUptoCard
end Rows
end Go.Proofs.YtodlapkmcnmmhaaDoor
