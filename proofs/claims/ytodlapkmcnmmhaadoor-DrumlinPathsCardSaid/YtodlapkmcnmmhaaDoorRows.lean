/-
  NARROWER THAN 'FOR EVERY INPUT', by the rows' own cells (each row's printed sentence says how): DrumlinPaths: laid · NameParses: laid · NameLasts: laid · NameJoins: laid · NameCleans: laid · NameKeeps: laid.
  DERIVED. THE GIVEN ROWS OF THIS SEAT. 6 by the template 'for every input the law returns true; each argument reads behind the call as it read before'; 0 by the template 'total and deterministic' (their statements: YtodlapkmcnmmhaaDoorTotals.lean).
  GIVEN WITH THE SEED: the statements are not yours to turn. If you find one false, say at which input.
  Laid BY PROGRAM, IN A SANDBOX (cutbox-rows.mjs): the forced cells as the released guide's own fill.sh prints them over the translation 55d0797c3dc324fa… (all of the seat's roots in one cut). By AI agents, Wed Nov 11 2026. No macro, syntax, notation, axiom, sorry.
-/
import Derived.Test.YtodlapkmcnmmhaaDoorChecked
import GoSem.PinnedTables
import GoSem.Claim
import GoSem.ClaimJoined
import GoSem.ClaimMapViews
import Derived.JoinedTies
import Derived.KernelRfl
namespace Go.Proofs.YtodlapkmcnmmhaaDoor
/- THE CELL 'sum', in the pinned program and in every row, IS THE sha256 OF THE DUMP (.gsa) THAT YtodlapkmcnmmhaaDoorProg.lean LOADS. Nothing in Lean hashes anything: it is a label: what it is worth is what the hold of that sum in a sandbox is worth. -/
noncomputable def Tryd.pinned : Pinned := { name := "ytodlapkmcnmmhaadoor", sum := "55d0797c3dc324fa19ff4a41720865388e72e6c487cee4df61b8e6c353e9fe71", checked := Tryd.checked }
namespace Rows
def none {H : Type} : Left H := { results := [], args := [] }

/- WHAT THE LISTED PACKAGE-LEVEL VARIABLES READ AS WHEN THE CALL BEGINS. Each datum BY PROGRAM (the guide's laid-datum.mjs) off the statement by which the dump's own 'gosem.cut.vars' lays the variable. In a bare row this is a premise. The card (YtodlapkmcnmmhaaDoorCards.lean) ties it to the program's text. -/
def laid_unicode_utf8_acceptRanges {H : Type} : DataW H := .agg [.agg [.lit (.int .u8 128), .lit (.int .u8 191)], .agg [.lit (.int .u8 160), .lit (.int .u8 191)], .agg [.lit (.int .u8 128), .lit (.int .u8 159)], .agg [.lit (.int .u8 144), .lit (.int .u8 191)], .agg [.lit (.int .u8 128), .lit (.int .u8 143)], .agg [.lit (.int .u8 0), .lit (.int .u8 0)], .agg [.lit (.int .u8 0), .lit (.int .u8 0)], .agg [.lit (.int .u8 0), .lit (.int .u8 0)], .agg [.lit (.int .u8 0), .lit (.int .u8 0)], .agg [.lit (.int .u8 0), .lit (.int .u8 0)], .agg [.lit (.int .u8 0), .lit (.int .u8 0)], .agg [.lit (.int .u8 0), .lit (.int .u8 0)], .agg [.lit (.int .u8 0), .lit (.int .u8 0)], .agg [.lit (.int .u8 0), .lit (.int .u8 0)], .agg [.lit (.int .u8 0), .lit (.int .u8 0)], .agg [.lit (.int .u8 0), .lit (.int .u8 0)]]
/-- One of Go's own tables, pinned by name: the form's constant. -/
def laid_unicode_utf8_first : DataW Unit := Go.Pinned.utf8First

/-- 'drumlintop.DrumlinPaths': WHATEVER THE INPUT: true; the input reads as it did. -/
def drumlinPathsSpec : ChangeSpec := { name := "drumlinPaths", fn := fun _ => fun
  | [d1, d2, d3] => { results := [.lit (.bool true)], args := [d1, d2, d3] }
  | _ => none }
def drumlinPathsRow : OpenClaim := { program := "ytodlapkmcnmmhaadoor", sum := "55d0797c3dc324fa19ff4a41720865388e72e6c487cee4df61b8e6c353e9fe71", func := "drumlin/drumlintop.DrumlinPaths", spec := "drumlinPaths", inPlace := ["internal/bytealg.IndexByteString", "internal/bytealg.CountString", "internal/bytealg.IndexString"], unfollowed := true, recurses := true, named := ["unicode/utf8.first", "unicode/utf8.acceptRanges", "internal/bytealg.MaxLen"], plainKeys := false, apart := false, laid := [("unicode/utf8.acceptRanges", laid_unicode_utf8_acceptRanges), ("unicode/utf8.first", laid_unicode_utf8_first)] }
def DrumlinPathsSaid : Prop := drumlinPathsRow.holds Tryd.pinned (OpenSpec.ofChange drumlinPathsSpec)

/-- ITS FALSE NEIGHBOUR: 'it returns false'. Refute it at one input. -/
def drumlinPathsWrong : ChangeSpec := { name := "drumlinPaths", fn := fun _ => fun
  | [d1, d2, d3] => { results := [.lit (.bool false)], args := [d1, d2, d3] }
  | _ => none }
def DrumlinPathsWrongFalsely : Prop := drumlinPathsRow.holds Tryd.pinned (OpenSpec.ofChange drumlinPathsWrong)

/-- 'drumlinlaw08.NameParses': WHATEVER THE INPUT: true; the input reads as it did. -/
def nameParsesSpec : ChangeSpec := { name := "nameParses", fn := fun _ => fun
  | [d] => { results := [.lit (.bool true)], args := [d] }
  | _ => none }
def nameParsesRow : OpenClaim := { program := "ytodlapkmcnmmhaadoor", sum := "55d0797c3dc324fa19ff4a41720865388e72e6c487cee4df61b8e6c353e9fe71", func := "drumlin/drumlinlaw08.NameParses", spec := "nameParses", inPlace := ["internal/bytealg.IndexByteString", "internal/bytealg.CountString", "internal/bytealg.IndexString", "internal/abi.NoEscape", "internal/bytealg.MakeNoZero"], named := ["unicode/utf8.first", "unicode/utf8.acceptRanges", "internal/bytealg.MaxLen"], plainKeys := false, apart := false, laid := [("unicode/utf8.acceptRanges", laid_unicode_utf8_acceptRanges), ("unicode/utf8.first", laid_unicode_utf8_first)] }
def NameParsesSaid : Prop := nameParsesRow.holds Tryd.pinned (OpenSpec.ofChange nameParsesSpec)

/-- ITS FALSE NEIGHBOUR: 'it returns false'. Refute it at one input. -/
def nameParsesWrong : ChangeSpec := { name := "nameParses", fn := fun _ => fun
  | [d] => { results := [.lit (.bool false)], args := [d] }
  | _ => none }
def NameParsesWrongFalsely : Prop := nameParsesRow.holds Tryd.pinned (OpenSpec.ofChange nameParsesWrong)

/-- 'drumlinlaw08.NameLasts': WHATEVER THE INPUT: true; the input reads as it did. -/
def nameLastsSpec : ChangeSpec := { name := "nameLasts", fn := fun _ => fun
  | [d] => { results := [.lit (.bool true)], args := [d] }
  | _ => none }
def nameLastsRow : OpenClaim := { program := "ytodlapkmcnmmhaadoor", sum := "55d0797c3dc324fa19ff4a41720865388e72e6c487cee4df61b8e6c353e9fe71", func := "drumlin/drumlinlaw08.NameLasts", spec := "nameLasts", inPlace := ["internal/bytealg.IndexByteString", "internal/bytealg.CountString", "internal/bytealg.IndexString", "internal/abi.NoEscape", "internal/bytealg.MakeNoZero"], named := ["unicode/utf8.first", "unicode/utf8.acceptRanges", "internal/bytealg.MaxLen"], plainKeys := false, apart := false, laid := [("unicode/utf8.acceptRanges", laid_unicode_utf8_acceptRanges), ("unicode/utf8.first", laid_unicode_utf8_first)] }
def NameLastsSaid : Prop := nameLastsRow.holds Tryd.pinned (OpenSpec.ofChange nameLastsSpec)

/-- ITS FALSE NEIGHBOUR: 'it returns false'. Refute it at one input. -/
def nameLastsWrong : ChangeSpec := { name := "nameLasts", fn := fun _ => fun
  | [d] => { results := [.lit (.bool false)], args := [d] }
  | _ => none }
def NameLastsWrongFalsely : Prop := nameLastsRow.holds Tryd.pinned (OpenSpec.ofChange nameLastsWrong)

/-- 'drumlinlaw08.NameJoins': WHATEVER THE INPUT: true; the input reads as it did. -/
def nameJoinsSpec : ChangeSpec := { name := "nameJoins", fn := fun _ => fun
  | [d1, d2] => { results := [.lit (.bool true)], args := [d1, d2] }
  | _ => none }
def nameJoinsRow : OpenClaim := { program := "ytodlapkmcnmmhaadoor", sum := "55d0797c3dc324fa19ff4a41720865388e72e6c487cee4df61b8e6c353e9fe71", func := "drumlin/drumlinlaw08.NameJoins", spec := "nameJoins", inPlace := ["internal/bytealg.IndexByteString", "internal/bytealg.CountString", "internal/bytealg.IndexString", "internal/abi.NoEscape", "internal/bytealg.MakeNoZero"], named := ["unicode/utf8.first", "unicode/utf8.acceptRanges", "internal/bytealg.MaxLen"], plainKeys := false, apart := false, laid := [("unicode/utf8.acceptRanges", laid_unicode_utf8_acceptRanges), ("unicode/utf8.first", laid_unicode_utf8_first)] }
def NameJoinsSaid : Prop := nameJoinsRow.holds Tryd.pinned (OpenSpec.ofChange nameJoinsSpec)

/-- ITS FALSE NEIGHBOUR: 'it returns false'. Refute it at one input. -/
def nameJoinsWrong : ChangeSpec := { name := "nameJoins", fn := fun _ => fun
  | [d1, d2] => { results := [.lit (.bool false)], args := [d1, d2] }
  | _ => none }
def NameJoinsWrongFalsely : Prop := nameJoinsRow.holds Tryd.pinned (OpenSpec.ofChange nameJoinsWrong)

/-- 'drumlinlaw08.NameCleans': WHATEVER THE INPUT: true; the input reads as it did. -/
def nameCleansSpec : ChangeSpec := { name := "nameCleans", fn := fun _ => fun
  | [d] => { results := [.lit (.bool true)], args := [d] }
  | _ => none }
def nameCleansRow : OpenClaim := { program := "ytodlapkmcnmmhaadoor", sum := "55d0797c3dc324fa19ff4a41720865388e72e6c487cee4df61b8e6c353e9fe71", func := "drumlin/drumlinlaw08.NameCleans", spec := "nameCleans", inPlace := ["internal/bytealg.IndexByteString", "internal/bytealg.CountString", "internal/bytealg.IndexString", "internal/abi.NoEscape", "internal/bytealg.MakeNoZero"], named := ["unicode/utf8.first", "unicode/utf8.acceptRanges", "internal/bytealg.MaxLen"], plainKeys := false, apart := false, laid := [("unicode/utf8.acceptRanges", laid_unicode_utf8_acceptRanges), ("unicode/utf8.first", laid_unicode_utf8_first)] }
def NameCleansSaid : Prop := nameCleansRow.holds Tryd.pinned (OpenSpec.ofChange nameCleansSpec)

/-- ITS FALSE NEIGHBOUR: 'it returns false'. Refute it at one input. -/
def nameCleansWrong : ChangeSpec := { name := "nameCleans", fn := fun _ => fun
  | [d] => { results := [.lit (.bool false)], args := [d] }
  | _ => none }
def NameCleansWrongFalsely : Prop := nameCleansRow.holds Tryd.pinned (OpenSpec.ofChange nameCleansWrong)

/-- 'drumlinlaw08.NameKeeps': WHATEVER THE INPUT: true; the input reads as it did. -/
def nameKeepsSpec : ChangeSpec := { name := "nameKeeps", fn := fun _ => fun
  | [d1, d2] => { results := [.lit (.bool true)], args := [d1, d2] }
  | _ => none }
def nameKeepsRow : OpenClaim := { program := "ytodlapkmcnmmhaadoor", sum := "55d0797c3dc324fa19ff4a41720865388e72e6c487cee4df61b8e6c353e9fe71", func := "drumlin/drumlinlaw08.NameKeeps", spec := "nameKeeps", inPlace := ["internal/bytealg.IndexByteString", "internal/bytealg.CountString", "internal/bytealg.IndexString", "internal/abi.NoEscape", "internal/bytealg.MakeNoZero"], named := ["unicode/utf8.first", "unicode/utf8.acceptRanges", "internal/bytealg.MaxLen"], plainKeys := false, apart := false, laid := [("unicode/utf8.acceptRanges", laid_unicode_utf8_acceptRanges), ("unicode/utf8.first", laid_unicode_utf8_first)] }
def NameKeepsSaid : Prop := nameKeepsRow.holds Tryd.pinned (OpenSpec.ofChange nameKeepsSpec)

/-- ITS FALSE NEIGHBOUR: 'it returns false'. Refute it at one input. -/
def nameKeepsWrong : ChangeSpec := { name := "nameKeeps", fn := fun _ => fun
  | [d1, d2] => { results := [.lit (.bool false)], args := [d1, d2] }
  | _ => none }
def NameKeepsWrongFalsely : Prop := nameKeepsRow.holds Tryd.pinned (OpenSpec.ofChange nameKeepsWrong)

/- THE SECOND FORM. 'bulk': how many values and letters a reading holds, each counted each time it is reached (what is shared counts as often as it is met; a slice's spare places count too). A statement '..UptoSaid' is the law's where the arguments, and the package variables that the reading takes, are together of bulk at most 1048576: NARROWER than '..Said'. Prove '..Said' where nothing that the law and all that it calls make is longer than what came in: it says more and counts as full. Else prove '..UptoSaid'. A law counts once. -/
mutual
def uptoBulk {H : Type} : DataW H → Nat
  | .lit (.string bytes) => bytes.length + 1
  | .lit _ => 1
  | .nil => 1
  | .ptr d => uptoBulk d + 1
  | .slice elems spare => uptoBulkAll elems + uptoBulkAll spare + 1
  | .agg parts => uptoBulkAll parts + 1
  | .iface _ d => uptoBulk d + 1
  | .map entries => uptoBulkEntries entries + 1
  | .held _ => 1
def uptoBulkAll {H : Type} : List (DataW H) → Nat
  | [] => 0
  | d :: r => uptoBulk d + uptoBulkAll r
def uptoBulkEntries {H : Type} : List (Lit × DataW H) → Nat
  | [] => 0
  | x :: r => uptoBulkEntry x + uptoBulkEntries r
def uptoBulkEntry {H : Type} : Lit × DataW H → Nat
  | (.string bytes, d) => bytes.length + uptoBulk d + 1
  | (_, d) => uptoBulk d + 1
 end
def uptoSmall : (H : Type) → List (DataW H) → Bool := fun _ ds => decide (uptoBulkAll ds ≤ 1048576)
def OpenSpec.upto (s : _root_.Go.ChangeSpec) : _root_.Go.OpenSpec := { _root_.Go.OpenSpec.ofChange s with cond := some uptoSmall }

/-- 'drumlintop.DrumlinPaths', WHERE WHAT IT READS IS OF BULK AT MOST 1048576: true; the input reads as it did. -/
def drumlinPathsUptoRow : OpenClaim := { program := "ytodlapkmcnmmhaadoor", sum := "55d0797c3dc324fa19ff4a41720865388e72e6c487cee4df61b8e6c353e9fe71", func := "drumlin/drumlintop.DrumlinPaths", spec := "drumlinPaths", inPlace := ["internal/bytealg.IndexByteString", "internal/bytealg.CountString", "internal/bytealg.IndexString"], unfollowed := true, recurses := true, named := ["unicode/utf8.first", "unicode/utf8.acceptRanges", "internal/bytealg.MaxLen"], plainKeys := false, apart := false, laid := [("unicode/utf8.acceptRanges", laid_unicode_utf8_acceptRanges), ("unicode/utf8.first", laid_unicode_utf8_first)], narrowed := true }
def DrumlinPathsUptoSaid : Prop := drumlinPathsUptoRow.holds Tryd.pinned (OpenSpec.upto drumlinPathsSpec)

/-- 'drumlinlaw08.NameParses', WHERE WHAT IT READS IS OF BULK AT MOST 1048576: true; the input reads as it did. -/
def nameParsesUptoRow : OpenClaim := { program := "ytodlapkmcnmmhaadoor", sum := "55d0797c3dc324fa19ff4a41720865388e72e6c487cee4df61b8e6c353e9fe71", func := "drumlin/drumlinlaw08.NameParses", spec := "nameParses", inPlace := ["internal/bytealg.IndexByteString", "internal/bytealg.CountString", "internal/bytealg.IndexString", "internal/abi.NoEscape", "internal/bytealg.MakeNoZero"], named := ["unicode/utf8.first", "unicode/utf8.acceptRanges", "internal/bytealg.MaxLen"], plainKeys := false, apart := false, laid := [("unicode/utf8.acceptRanges", laid_unicode_utf8_acceptRanges), ("unicode/utf8.first", laid_unicode_utf8_first)], narrowed := true }
def NameParsesUptoSaid : Prop := nameParsesUptoRow.holds Tryd.pinned (OpenSpec.upto nameParsesSpec)

/-- 'drumlinlaw08.NameLasts', WHERE WHAT IT READS IS OF BULK AT MOST 1048576: true; the input reads as it did. -/
def nameLastsUptoRow : OpenClaim := { program := "ytodlapkmcnmmhaadoor", sum := "55d0797c3dc324fa19ff4a41720865388e72e6c487cee4df61b8e6c353e9fe71", func := "drumlin/drumlinlaw08.NameLasts", spec := "nameLasts", inPlace := ["internal/bytealg.IndexByteString", "internal/bytealg.CountString", "internal/bytealg.IndexString", "internal/abi.NoEscape", "internal/bytealg.MakeNoZero"], named := ["unicode/utf8.first", "unicode/utf8.acceptRanges", "internal/bytealg.MaxLen"], plainKeys := false, apart := false, laid := [("unicode/utf8.acceptRanges", laid_unicode_utf8_acceptRanges), ("unicode/utf8.first", laid_unicode_utf8_first)], narrowed := true }
def NameLastsUptoSaid : Prop := nameLastsUptoRow.holds Tryd.pinned (OpenSpec.upto nameLastsSpec)

/-- 'drumlinlaw08.NameJoins', WHERE WHAT IT READS IS OF BULK AT MOST 1048576: true; the input reads as it did. -/
def nameJoinsUptoRow : OpenClaim := { program := "ytodlapkmcnmmhaadoor", sum := "55d0797c3dc324fa19ff4a41720865388e72e6c487cee4df61b8e6c353e9fe71", func := "drumlin/drumlinlaw08.NameJoins", spec := "nameJoins", inPlace := ["internal/bytealg.IndexByteString", "internal/bytealg.CountString", "internal/bytealg.IndexString", "internal/abi.NoEscape", "internal/bytealg.MakeNoZero"], named := ["unicode/utf8.first", "unicode/utf8.acceptRanges", "internal/bytealg.MaxLen"], plainKeys := false, apart := false, laid := [("unicode/utf8.acceptRanges", laid_unicode_utf8_acceptRanges), ("unicode/utf8.first", laid_unicode_utf8_first)], narrowed := true }
def NameJoinsUptoSaid : Prop := nameJoinsUptoRow.holds Tryd.pinned (OpenSpec.upto nameJoinsSpec)

/-- 'drumlinlaw08.NameCleans', WHERE WHAT IT READS IS OF BULK AT MOST 1048576: true; the input reads as it did. -/
def nameCleansUptoRow : OpenClaim := { program := "ytodlapkmcnmmhaadoor", sum := "55d0797c3dc324fa19ff4a41720865388e72e6c487cee4df61b8e6c353e9fe71", func := "drumlin/drumlinlaw08.NameCleans", spec := "nameCleans", inPlace := ["internal/bytealg.IndexByteString", "internal/bytealg.CountString", "internal/bytealg.IndexString", "internal/abi.NoEscape", "internal/bytealg.MakeNoZero"], named := ["unicode/utf8.first", "unicode/utf8.acceptRanges", "internal/bytealg.MaxLen"], plainKeys := false, apart := false, laid := [("unicode/utf8.acceptRanges", laid_unicode_utf8_acceptRanges), ("unicode/utf8.first", laid_unicode_utf8_first)], narrowed := true }
def NameCleansUptoSaid : Prop := nameCleansUptoRow.holds Tryd.pinned (OpenSpec.upto nameCleansSpec)

/-- 'drumlinlaw08.NameKeeps', WHERE WHAT IT READS IS OF BULK AT MOST 1048576: true; the input reads as it did. -/
def nameKeepsUptoRow : OpenClaim := { program := "ytodlapkmcnmmhaadoor", sum := "55d0797c3dc324fa19ff4a41720865388e72e6c487cee4df61b8e6c353e9fe71", func := "drumlin/drumlinlaw08.NameKeeps", spec := "nameKeeps", inPlace := ["internal/bytealg.IndexByteString", "internal/bytealg.CountString", "internal/bytealg.IndexString", "internal/abi.NoEscape", "internal/bytealg.MakeNoZero"], named := ["unicode/utf8.first", "unicode/utf8.acceptRanges", "internal/bytealg.MaxLen"], plainKeys := false, apart := false, laid := [("unicode/utf8.acceptRanges", laid_unicode_utf8_acceptRanges), ("unicode/utf8.first", laid_unicode_utf8_first)], narrowed := true }
def NameKeepsUptoSaid : Prop := nameKeepsUptoRow.holds Tryd.pinned (OpenSpec.upto nameKeepsSpec)

end Rows
end Go.Proofs.YtodlapkmcnmmhaaDoor
