/-
  No cell of these rows narrows 'for every input' (looked for: loops, veiled, ifaces, maps, wideKeys, modest, calm, conditions, laid).
  DERIVED. THE GIVEN ROWS OF THIS SEAT. 7 by the template 'for every input the law returns true; each argument reads behind the call as it read before'; 0 by the template 'total and deterministic' (their statements: YtlojadpbdbhmiaaTotals.lean).
  GIVEN WITH THE SEED: the statements are not yours to turn. If you find one false, say at which input.
  Laid BY PROGRAM, IN A SANDBOX (cutbox-rows.mjs): the forced cells as the released guide's own fill.sh prints them over the translation a218d6a1fb6e05c4… (all of the seat's roots in one cut). By AI agents, Wed Nov 11 2026. No macro, syntax, notation, axiom, sorry.
-/
import Derived.Test.YtlojadpbdbhmiaaChecked
import GoSem.Claim
import GoSem.ClaimJoined
import GoSem.ClaimMapViews
import Derived.JoinedTies
import Derived.KernelRfl
namespace Go.Proofs.Ytlojadpbdbhmiaa
/- THE CELL 'sum', in the pinned program and in every row, IS THE sha256 OF THE DUMP (.gsa) THAT YtlojadpbdbhmiaaProg.lean LOADS. Nothing in Lean hashes anything: it is a label: what it is worth is what the hold of that sum in a sandbox is worth. -/
noncomputable def Try.pinned : Pinned := { name := "ytlojadpbdbhmiaa", sum := "a218d6a1fb6e05c4d7d7d6c2c621ec96cf984b792f2bfa5494e0c3376aed3800", checked := Try.checked }
namespace Rows
def none {H : Type} : Left H := { results := [], args := [] }

/-- 'drumlinlaw22.ProcSleeps': WHATEVER THE INPUT: true; the input reads as it did. -/
def procSleepsSpec : ChangeSpec := { name := "procSleeps", fn := fun _ => fun
  | [d1, d2] => { results := [.lit (.bool true)], args := [d1, d2] }
  | _ => none }
def procSleepsRow : OpenClaim := { program := "ytlojadpbdbhmiaa", sum := "a218d6a1fb6e05c4d7d7d6c2c621ec96cf984b792f2bfa5494e0c3376aed3800", func := "drumlin/drumlinlaw22.ProcSleeps", spec := "procSleeps", unfollowed := true, recurses := true, apart := false }
def ProcSleepsSaid : Prop := procSleepsRow.holds Try.pinned (OpenSpec.ofChange procSleepsSpec)

/-- ITS FALSE NEIGHBOUR: 'it returns false'. Refute it at one input. -/
def procSleepsWrong : ChangeSpec := { name := "procSleeps", fn := fun _ => fun
  | [d1, d2] => { results := [.lit (.bool false)], args := [d1, d2] }
  | _ => none }
def ProcSleepsWrongFalsely : Prop := procSleepsRow.holds Try.pinned (OpenSpec.ofChange procSleepsWrong)

/-- 'drumlinlaw20.FdFiles': WHATEVER THE INPUT: true; the input reads as it did. -/
def fdFilesSpec : ChangeSpec := { name := "fdFiles", fn := fun _ => fun
  | [d1, d2] => { results := [.lit (.bool true)], args := [d1, d2] }
  | _ => none }
def fdFilesRow : OpenClaim := { program := "ytlojadpbdbhmiaa", sum := "a218d6a1fb6e05c4d7d7d6c2c621ec96cf984b792f2bfa5494e0c3376aed3800", func := "drumlin/drumlinlaw20.FdFiles", spec := "fdFiles", unfollowed := true, recurses := true, apart := false }
def FdFilesSaid : Prop := fdFilesRow.holds Try.pinned (OpenSpec.ofChange fdFilesSpec)

/-- ITS FALSE NEIGHBOUR: 'it returns false'. Refute it at one input. -/
def fdFilesWrong : ChangeSpec := { name := "fdFiles", fn := fun _ => fun
  | [d1, d2] => { results := [.lit (.bool false)], args := [d1, d2] }
  | _ => none }
def FdFilesWrongFalsely : Prop := fdFilesRow.holds Try.pinned (OpenSpec.ofChange fdFilesWrong)

/-- 'drumlinlaw20.FdSets': WHATEVER THE INPUT: true; the input reads as it did. -/
def fdSetsSpec : ChangeSpec := { name := "fdSets", fn := fun _ => fun
  | [d1, d2] => { results := [.lit (.bool true)], args := [d1, d2] }
  | _ => none }
def fdSetsRow : OpenClaim := { program := "ytlojadpbdbhmiaa", sum := "a218d6a1fb6e05c4d7d7d6c2c621ec96cf984b792f2bfa5494e0c3376aed3800", func := "drumlin/drumlinlaw20.FdSets", spec := "fdSets", unfollowed := true, recurses := true, apart := false }
def FdSetsSaid : Prop := fdSetsRow.holds Try.pinned (OpenSpec.ofChange fdSetsSpec)

/-- ITS FALSE NEIGHBOUR: 'it returns false'. Refute it at one input. -/
def fdSetsWrong : ChangeSpec := { name := "fdSets", fn := fun _ => fun
  | [d1, d2] => { results := [.lit (.bool false)], args := [d1, d2] }
  | _ => none }
def FdSetsWrongFalsely : Prop := fdSetsRow.holds Try.pinned (OpenSpec.ofChange fdSetsWrong)

/-- 'drumlintop.DrumlinChain': WHATEVER THE INPUT: true; the input reads as it did. -/
def drumlinChainSpec : ChangeSpec := { name := "drumlinChain", fn := fun _ => fun
  | [d] => { results := [.lit (.bool true)], args := [d] }
  | _ => none }
def drumlinChainRow : OpenClaim := { program := "ytlojadpbdbhmiaa", sum := "a218d6a1fb6e05c4d7d7d6c2c621ec96cf984b792f2bfa5494e0c3376aed3800", func := "drumlin/drumlintop.DrumlinChain", spec := "drumlinChain", unfollowed := true, recurses := true, apart := false }
def DrumlinChainSaid : Prop := drumlinChainRow.holds Try.pinned (OpenSpec.ofChange drumlinChainSpec)

/-- ITS FALSE NEIGHBOUR: 'it returns false'. Refute it at one input. -/
def drumlinChainWrong : ChangeSpec := { name := "drumlinChain", fn := fun _ => fun
  | [d] => { results := [.lit (.bool false)], args := [d] }
  | _ => none }
def DrumlinChainWrongFalsely : Prop := drumlinChainRow.holds Try.pinned (OpenSpec.ofChange drumlinChainWrong)

/-- 'drumlinlaw22.ProcTree': WHATEVER THE INPUT: true; the input reads as it did. -/
def procTreeSpec : ChangeSpec := { name := "procTree", fn := fun _ => fun
  | [d1, d2] => { results := [.lit (.bool true)], args := [d1, d2] }
  | _ => none }
def procTreeRow : OpenClaim := { program := "ytlojadpbdbhmiaa", sum := "a218d6a1fb6e05c4d7d7d6c2c621ec96cf984b792f2bfa5494e0c3376aed3800", func := "drumlin/drumlinlaw22.ProcTree", spec := "procTree", unfollowed := true, recurses := true, apart := false }
def ProcTreeSaid : Prop := procTreeRow.holds Try.pinned (OpenSpec.ofChange procTreeSpec)

/-- ITS FALSE NEIGHBOUR: 'it returns false'. Refute it at one input. -/
def procTreeWrong : ChangeSpec := { name := "procTree", fn := fun _ => fun
  | [d1, d2] => { results := [.lit (.bool false)], args := [d1, d2] }
  | _ => none }
def ProcTreeWrongFalsely : Prop := procTreeRow.holds Try.pinned (OpenSpec.ofChange procTreeWrong)

/-- 'drumlinlaw22.ProcOrphans': WHATEVER THE INPUT: true; the input reads as it did. -/
def procOrphansSpec : ChangeSpec := { name := "procOrphans", fn := fun _ => fun
  | [d1, d2] => { results := [.lit (.bool true)], args := [d1, d2] }
  | _ => none }
def procOrphansRow : OpenClaim := { program := "ytlojadpbdbhmiaa", sum := "a218d6a1fb6e05c4d7d7d6c2c621ec96cf984b792f2bfa5494e0c3376aed3800", func := "drumlin/drumlinlaw22.ProcOrphans", spec := "procOrphans", unfollowed := true, recurses := true, apart := false }
def ProcOrphansSaid : Prop := procOrphansRow.holds Try.pinned (OpenSpec.ofChange procOrphansSpec)

/-- ITS FALSE NEIGHBOUR: 'it returns false'. Refute it at one input. -/
def procOrphansWrong : ChangeSpec := { name := "procOrphans", fn := fun _ => fun
  | [d1, d2] => { results := [.lit (.bool false)], args := [d1, d2] }
  | _ => none }
def ProcOrphansWrongFalsely : Prop := procOrphansRow.holds Try.pinned (OpenSpec.ofChange procOrphansWrong)

/-- 'drumlinlaw20.FdShares': WHATEVER THE INPUT: true; the input reads as it did. -/
def fdSharesSpec : ChangeSpec := { name := "fdShares", fn := fun _ => fun
  | [d] => { results := [.lit (.bool true)], args := [d] }
  | _ => none }
def fdSharesRow : OpenClaim := { program := "ytlojadpbdbhmiaa", sum := "a218d6a1fb6e05c4d7d7d6c2c621ec96cf984b792f2bfa5494e0c3376aed3800", func := "drumlin/drumlinlaw20.FdShares", spec := "fdShares", unfollowed := true, recurses := true, apart := false }
def FdSharesSaid : Prop := fdSharesRow.holds Try.pinned (OpenSpec.ofChange fdSharesSpec)

/-- ITS FALSE NEIGHBOUR: 'it returns false'. Refute it at one input. -/
def fdSharesWrong : ChangeSpec := { name := "fdShares", fn := fun _ => fun
  | [d] => { results := [.lit (.bool false)], args := [d] }
  | _ => none }
def FdSharesWrongFalsely : Prop := fdSharesRow.holds Try.pinned (OpenSpec.ofChange fdSharesWrong)

/- THE SECOND FORM. 'bulk': how many values and letters a reading holds, each counted each time it is reached (what is shared counts as often as it is met; a slice's spare places count too). A statement '..UptoSaid' is the law's where the arguments, and the package variables that the reading takes, are together of bulk at most 1048576: NARROWER than '..Said'. Prove '..Said' where nothing that the law and all that it calls make is longer than what came in: it says more and counts as full. Else prove '..UptoSaid'. A law counts once. -/
mutual
def uptoBulk {H : Type} : DataW H → Nat
  | .lit (.string bytes) => bytes.length + 1
  | .lit _ => 1
  | .nil => 1
  | .ptr d => uptoBulk d + 1
  | .slice elems spare => uptoBulkAll elems + uptoBulkAll spare + 1
  | .agg parts => uptoBulkAll parts + 1
  | .iface _ d => uptoBulk d + 1
  | .map entries => uptoBulkEntries entries + 1
  | .held _ => 1
def uptoBulkAll {H : Type} : List (DataW H) → Nat
  | [] => 0
  | d :: r => uptoBulk d + uptoBulkAll r
def uptoBulkEntries {H : Type} : List (Lit × DataW H) → Nat
  | [] => 0
  | x :: r => uptoBulkEntry x + uptoBulkEntries r
def uptoBulkEntry {H : Type} : Lit × DataW H → Nat
  | (.string bytes, d) => bytes.length + uptoBulk d + 1
  | (_, d) => uptoBulk d + 1
 end
def uptoSmall : (H : Type) → List (DataW H) → Bool := fun _ ds => decide (uptoBulkAll ds ≤ 1048576)
def OpenSpec.upto (s : _root_.Go.ChangeSpec) : _root_.Go.OpenSpec := { _root_.Go.OpenSpec.ofChange s with cond := some uptoSmall }

/-- 'drumlinlaw22.ProcSleeps', WHERE WHAT IT READS IS OF BULK AT MOST 1048576: true; the input reads as it did. -/
def procSleepsUptoRow : OpenClaim := { program := "ytlojadpbdbhmiaa", sum := "a218d6a1fb6e05c4d7d7d6c2c621ec96cf984b792f2bfa5494e0c3376aed3800", func := "drumlin/drumlinlaw22.ProcSleeps", spec := "procSleeps", unfollowed := true, recurses := true, apart := false, narrowed := true }
def ProcSleepsUptoSaid : Prop := procSleepsUptoRow.holds Try.pinned (OpenSpec.upto procSleepsSpec)

/-- 'drumlinlaw20.FdFiles', WHERE WHAT IT READS IS OF BULK AT MOST 1048576: true; the input reads as it did. -/
def fdFilesUptoRow : OpenClaim := { program := "ytlojadpbdbhmiaa", sum := "a218d6a1fb6e05c4d7d7d6c2c621ec96cf984b792f2bfa5494e0c3376aed3800", func := "drumlin/drumlinlaw20.FdFiles", spec := "fdFiles", unfollowed := true, recurses := true, apart := false, narrowed := true }
def FdFilesUptoSaid : Prop := fdFilesUptoRow.holds Try.pinned (OpenSpec.upto fdFilesSpec)

/-- 'drumlinlaw20.FdSets', WHERE WHAT IT READS IS OF BULK AT MOST 1048576: true; the input reads as it did. -/
def fdSetsUptoRow : OpenClaim := { program := "ytlojadpbdbhmiaa", sum := "a218d6a1fb6e05c4d7d7d6c2c621ec96cf984b792f2bfa5494e0c3376aed3800", func := "drumlin/drumlinlaw20.FdSets", spec := "fdSets", unfollowed := true, recurses := true, apart := false, narrowed := true }
def FdSetsUptoSaid : Prop := fdSetsUptoRow.holds Try.pinned (OpenSpec.upto fdSetsSpec)

/-- 'drumlintop.DrumlinChain', WHERE WHAT IT READS IS OF BULK AT MOST 1048576: true; the input reads as it did. -/
def drumlinChainUptoRow : OpenClaim := { program := "ytlojadpbdbhmiaa", sum := "a218d6a1fb6e05c4d7d7d6c2c621ec96cf984b792f2bfa5494e0c3376aed3800", func := "drumlin/drumlintop.DrumlinChain", spec := "drumlinChain", unfollowed := true, recurses := true, apart := false, narrowed := true }
def DrumlinChainUptoSaid : Prop := drumlinChainUptoRow.holds Try.pinned (OpenSpec.upto drumlinChainSpec)

/-- 'drumlinlaw22.ProcTree', WHERE WHAT IT READS IS OF BULK AT MOST 1048576: true; the input reads as it did. -/
def procTreeUptoRow : OpenClaim := { program := "ytlojadpbdbhmiaa", sum := "a218d6a1fb6e05c4d7d7d6c2c621ec96cf984b792f2bfa5494e0c3376aed3800", func := "drumlin/drumlinlaw22.ProcTree", spec := "procTree", unfollowed := true, recurses := true, apart := false, narrowed := true }
def ProcTreeUptoSaid : Prop := procTreeUptoRow.holds Try.pinned (OpenSpec.upto procTreeSpec)

/-- 'drumlinlaw22.ProcOrphans', WHERE WHAT IT READS IS OF BULK AT MOST 1048576: true; the input reads as it did. -/
def procOrphansUptoRow : OpenClaim := { program := "ytlojadpbdbhmiaa", sum := "a218d6a1fb6e05c4d7d7d6c2c621ec96cf984b792f2bfa5494e0c3376aed3800", func := "drumlin/drumlinlaw22.ProcOrphans", spec := "procOrphans", unfollowed := true, recurses := true, apart := false, narrowed := true }
def ProcOrphansUptoSaid : Prop := procOrphansUptoRow.holds Try.pinned (OpenSpec.upto procOrphansSpec)

/-- 'drumlinlaw20.FdShares', WHERE WHAT IT READS IS OF BULK AT MOST 1048576: true; the input reads as it did. -/
def fdSharesUptoRow : OpenClaim := { program := "ytlojadpbdbhmiaa", sum := "a218d6a1fb6e05c4d7d7d6c2c621ec96cf984b792f2bfa5494e0c3376aed3800", func := "drumlin/drumlinlaw20.FdShares", spec := "fdShares", unfollowed := true, recurses := true, apart := false, narrowed := true }
def FdSharesUptoSaid : Prop := fdSharesUptoRow.holds Try.pinned (OpenSpec.upto fdSharesSpec)

end Rows
end Go.Proofs.Ytlojadpbdbhmiaa
