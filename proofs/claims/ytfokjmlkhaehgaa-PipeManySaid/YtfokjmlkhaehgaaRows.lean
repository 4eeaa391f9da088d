/-
  No cell of these rows narrows 'for every input' (looked for: loops, veiled, ifaces, maps, wideKeys, modest, calm, conditions, laid).
  DERIVED. THE GIVEN ROWS OF THIS SEAT. 8 by the template 'for every input the law returns true; each argument reads behind the call as it read before'; 0 by the template 'total and deterministic' (their statements: YtfokjmlkhaehgaaTotals.lean).
  GIVEN WITH THE SEED: the statements are not yours to turn. If you find one false, say at which input.
  Laid BY PROGRAM, IN A SANDBOX (cutbox-rows.mjs): the forced cells as the released guide's own fill.sh prints them over the translation d602734d273d93d5… (all of the seat's roots in one cut). By AI agents, Wed Nov 11 2026. No macro, syntax, notation, axiom, sorry.
-/
import Derived.Test.YtfokjmlkhaehgaaChecked
import GoSem.Claim
import GoSem.ClaimJoined
import GoSem.ClaimMapViews
import Derived.JoinedTies
import Derived.KernelRfl
namespace Go.Proofs.Ytfokjmlkhaehgaa
/- THE CELL 'sum', in the pinned program and in every row, IS THE sha256 OF THE DUMP (.gsa) THAT YtfokjmlkhaehgaaProg.lean LOADS. Nothing in Lean hashes anything: it is a label: what it is worth is what the hold of that sum in a sandbox is worth. -/
noncomputable def Try.pinned : Pinned := { name := "ytfokjmlkhaehgaa", sum := "d602734d273d93d5002a3ac971c290cf1cf02f78c015cf8ebc3fce752f1a0806", checked := Try.checked }
namespace Rows
def none {H : Type} : Left H := { results := [], args := [] }

/-- 'drumlinlaw07.PtrBlocks': WHATEVER THE INPUT: true; the input reads as it did. -/
def ptrBlocksSpec : ChangeSpec := { name := "ptrBlocks", fn := fun _ => fun
  | [d] => { results := [.lit (.bool true)], args := [d] }
  | _ => none }
def ptrBlocksRow : OpenClaim := { program := "ytfokjmlkhaehgaa", sum := "d602734d273d93d5002a3ac971c290cf1cf02f78c015cf8ebc3fce752f1a0806", func := "drumlin/drumlinlaw07.PtrBlocks", spec := "ptrBlocks", unfollowed := true, recurses := true, plainKeys := false, apart := false }
def PtrBlocksSaid : Prop := ptrBlocksRow.holds Try.pinned (OpenSpec.ofChange ptrBlocksSpec)

/-- ITS FALSE NEIGHBOUR: 'it returns false'. Refute it at one input. -/
def ptrBlocksWrong : ChangeSpec := { name := "ptrBlocks", fn := fun _ => fun
  | [d] => { results := [.lit (.bool false)], args := [d] }
  | _ => none }
def PtrBlocksWrongFalsely : Prop := ptrBlocksRow.holds Try.pinned (OpenSpec.ofChange ptrBlocksWrong)

/-- 'drumlinlaw07.PtrCosts': WHATEVER THE INPUT: true; the input reads as it did. -/
def ptrCostsSpec : ChangeSpec := { name := "ptrCosts", fn := fun _ => fun
  | [d1, d2] => { results := [.lit (.bool true)], args := [d1, d2] }
  | _ => none }
def ptrCostsRow : OpenClaim := { program := "ytfokjmlkhaehgaa", sum := "d602734d273d93d5002a3ac971c290cf1cf02f78c015cf8ebc3fce752f1a0806", func := "drumlin/drumlinlaw07.PtrCosts", spec := "ptrCosts", unfollowed := true, recurses := true, plainKeys := false, apart := false }
def PtrCostsSaid : Prop := ptrCostsRow.holds Try.pinned (OpenSpec.ofChange ptrCostsSpec)

/-- ITS FALSE NEIGHBOUR: 'it returns false'. Refute it at one input. -/
def ptrCostsWrong : ChangeSpec := { name := "ptrCosts", fn := fun _ => fun
  | [d1, d2] => { results := [.lit (.bool false)], args := [d1, d2] }
  | _ => none }
def PtrCostsWrongFalsely : Prop := ptrCostsRow.holds Try.pinned (OpenSpec.ofChange ptrCostsWrong)

/-- 'drumlinlaw07.PtrShares': WHATEVER THE INPUT: true; the input reads as it did. -/
def ptrSharesSpec : ChangeSpec := { name := "ptrShares", fn := fun _ => fun
  | [d1, d2] => { results := [.lit (.bool true)], args := [d1, d2] }
  | _ => none }
def ptrSharesRow : OpenClaim := { program := "ytfokjmlkhaehgaa", sum := "d602734d273d93d5002a3ac971c290cf1cf02f78c015cf8ebc3fce752f1a0806", func := "drumlin/drumlinlaw07.PtrShares", spec := "ptrShares", unfollowed := true, recurses := true, plainKeys := false, apart := false }
def PtrSharesSaid : Prop := ptrSharesRow.holds Try.pinned (OpenSpec.ofChange ptrSharesSpec)

/-- ITS FALSE NEIGHBOUR: 'it returns false'. Refute it at one input. -/
def ptrSharesWrong : ChangeSpec := { name := "ptrShares", fn := fun _ => fun
  | [d1, d2] => { results := [.lit (.bool false)], args := [d1, d2] }
  | _ => none }
def PtrSharesWrongFalsely : Prop := ptrSharesRow.holds Try.pinned (OpenSpec.ofChange ptrSharesWrong)

/-- 'drumlinlaw07.PtrPlaces': WHATEVER THE INPUT: true; the input reads as it did. -/
def ptrPlacesSpec : ChangeSpec := { name := "ptrPlaces", fn := fun _ => fun
  | [d1, d2] => { results := [.lit (.bool true)], args := [d1, d2] }
  | _ => none }
def ptrPlacesRow : OpenClaim := { program := "ytfokjmlkhaehgaa", sum := "d602734d273d93d5002a3ac971c290cf1cf02f78c015cf8ebc3fce752f1a0806", func := "drumlin/drumlinlaw07.PtrPlaces", spec := "ptrPlaces", unfollowed := true, recurses := true, plainKeys := false, apart := false }
def PtrPlacesSaid : Prop := ptrPlacesRow.holds Try.pinned (OpenSpec.ofChange ptrPlacesSpec)

/-- ITS FALSE NEIGHBOUR: 'it returns false'. Refute it at one input. -/
def ptrPlacesWrong : ChangeSpec := { name := "ptrPlaces", fn := fun _ => fun
  | [d1, d2] => { results := [.lit (.bool false)], args := [d1, d2] }
  | _ => none }
def PtrPlacesWrongFalsely : Prop := ptrPlacesRow.holds Try.pinned (OpenSpec.ofChange ptrPlacesWrong)

/-- 'drumlinlaw07.PtrCuts': WHATEVER THE INPUT: true; the input reads as it did. -/
def ptrCutsSpec : ChangeSpec := { name := "ptrCuts", fn := fun _ => fun
  | [d1, d2] => { results := [.lit (.bool true)], args := [d1, d2] }
  | _ => none }
def ptrCutsRow : OpenClaim := { program := "ytfokjmlkhaehgaa", sum := "d602734d273d93d5002a3ac971c290cf1cf02f78c015cf8ebc3fce752f1a0806", func := "drumlin/drumlinlaw07.PtrCuts", spec := "ptrCuts", unfollowed := true, recurses := true, plainKeys := false, apart := false }
def PtrCutsSaid : Prop := ptrCutsRow.holds Try.pinned (OpenSpec.ofChange ptrCutsSpec)

/-- ITS FALSE NEIGHBOUR: 'it returns false'. Refute it at one input. -/
def ptrCutsWrong : ChangeSpec := { name := "ptrCuts", fn := fun _ => fun
  | [d1, d2] => { results := [.lit (.bool false)], args := [d1, d2] }
  | _ => none }
def PtrCutsWrongFalsely : Prop := ptrCutsRow.holds Try.pinned (OpenSpec.ofChange ptrCutsWrong)

/-- 'drumlinlaw21.PipeMany': WHATEVER THE INPUT: true; the input reads as it did. -/
def pipeManySpec : ChangeSpec := { name := "pipeMany", fn := fun _ => fun
  | [d] => { results := [.lit (.bool true)], args := [d] }
  | _ => none }
def pipeManyRow : OpenClaim := { program := "ytfokjmlkhaehgaa", sum := "d602734d273d93d5002a3ac971c290cf1cf02f78c015cf8ebc3fce752f1a0806", func := "drumlin/drumlinlaw21.PipeMany", spec := "pipeMany", unfollowed := true, recurses := true, plainKeys := false, apart := false }
def PipeManySaid : Prop := pipeManyRow.holds Try.pinned (OpenSpec.ofChange pipeManySpec)

/-- ITS FALSE NEIGHBOUR: 'it returns false'. Refute it at one input. -/
def pipeManyWrong : ChangeSpec := { name := "pipeMany", fn := fun _ => fun
  | [d] => { results := [.lit (.bool false)], args := [d] }
  | _ => none }
def PipeManyWrongFalsely : Prop := pipeManyRow.holds Try.pinned (OpenSpec.ofChange pipeManyWrong)

/-- 'drumlinlaw21.PipeOrders': WHATEVER THE INPUT: true; the input reads as it did. -/
def pipeOrdersSpec : ChangeSpec := { name := "pipeOrders", fn := fun _ => fun
  | [d] => { results := [.lit (.bool true)], args := [d] }
  | _ => none }
def pipeOrdersRow : OpenClaim := { program := "ytfokjmlkhaehgaa", sum := "d602734d273d93d5002a3ac971c290cf1cf02f78c015cf8ebc3fce752f1a0806", func := "drumlin/drumlinlaw21.PipeOrders", spec := "pipeOrders", unfollowed := true, recurses := true, plainKeys := false, apart := false }
def PipeOrdersSaid : Prop := pipeOrdersRow.holds Try.pinned (OpenSpec.ofChange pipeOrdersSpec)

/-- ITS FALSE NEIGHBOUR: 'it returns false'. Refute it at one input. -/
def pipeOrdersWrong : ChangeSpec := { name := "pipeOrders", fn := fun _ => fun
  | [d] => { results := [.lit (.bool false)], args := [d] }
  | _ => none }
def PipeOrdersWrongFalsely : Prop := pipeOrdersRow.holds Try.pinned (OpenSpec.ofChange pipeOrdersWrong)

/-- 'drumlintop.DrumlinSectors': WHATEVER THE INPUT: true; the input reads as it did. -/
def drumlinSectorsSpec : ChangeSpec := { name := "drumlinSectors", fn := fun _ => fun
  | [d1, d2] => { results := [.lit (.bool true)], args := [d1, d2] }
  | _ => none }
def drumlinSectorsRow : OpenClaim := { program := "ytfokjmlkhaehgaa", sum := "d602734d273d93d5002a3ac971c290cf1cf02f78c015cf8ebc3fce752f1a0806", func := "drumlin/drumlintop.DrumlinSectors", spec := "drumlinSectors", plainKeys := false, apart := false }
def DrumlinSectorsSaid : Prop := drumlinSectorsRow.holds Try.pinned (OpenSpec.ofChange drumlinSectorsSpec)

/-- ITS FALSE NEIGHBOUR: 'it returns false'. Refute it at one input. -/
def drumlinSectorsWrong : ChangeSpec := { name := "drumlinSectors", fn := fun _ => fun
  | [d1, d2] => { results := [.lit (.bool false)], args := [d1, d2] }
  | _ => none }
def DrumlinSectorsWrongFalsely : Prop := drumlinSectorsRow.holds Try.pinned (OpenSpec.ofChange drumlinSectorsWrong)

/- THE SECOND FORM. 'bulk': how many values and letters a reading holds, each counted each time it is reached (what is shared counts as often as it is met; a slice's spare places count too). A statement '..UptoSaid' is the law's where the arguments, and the package variables that the reading takes, are together of bulk at most 1048576: NARROWER than '..Said'. Prove '..Said' where nothing that the law and all that it calls make is longer than what came in: it says more and counts as full. Else prove '..UptoSaid'. A law counts once. -/
mutual
def uptoBulk {H : Type} : DataW H → Nat
  | .lit (.string bytes) => bytes.length + 1
  | .lit _ => 1
  | .nil => 1
  | .ptr d => uptoBulk d + 1
  | .slice elems spare => uptoBulkAll elems + uptoBulkAll spare + 1
  | .agg parts => uptoBulkAll parts + 1
  | .iface _ d => uptoBulk d + 1
  | .map entries => uptoBulkEntries entries + 1
  | .held _ => 1
def uptoBulkAll {H : Type} : List (DataW H) → Nat
  | [] => 0
  | d :: r => uptoBulk d + uptoBulkAll r
def uptoBulkEntries {H : Type} : List (Lit × DataW H) → Nat
  | [] => 0
  | x :: r => uptoBulkEntry x + uptoBulkEntries r
def uptoBulkEntry {H : Type} : Lit × DataW H → Nat
  | (.string bytes, d) => bytes.length + uptoBulk d + 1
  | (_, d) => uptoBulk d + 1
 end
def uptoSmall : (H : Type) → List (DataW H) → Bool := fun _ ds => decide (uptoBulkAll ds ≤ 1048576)
def OpenSpec.upto (s : _root_.Go.ChangeSpec) : _root_.Go.OpenSpec := { _root_.Go.OpenSpec.ofChange s with cond := some uptoSmall }

/-- 'drumlinlaw07.PtrBlocks', WHERE WHAT IT READS IS OF BULK AT MOST 1048576: true; the input reads as it did. -/
def ptrBlocksUptoRow : OpenClaim := { program := "ytfokjmlkhaehgaa", sum := "d602734d273d93d5002a3ac971c290cf1cf02f78c015cf8ebc3fce752f1a0806", func := "drumlin/drumlinlaw07.PtrBlocks", spec := "ptrBlocks", unfollowed := true, recurses := true, plainKeys := false, apart := false, narrowed := true }
def PtrBlocksUptoSaid : Prop := ptrBlocksUptoRow.holds Try.pinned (OpenSpec.upto ptrBlocksSpec)

/-- 'drumlinlaw07.PtrCosts', WHERE WHAT IT READS IS OF BULK AT MOST 1048576: true; the input reads as it did. -/
def ptrCostsUptoRow : OpenClaim := { program := "ytfokjmlkhaehgaa", sum := "d602734d273d93d5002a3ac971c290cf1cf02f78c015cf8ebc3fce752f1a0806", func := "drumlin/drumlinlaw07.PtrCosts", spec := "ptrCosts", unfollowed := true, recurses := true, plainKeys := false, apart := false, narrowed := true }
def PtrCostsUptoSaid : Prop := ptrCostsUptoRow.holds Try.pinned (OpenSpec.upto ptrCostsSpec)

/-- 'drumlinlaw07.PtrShares', WHERE WHAT IT READS IS OF BULK AT MOST 1048576: true; the input reads as it did. -/
def ptrSharesUptoRow : OpenClaim := { program := "ytfokjmlkhaehgaa", sum := "d602734d273d93d5002a3ac971c290cf1cf02f78c015cf8ebc3fce752f1a0806", func := "drumlin/drumlinlaw07.PtrShares", spec := "ptrShares", unfollowed := true, recurses := true, plainKeys := false, apart := false, narrowed := true }
def PtrSharesUptoSaid : Prop := ptrSharesUptoRow.holds Try.pinned (OpenSpec.upto ptrSharesSpec)

/-- 'drumlinlaw07.PtrPlaces', WHERE WHAT IT READS IS OF BULK AT MOST 1048576: true; the input reads as it did. -/
def ptrPlacesUptoRow : OpenClaim := { program := "ytfokjmlkhaehgaa", sum := "d602734d273d93d5002a3ac971c290cf1cf02f78c015cf8ebc3fce752f1a0806", func := "drumlin/drumlinlaw07.PtrPlaces", spec := "ptrPlaces", unfollowed := true, recurses := true, plainKeys := false, apart := false, narrowed := true }
def PtrPlacesUptoSaid : Prop := ptrPlacesUptoRow.holds Try.pinned (OpenSpec.upto ptrPlacesSpec)

/-- 'drumlinlaw07.PtrCuts', WHERE WHAT IT READS IS OF BULK AT MOST 1048576: true; the input reads as it did. -/
def ptrCutsUptoRow : OpenClaim := { program := "ytfokjmlkhaehgaa", sum := "d602734d273d93d5002a3ac971c290cf1cf02f78c015cf8ebc3fce752f1a0806", func := "drumlin/drumlinlaw07.PtrCuts", spec := "ptrCuts", unfollowed := true, recurses := true, plainKeys := false, apart := false, narrowed := true }
def PtrCutsUptoSaid : Prop := ptrCutsUptoRow.holds Try.pinned (OpenSpec.upto ptrCutsSpec)

/-- 'drumlinlaw21.PipeMany', WHERE WHAT IT READS IS OF BULK AT MOST 1048576: true; the input reads as it did. -/
def pipeManyUptoRow : OpenClaim := { program := "ytfokjmlkhaehgaa", sum := "d602734d273d93d5002a3ac971c290cf1cf02f78c015cf8ebc3fce752f1a0806", func := "drumlin/drumlinlaw21.PipeMany", spec := "pipeMany", unfollowed := true, recurses := true, plainKeys := false, apart := false, narrowed := true }
def PipeManyUptoSaid : Prop := pipeManyUptoRow.holds Try.pinned (OpenSpec.upto pipeManySpec)

/-- 'drumlinlaw21.PipeOrders', WHERE WHAT IT READS IS OF BULK AT MOST 1048576: true; the input reads as it did. -/
def pipeOrdersUptoRow : OpenClaim := { program := "ytfokjmlkhaehgaa", sum := "d602734d273d93d5002a3ac971c290cf1cf02f78c015cf8ebc3fce752f1a0806", func := "drumlin/drumlinlaw21.PipeOrders", spec := "pipeOrders", unfollowed := true, recurses := true, plainKeys := false, apart := false, narrowed := true }
def PipeOrdersUptoSaid : Prop := pipeOrdersUptoRow.holds Try.pinned (OpenSpec.upto pipeOrdersSpec)

/-- 'drumlintop.DrumlinSectors', WHERE WHAT IT READS IS OF BULK AT MOST 1048576: true; the input reads as it did. -/
def drumlinSectorsUptoRow : OpenClaim := { program := "ytfokjmlkhaehgaa", sum := "d602734d273d93d5002a3ac971c290cf1cf02f78c015cf8ebc3fce752f1a0806", func := "drumlin/drumlintop.DrumlinSectors", spec := "drumlinSectors", plainKeys := false, apart := false, narrowed := true }
def DrumlinSectorsUptoSaid : Prop := drumlinSectorsUptoRow.holds Try.pinned (OpenSpec.upto drumlinSectorsSpec)

end Rows
end Go.Proofs.Ytfokjmlkhaehgaa
