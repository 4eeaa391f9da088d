/- DrumlinChain: for every input the law returns true, and its arguments read as they read before. -/
import Derived.Test.YtlojadpbdbhmiaaK
import Derived.Test.YtlojadpbdbhmiaaCe
import Derived.Lib.SmallJoins
namespace Go.Proofs.Ytlojadpbdbhmiaa
open Go.ChangeShapes Go.WideShapes Go.ChangeAt Go.RowKit
set_option linter.unusedSimpArgs false
set_option linter.unusedVariables false

set_option maxRecDepth 100000 in
theorem drumlinChain_called (H : Type) (enc : TypeId × Value → H) (W : World) (base : Nat) (args : Array Value) (ds gs : List (DataW H)) (before : List MemPlace)
    (hval : ∀ (j : Nat) t v, Try.f6.params[j]? = some t → args[j]? = some v → Value.okWide Try.prog W .any base t v)
    (hW : DataW.Whole enc Try.prog Try.f6.params.toList Rows.drumlinChainSpec.vars false W args.toList ds gs before) :
    Calls Try.prog 6 args W fun e W' => e = .returned (.bool true) ∧ Safe W W' := by
  obtain ⟨p, q, hA0, hV, rfl, hfz, hnd⟩ := hW
  have hA : DataW.TrodAll enc Try.prog W 0 (fun _ => true) true Try.f6.params.toList args.toList ds p := hA0
  rw [Try.params6] at hA hval
  obtain ⟨v0, vs0, d0, ds0, p0, q0, hargs, rfl, rfl, h0, r0⟩ := trodAll_cons hA
  obtain ⟨rfl, rfl, rfl⟩ := trodAll_nil r0
  obtain rfl : args = #[v0] := Array.ext' hargs
  clear hA0
  obtain ⟨A0, n0, c0, D0, rfl, hn0, hc0, hD0⟩ := open_turns (hval 0 71 v0 rfl rfl) h0
  exact chain_walk A0 n0 c0 D0 W hn0 hc0 hD0

set_option maxRecDepth 100000 in
theorem drumlinChain_lifted (os : Os) (started : os.Started) (H : Type) (enc : TypeId × Value → H) :
    ReturnsInHanded {} Try.checked os 6 .any (Rows.drumlinChainSpec.pre6 enc Try.prog Try.f6 Rows.drumlinChainRow.domain false) (Rows.drumlinChainSpec.post enc Try.prog Try.f6 false true false false) := by
  refine returnsInHanded_of_change (C := Try.checked) own started (by kernel_rfl) Try.func6
    (ChangeSpec.witness6 (enc := enc) (C := Try.checked) false ⟨#[], #[.slice none 0 0], []⟩ 8 (by kernel_rfl) (by kernel_rfl) (by kernel_rfl) (by kernel_rfl)) ?_
  intro W base args ds gs before hval hW hcnd _
  refine (drumlinChain_called H enc W base args ds gs before hval hW).mono fun e W' ⟨he, hg⟩ => ?_
  subst he
  exact ⟨_, rfl, law_post (by kernel_rfl) (by kernel_rfl) hW rfl Try.underlying4 (by kernel_rfl) (fun ds hds => by rw [Try.params6] at hds; match ds, hds with | [_], _ => rfl) hg.below⟩

theorem drumlinChain_holds : Rows.DrumlinChainSaid :=
  OpenClaim.holds_of_wide 6 Try.f6 rfl rfl rfl rfl rfl rfl rfl ⟨rfl, rfl, rfl, rfl, rfl⟩ rfl rfl rfl rfl rfl (by kernel_rfl) Try.func6 (by kernel_rfl)
    (of_decide_eq_true (by kernel_rfl)) (by unfold Func.isWrapper; rw [if_neg (of_decide_eq_false (by kernel_rfl))]; exact ⟨rfl, rfl⟩)
    (fun os started H enc _ => drumlinChain_lifted os started H enc)
#print axioms drumlinChain_holds
end Go.Proofs.Ytlojadpbdbhmiaa
