/- ProcTree: for every input the law returns true, and its arguments read as they read before. -/
import Derived.Test.YtlojadpbdbhmiaaK
import Derived.Test.YtlojadpbdbhmiaaZn
import Derived.Lib.SmallJoins
namespace Go.Proofs.Ytlojadpbdbhmiaa
open Go.ChangeShapes Go.WideShapes Go.ChangeAt Go.RowKit
set_option linter.unusedSimpArgs false
set_option linter.unusedVariables false

set_option maxRecDepth 100000 in
theorem procTree_called (H : Type) (enc : TypeId × Value → H) (W : World) (base : Nat) (args : Array Value) (ds gs : List (DataW H)) (before : List MemPlace)
    (hval : ∀ (j : Nat) t v, Try.f7.params[j]? = some t → args[j]? = some v → Value.okWide Try.prog W .any base t v)
    (hW : DataW.Whole enc Try.prog Try.f7.params.toList Rows.procTreeSpec.vars false W args.toList ds gs before) :
    Calls Try.prog 7 args W fun e W' => e = .returned (.bool true) ∧ Safe W W' := by
  obtain ⟨p, q, hA0, hV, rfl, hfz, hnd⟩ := hW
  have hA : DataW.TrodAll enc Try.prog W 0 (fun _ => true) true Try.f7.params.toList args.toList ds p := hA0
  rw [Try.params7] at hA hval
  obtain ⟨v0, vs0, d0, ds0, p0, q0, hargs, rfl, rfl, h0, r0⟩ := trodAll_cons hA
  obtain ⟨v1, vs1, d1, ds1, p1, q1, rfl, rfl, rfl, h1, r1⟩ := trodAll_cons r0
  obtain ⟨rfl, rfl, rfl⟩ := trodAll_nil r1
  obtain rfl : args = #[v0, v1] := Array.ext' hargs
  clear hA0
  obtain ⟨a0, rfl, rfl, rfl, wf0⟩ := open_int Try.underlying3 (hval 0 3 v0 rfl rfl) h0
  have ra0 := int_range wf0
  obtain ⟨A1, n1, c1, D1, rfl, hn1, hc1, hD1⟩ := open_actsP (hval 1 88 v1 rfl rfl) h1
  exact procTree_any a0 A1 n1 c1 D1 W hn1 hc1 hD1

set_option maxRecDepth 100000 in
theorem procTree_lifted (os : Os) (started : os.Started) (H : Type) (enc : TypeId × Value → H) :
    ReturnsInHanded {} Try.checked os 7 .any (Rows.procTreeSpec.pre6 enc Try.prog Try.f7 Rows.procTreeRow.domain false) (Rows.procTreeSpec.post enc Try.prog Try.f7 false true false false) := by
  refine returnsInHanded_of_change (C := Try.checked) own started (by kernel_rfl) Try.func7
    (ChangeSpec.witness6 (enc := enc) (C := Try.checked) false ⟨#[], #[.int .i64 0, .slice none 0 0], []⟩ 8 (by kernel_rfl) (by kernel_rfl) (by kernel_rfl) (by kernel_rfl)) ?_
  intro W base args ds gs before hval hW hcnd _
  refine (procTree_called H enc W base args ds gs before hval hW).mono fun e W' ⟨he, hg⟩ => ?_
  subst he
  exact ⟨_, rfl, law_post (by kernel_rfl) (by kernel_rfl) hW rfl Try.underlying4 (by kernel_rfl) (fun ds hds => by rw [Try.params7] at hds; match ds, hds with | [_, _], _ => rfl) hg.below⟩

theorem procTree_holds : Rows.ProcTreeSaid :=
  OpenClaim.holds_of_wide 7 Try.f7 rfl rfl rfl rfl rfl rfl rfl ⟨rfl, rfl, rfl, rfl, rfl⟩ rfl rfl rfl rfl rfl (by kernel_rfl) Try.func7 (by kernel_rfl)
    (of_decide_eq_true (by kernel_rfl)) (by unfold Func.isWrapper; rw [if_neg (of_decide_eq_false (by kernel_rfl))]; exact ⟨rfl, rfl⟩)
    (fun os started H enc _ => procTree_lifted os started H enc)
#print axioms procTree_holds
end Go.Proofs.Ytlojadpbdbhmiaa
