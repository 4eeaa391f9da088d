/- Open files: Open. -/
import Derived.Test.YtlojadpbdbhmiaaFb
namespace Go.Proofs.Ytlojadpbdbhmiaa
open Go.RowKit
set_option linter.unusedSimpArgs false
set_option linter.unusedVariables false

def freeF (os : List FO) : Option Nat := os.findIdx? (fun o => o.refs == 0)
def ixOf : Option Nat → Int
  | some k => k
  | none => -1
theorem find_hit {α : Type} {f : α → Bool} {os : List α} {k : Nat} {o : α} (hp : os[k]? = some o) (ht : f o = true) (h : ∀ j q, j < k → os[j]? = some q → f q = false) : os.findIdx? f = some k := by
  rw [List.findIdx?_eq_some_iff_getElem]
  obtain ⟨hlt, he⟩ := List.getElem?_eq_some_iff.1 hp
  refine ⟨hlt, by rw [he]; exact ht, fun j hj => ?_⟩
  have := h j os[j] hj (List.getElem?_eq_getElem (by omega))
  simp [this]
theorem find_miss {α : Type} {f : α → Bool} {os : List α} (h : ∀ j q, j < os.length → os[j]? = some q → f q = false) : os.findIdx? f = none := by
  rw [List.findIdx?_eq_none_iff]
  intro q hq
  obtain ⟨j, hj⟩ := List.getElem?_of_mem hq
  exact h j q (List.getElem?_eq_some_iff.1 hj).1 hj
theorem find_get {α : Type} {f : α → Bool} {os : List α} {k : Nat} (h : os.findIdx? f = some k) : ∃ o, os[k]? = some o ∧ f o = true ∧ k < os.length := by
  rw [List.findIdx?_eq_some_iff_getElem] at h
  obtain ⟨hlt, he, _⟩ := h
  exact ⟨os[k], List.getElem?_eq_getElem hlt, he, hlt⟩
set_option maxRecDepth 100000 in
theorem ffree_any (o : FO) (w : World) :
    Calls Try.prog 63 #[aggF o] w fun e w' => e = .returned (.bool (o.refs == 0)) ∧ Safe w w' := by
  cases hr : (o.refs == 0)
  all_goals
    go_enter Try.func63, Try.ntmps63
    go_wp2
    go_ret
    exact ⟨rfl, (But.refl _ _).alloc _⟩
set_option maxRecDepth 100000 in
set_option maxHeartbeats 1000000 in
theorem fidx_any (gf gl : Nat) (os : List FO) (w : World) (h : FW w gf gl os) :
    Calls Try.prog 62 #[.slice (some ⟨gl, 0, none⟩) os.length os.length, .func (.func 63) #[] #[]] w fun e w' => e = .returned (I (ixOf (freeF os))) ∧ Safe w w' := by
  have hlen := h.len
  go_enter Try.func62, Try.ntmps62
  go_wp2
  go_loopw [8] (fun i wr => ∃ k : Nat, k ≤ os.length ∧ i = .int .i64 k ∧ (∀ j (q : FO), j < k → os[j]? = some q → (q.refs == 0) = false) ∧ Safe w wr) (fun i _ => os.length - (intOf i).toNat)
  case atStart => exact ⟨0, by omega, rfl, fun j q hj => absurd hj (by omega), But.refl _ _⟩
  case round =>
    obtain ⟨k, hk, rfl, hall, hS⟩ := hrel
    obtain ⟨wo, rfl⟩ : ∃ wo : World, wo = wr := ⟨_, rfl⟩
    have HA := Lib.hid hall
    clear hall
    by_cases hlt : k < os.length
    · obtain ⟨o, ho⟩ : ∃ o, os[k]? = some o := ⟨_, List.getElem?_eq_getElem hlt⟩
      have hP := h.safe hS
      obtain ⟨c0, c1, c2, c3, c4⟩ := hP.cells ho
      have HO := Lib.hid ho
      clear ho hP
      go_wp2_with fail
      refine (ffree_any o _).mono ?_
      rintro _ w1 ⟨rfl, hs1⟩
      cases hr : (o.refs == 0)
      · go_wp2
        go_roundw
        case rel =>
          refine ⟨k + 1, by omega, by go_num, fun j q hj hq => ?_, hS.trans hs1⟩
          by_cases e : j = k
          · subst e
            have := hq.symm.trans HO.out
            injection this with this
            rw [this]; exact hr
          · exact HA.out j q (by omega) hq
        case measure => simp [intOf]; omega
      · go_wp2
        go_ret
        exact ⟨by rw [freeF, find_hit HO.out hr HA.out]; rfl, hS.trans hs1⟩
    · obtain rfl : k = os.length := by omega
      go_wp2
      go_ret
      exact ⟨by rw [freeF, find_miss HA.out]; rfl, hS⟩
def badO (kind num what : Int) : Bool := decide (kind < 1) || decide (3 < kind) || decide (num < 1) || decide (what < 1) || decide (7 < what)
def newO (kind num what : Int) : FO := ⟨kind, num, 0, what, 1⟩
set_option maxRecDepth 100000 in
set_option maxHeartbeats 1000000 in
theorem fnew_inval (gf gl : Nat) (os : List FO) (kind num what : Int) (w : World) (h : FW w gf gl os) (hb : badO kind num what = true) :
    Calls Try.prog 20 #[.pointer (some ⟨gf, 0, none⟩), .int .i64 kind, .int .i64 num, .int .i64 what] w fun e w' => e = .returned (.tuple #[I 0, I 1]) ∧ w = w' := by
  have hc : kind < 1 ∨ (¬ kind < 1 ∧ 3 < kind) ∨ (¬ kind < 1 ∧ ¬ 3 < kind ∧ num < 1) ∨ (¬ kind < 1 ∧ ¬ 3 < kind ∧ ¬ num < 1 ∧ what < 1) ∨ (¬ kind < 1 ∧ ¬ 3 < kind ∧ ¬ num < 1 ∧ ¬ what < 1 ∧ 7 < what) := by
    unfold badO at hb
    simp only [Bool.or_eq_true, decide_eq_true_eq] at hb
    omega
  clear hb
  rcases hc with h1 | ⟨h1, h2⟩ | ⟨h1, h2, h3⟩ | ⟨h1, h2, h3, h4⟩ | ⟨h1, h2, h3, h4, h5⟩
  all_goals
    go_enter Try.func20, Try.ntmps20
    go_wp2
    go_ret2
    exact ⟨rfl, rfl⟩
theorem badO_false {kind num what : Int} (hb : badO kind num what = false) : ¬ kind < 1 ∧ ¬ 3 < kind ∧ ¬ num < 1 ∧ ¬ what < 1 ∧ ¬ 7 < what := by
  unfold badO at hb
  simp only [Bool.or_eq_false_iff, decide_eq_false_iff_not] at hb
  omega
set_option maxRecDepth 100000 in
set_option maxHeartbeats 1000000 in
theorem fnew_full (gf gl : Nat) (os : List FO) (kind num what : Int) (w : World) (h : FW w gf gl os) (hb : badO kind num what = false) (hf : freeF os = none) :
    Calls Try.prog 20 #[.pointer (some ⟨gf, 0, none⟩), .int .i64 kind, .int .i64 num, .int .i64 what] w fun e w' => e = .returned (.tuple #[I 0, I 14]) ∧ Safe w w' := by
  obtain ⟨h1, h2, h3, h4, h5⟩ := badO_false hb
  have c0 := h.hp.cell' (i := 0) rfl
  clear hb
  go_enter Try.func20, Try.ntmps20
  go_wp2_with fail
  refine (fidx_any gf gl os _ h).mono ?_
  rintro _ w1 ⟨rfl, hs1⟩
  rw [hf, show ixOf none = -1 from rfl]
  go_wp2
  go_ret2
  exact ⟨rfl, hs1⟩
set_option maxRecDepth 100000 in
set_option maxHeartbeats 1000000 in
theorem fnew_yes (gf gl : Nat) (os : List FO) (k : Nat) (kind num what : Int) (w : World) (h : FW w gf gl os) (hb : badO kind num what = false) (hf : freeF os = some k) :
    Calls Try.prog 20 #[.pointer (some ⟨gf, 0, none⟩), .int .i64 kind, .int .i64 num, .int .i64 what] w fun e w' => e = .returned (.tuple #[I k, I 0]) ∧ FW w' gf gl (os.set k (newO kind num what)) ∧ But (· = gl) w w' := by
  obtain ⟨h1, h2, h3, h4, h5⟩ := badO_false hb
  obtain ⟨o, _, _, hk⟩ := find_get hf
  have c0 := h.hp.cell' (i := 0) rfl
  have hlen := h.len
  clear hb
  go_enter Try.func20, Try.ntmps20
  go_wp2_with fail
  refine (fidx_any gf gl os _ h).mono ?_
  rintro _ w1 ⟨rfl, hs1⟩
  rw [hf, show ixOf (some k) = (k : Int) from rfl]
  have hh := h.safe hs1
  have c0 := hh.hp.cell' (i := 0) rfl
  have hfin := (hh.put hk (newO kind num what)).2
  have hS : But (· = gl) w (w1.setCells gl (k * 5) (encF (newO kind num what)).toArray.toList) := (Safe.but hs1).setCells _ _ (.inl rfl)
  have hth := (hh.put hk (newO kind num what)).1
  have HT : Hid (w1.there gl (k * 5) (#[I kind, I num, I 0, I what, I 1] : Array Value).size) := Lib.hid hth
  have HI : Hid ((Try.prog.info? 52).map (·.size) = some (#[I kind, I num, I 0, I what, I 1] : Array Value).size) := Lib.hid (by kernel_rfl)
  have HO : Hid ((#[I kind, I num, I 0, I what, I 1] : Array Value).all (·.oneCell') = true) := Lib.hid (all_oneCell_toArray (encF_one (newO kind num what)))
  have HF := Lib.hid hfin
  have HS := Lib.hid hS
  have hk' : (k : Int) < os.length := by omega
  clear hfin hS hth hh hf
  go_wp2_with (refine wpList_store_mid rfl 52 (.tmp 45) (.tmp 44) rfl gl (k * 5) #[I kind, I num, I 0, I what, I 1] rfl rfl HT.out HI.out HO.out ?_)
  go_ret2
  exact ⟨rfl, HF.out, HS.out⟩
end Go.Proofs.Ytlojadpbdbhmiaa
