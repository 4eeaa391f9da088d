/- What a process knows: a *Set in memory; the small functions' walks. -/
import Derived.Test.YtlojadpbdbhmiaaA
import Derived.Test.YtlojadpbdbhmiaaProg
import Derived.Deep.RegionHeld3
import Derived.Deep.QuietTactic
import Derived.BigQuiet
namespace Go.Proofs.Ytlojadpbdbhmiaa
open Go.RowKit
set_option linter.unusedSimpArgs false
set_option linter.unusedVariables false

/-- A *Set at block gs, its fds at block gl, with so much room behind them. -/
structure SW (w : World) (gs gl : Nat) (sp : List Value) (ids : List Int) : Prop where
  hp : Blk w gs 122 #[.slice (some ⟨gl, 0, none⟩) ids.length (ids.length + sp.length)]
  hl : Blk w gl 3 (ids.map I ++ sp).toArray
  len : ids.length ≤ 16
  cap : ids.length + sp.length ≤ 9223372036854775807
theorem SW.ne {w : World} {gs gl : Nat} {sp : List Value} {ids : List Int} (h : SW w gs gl sp ids) : gs ≠ gl := h.hp.ne h.hl (by decide)
theorem SW.but {S : Nat → Prop} {w w' : World} {gs gl : Nat} {sp : List Value} {ids : List Int} (h : SW w gs gl sp ids) (hb : But S w w') (h1 : ¬ S gs) (h2 : ¬ S gl) : SW w' gs gl sp ids :=
  ⟨h.hp.but hb h1, h.hl.but hb h2, h.len, h.cap⟩
theorem SW.safe {w w' : World} {gs gl : Nat} {sp : List Value} {ids : List Int} (h : SW w gs gl sp ids) (hb : Safe w w') : SW w' gs gl sp ids := h.but hb id id
theorem SW.drewN {w : World} {gs gl : Nat} {sp : List Value} {ids : List Int} (h : SW w gs gl sp ids) (n : Nat) : SW (w.drewN n) gs gl sp ids := ⟨h.hp.drewN n, h.hl.drewN n, h.len, h.cap⟩
theorem SW.at {w : World} {gs gl : Nat} {sp : List Value} {ids : List Int} (h : SW w gs gl sp ids) {k : Nat} {x : Int} (hk : ids[k]? = some x) : w.cell? ⟨gl, k, none⟩ = some (I x) :=
  h.hl.cell' (by
    have hlt := (List.getElem?_eq_some_iff.1 hk).1
    rw [List.getElem?_toArray, List.getElem?_append_left (by simpa using hlt), List.getElem?_map, hk]; rfl)
theorem SW.set {w : World} {gs gl : Nat} {sp : List Value} {ids : List Int} (h : SW w gs gl sp ids) {k : Nat} (hk : k < ids.length) (x : Int) : SW (w.setCell ⟨gl, k, none⟩ (I x)) gs gl sp (ids.set k x) := by
  refine ⟨?_, ?_, by simpa using h.len, by simpa using h.cap⟩
  · rw [List.length_set]; exact h.hp.far h.ne _
  · have := h.hl.set k (I x)
    rw [List.setIfInBounds_toArray, List.set_append_left _ _ (by simpa using hk), ← List.map_set] at this
    exact this
def hasS (ids : List Int) (fd : Int) : Bool := decide (0 ≤ fd) && decide (fd < ids.length)
theorem hasS_true {ids : List Int} {fd : Int} (h : hasS ids fd = true) : ∃ (k : Nat) (x : Int), fd = k ∧ k < ids.length ∧ ids[k]? = some x := by
  unfold hasS at h
  simp only [Bool.and_eq_true, decide_eq_true_eq] at h
  have hlt : fd.toNat < ids.length := by omega
  exact ⟨fd.toNat, _, by omega, hlt, List.getElem?_eq_getElem hlt⟩
theorem hasS_mk {ids : List Int} {k : Nat} (h : k < ids.length) : hasS ids k = true := by
  unfold hasS; simp; exact h
set_option maxRecDepth 100000 in
theorem shas_any (gs gl : Nat) (sp : List Value) (ids : List Int) (fd : Int) (w : World) (h : SW w gs gl sp ids) :
    Calls Try.prog 71 #[.pointer (some ⟨gs, 0, none⟩), .int .i64 fd] w fun e w' => e = .returned (.bool (hasS ids fd)) ∧ w = w' := by
  have c0 := h.hp.cell' (i := 0) rfl
  have hlen := h.len
  by_cases h1 : 0 ≤ fd
  · by_cases h2 : fd < (ids.length : Int)
    · have e : hasS ids fd = true := by unfold hasS; simp [h1, h2]
      rw [e]
      clear e h
      go_enter Try.func71, Try.ntmps71
      go_wp2
      go_ret
      exact ⟨rfl, rfl⟩
    · have e : hasS ids fd = false := by unfold hasS; simp [h2]
      rw [e]
      clear e h
      go_enter Try.func71, Try.ntmps71
      go_wp2
      go_ret
      exact ⟨rfl, rfl⟩
  · have e : hasS ids fd = false := by unfold hasS; simp [h1]
    rw [e]
    clear e h
    go_enter Try.func71, Try.ntmps71
    go_wp2
    go_ret
    exact ⟨rfl, rfl⟩
/-- Nothing is known there. -/
def NoS (ids : List Int) (fd : Int) : Prop := hasS ids fd = false ∨ ∃ (k : Nat), fd = k ∧ k < ids.length ∧ ids[k]? = some (-1)
theorem s_cases (ids : List Int) (fd : Int) : NoS ids fd ∨ ∃ (k : Nat) (x : Int), fd = k ∧ k < ids.length ∧ ids[k]? = some x ∧ x ≠ -1 := by
  cases h : hasS ids fd with
  | false => exact .inl (.inl h)
  | true =>
    obtain ⟨k, x, e, hk, hx⟩ := hasS_true h
    by_cases hm : x = -1
    · subst hm; exact .inl (.inr ⟨k, e, hk, hx⟩)
    · exact .inr ⟨k, x, e, hk, hx, hm⟩
set_option maxRecDepth 100000 in
theorem sget_yes (gs gl : Nat) (sp : List Value) (ids : List Int) (k : Nat) (x : Int) (w : World) (h : SW w gs gl sp ids) (hk : ids[k]? = some x) (hx : x ≠ -1) :
    Calls Try.prog 47 #[.pointer (some ⟨gs, 0, none⟩), .int .i64 k] w fun e w' => e = .returned (.tuple #[I x, I 0]) ∧ w = w' := by
  have c0 := h.hp.cell' (i := 0) rfl
  have ck := h.at hk
  have hlen := h.len
  have hlt := (List.getElem?_eq_some_iff.1 hk).1
  have hh := shas_any gs gl sp ids k w h
  rw [hasS_mk hlt] at hh
  have hb : (x == -1) = false := by simpa using hx
  have HH := Lib.hid hh
  clear hh hk hx h
  go_enter Try.func47, Try.ntmps47
  go_wp2_with fail
  refine (HH.out).mono ?_
  rintro _ _ ⟨rfl, rfl⟩
  go_wp2
  go_ret2
  exact ⟨rfl, rfl⟩
set_option maxRecDepth 100000 in
theorem sget_no (gs gl : Nat) (sp : List Value) (ids : List Int) (fd : Int) (w : World) (h : SW w gs gl sp ids) (hn : NoS ids fd) :
    Calls Try.prog 47 #[.pointer (some ⟨gs, 0, none⟩), .int .i64 fd] w fun e w' => e = .returned (.tuple #[I 0, I 2]) ∧ w = w' := by
  have c0 := h.hp.cell' (i := 0) rfl
  have hlen := h.len
  rcases hn with hn | ⟨k, rfl, hk, hx⟩
  · have hh := shas_any gs gl sp ids fd w h
    rw [hn] at hh
    have HH := Lib.hid hh
    clear hh h hn
    go_enter Try.func47, Try.ntmps47
    go_wp2_with fail
    refine (HH.out).mono ?_
    rintro _ _ ⟨rfl, rfl⟩
    go_wp2
    go_ret2
    exact ⟨rfl, rfl⟩
  · have hh := shas_any gs gl sp ids k w h
    rw [hasS_mk hk] at hh
    have ck := h.at hx
    have HH := Lib.hid hh
    clear hh h hx
    go_enter Try.func47, Try.ntmps47
    go_wp2_with fail
    refine (HH.out).mono ?_
    rintro _ _ ⟨rfl, rfl⟩
    go_wp2
    go_ret2
    exact ⟨rfl, rfl⟩
theorem but_cell {S : Nat → Prop} {w : World} {g k : Nat} (hs : S g) (u : Value) : But S w (w.setCell ⟨g, k, none⟩ u) := (But.refl S w).setCell (p := ⟨g, k, none⟩) (.inl hs) u
set_option maxRecDepth 100000 in
theorem stake_yes (gs gl : Nat) (sp : List Value) (ids : List Int) (k : Nat) (x : Int) (w : World) (h : SW w gs gl sp ids) (hk : ids[k]? = some x) (hx : x ≠ -1) :
    Calls Try.prog 33 #[.pointer (some ⟨gs, 0, none⟩), .int .i64 k] w fun e w' => e = .returned (.tuple #[I x, I 0]) ∧ SW w' gs gl sp (ids.set k (-1)) ∧ But (· = gl) w w' := by
  have c0 := h.hp.cell' (i := 0) rfl
  have ck := h.at hk
  have fk := h.hl.frozen k
  have hlen := h.len
  have hlt := (List.getElem?_eq_some_iff.1 hk).1
  have HH := Lib.hid (sget_yes gs gl sp ids k x w h hk hx)
  have HF := Lib.hid (h.set hlt (-1))
  clear hk hx h
  go_enter Try.func33, Try.ntmps33
  go_wp2_with fail
  refine (HH.out).mono ?_
  rintro _ _ ⟨rfl, rfl⟩
  go_wp2
  go_ret2
  exact ⟨rfl, HF.out, but_cell (S := (· = gl)) rfl _⟩
set_option maxRecDepth 100000 in
theorem stake_no (gs gl : Nat) (sp : List Value) (ids : List Int) (fd : Int) (w : World) (h : SW w gs gl sp ids) (hn : NoS ids fd) :
    Calls Try.prog 33 #[.pointer (some ⟨gs, 0, none⟩), .int .i64 fd] w fun e w' => e = .returned (.tuple #[I 0, I 2]) ∧ w = w' := by
  have HH := Lib.hid (sget_no gs gl sp ids fd w h hn)
  clear hn h
  go_enter Try.func33, Try.ntmps33
  go_wp2_with fail
  refine (HH.out).mono ?_
  rintro _ _ ⟨rfl, rfl⟩
  go_wp2
  go_ret2
  exact ⟨rfl, rfl⟩
set_option maxRecDepth 100000 in
theorem sat_no (gs gl : Nat) (sp : List Value) (ids : List Int) (fd id : Int) (w : World) (h : SW w gs gl sp ids) (hn : hasS ids fd = false) :
    Calls Try.prog 35 #[.pointer (some ⟨gs, 0, none⟩), .int .i64 fd, .int .i64 id] w fun e w' => e = .returned (.tuple #[I 0, I 2]) ∧ w = w' := by
  have hh := shas_any gs gl sp ids fd w h
  rw [hn] at hh
  have HH := Lib.hid hh
  clear hh h hn
  go_enter Try.func35, Try.ntmps35
  go_wp2_with fail
  refine (HH.out).mono ?_
  rintro _ _ ⟨rfl, rfl⟩
  go_wp2
  go_ret2
  exact ⟨rfl, rfl⟩
set_option maxRecDepth 100000 in
theorem sat_inval (gs gl : Nat) (sp : List Value) (ids : List Int) (fd id : Int) (w : World) (h : SW w gs gl sp ids) (hn : hasS ids fd = true) (hi : id < 0) :
    Calls Try.prog 35 #[.pointer (some ⟨gs, 0, none⟩), .int .i64 fd, .int .i64 id] w fun e w' => e = .returned (.tuple #[I 0, I 1]) ∧ w = w' := by
  have hh := shas_any gs gl sp ids fd w h
  rw [hn] at hh
  have HH := Lib.hid hh
  clear hh h hn
  go_enter Try.func35, Try.ntmps35
  go_wp2_with fail
  refine (HH.out).mono ?_
  rintro _ _ ⟨rfl, rfl⟩
  go_wp2
  go_ret2
  exact ⟨rfl, rfl⟩
set_option maxRecDepth 100000 in
theorem sat_yes (gs gl : Nat) (sp : List Value) (ids : List Int) (k : Nat) (x id : Int) (w : World) (h : SW w gs gl sp ids) (hk : ids[k]? = some x) (hi : 0 ≤ id) :
    Calls Try.prog 35 #[.pointer (some ⟨gs, 0, none⟩), .int .i64 k, .int .i64 id] w fun e w' => e = .returned (.tuple #[I x, I 0]) ∧ SW w' gs gl sp (ids.set k id) ∧ But (· = gl) w w' := by
  have c0 := h.hp.cell' (i := 0) rfl
  have ck := h.at hk
  have fk := h.hl.frozen k
  have hlen := h.len
  have hlt := (List.getElem?_eq_some_iff.1 hk).1
  have hh := shas_any gs gl sp ids k w h
  rw [hasS_mk hlt] at hh
  have HH := Lib.hid hh
  have HF := Lib.hid (h.set hlt id)
  clear hh h hk
  go_enter Try.func35, Try.ntmps35
  go_wp2_with fail
  refine (HH.out).mono ?_
  rintro _ _ ⟨rfl, rfl⟩
  go_wp2
  go_ret2
  exact ⟨rfl, HF.out, but_cell (S := (· = gl)) rfl _⟩
def freeS (ids : List Int) : Option Nat := ids.findIdx? (fun x => x == -1)
def ixS : Option Nat → Int
  | some k => k
  | none => -1
set_option maxRecDepth 100000 in
set_option maxHeartbeats 1000000 in
theorem sindex_any (gs gl : Nat) (sp : List Value) (ids : List Int) (w : World) (h : SW w gs gl sp ids) :
    Calls Try.prog 68 #[.slice (some ⟨gl, 0, none⟩) ids.length (ids.length + sp.length), .int .i64 (-1)] w fun e w' => e = .returned (I (ixS (freeS ids))) ∧ w = w' := by
  have hlen := h.len
  go_enter Try.func68, Try.ntmps68
  go_wp2
  go_loop [8] (fun i => ∃ k : Nat, k ≤ ids.length ∧ i = .int .i64 k ∧ (∀ j (q : Int), j < k → ids[j]? = some q → (q == -1) = false)) (fun i => ids.length - (intOf i).toNat)
  case atStart => exact ⟨0, by omega, rfl, fun j q hj => absurd hj (by omega)⟩
  case round =>
    obtain ⟨k, hk, rfl, hall⟩ := hrel
    have HA := Lib.hid hall
    clear hall
    by_cases hlt : k < ids.length
    · obtain ⟨x, ho⟩ : ∃ x, ids[k]? = some x := ⟨_, List.getElem?_eq_getElem hlt⟩
      have ck := h.at ho
      have HO := Lib.hid ho
      clear ho
      cases hr : (x == -1)
      · have hr2 : (-1 == x) = false := by simp at hr ⊢; omega
        go_wp2
        go_round
        case rel =>
          refine ⟨k + 1, by omega, by go_num, fun j q hj hq => ?_⟩
          by_cases e : j = k
          · subst e
            have := hq.symm.trans HO.out
            injection this with this
            rw [this]; exact hr
          · exact HA.out j q (by omega) hq
        case measure => simp [intOf]; omega
      · have hr2 : (-1 == x) = true := by simp at hr ⊢; omega
        go_wp2
        go_ret
        have : freeS ids = some k := by
          unfold freeS
          rw [List.findIdx?_eq_some_iff_getElem]
          obtain ⟨hlt, he⟩ := List.getElem?_eq_some_iff.1 HO.out
          refine ⟨hlt, by rw [he]; exact hr, fun j hj => ?_⟩
          have := HA.out j ids[j] hj (List.getElem?_eq_getElem (by omega))
          simp [this]
        exact ⟨by rw [this]; rfl, rfl⟩
    · obtain rfl : k = ids.length := by omega
      go_wp2
      go_ret
      have : freeS ids = none := by
        unfold freeS
        rw [List.findIdx?_eq_none_iff]
        intro q hq
        obtain ⟨j, hj⟩ := List.getElem?_of_mem hq
        exact HA.out j q (List.getElem?_eq_some_iff.1 hj).1 hj
      exact ⟨by rw [this]; rfl, rfl⟩
theorem freeS_get {ids : List Int} {k : Nat} (h : freeS ids = some k) : ids[k]? = some (-1) ∧ k < ids.length := by
  unfold freeS at h
  rw [List.findIdx?_eq_some_iff_getElem] at h
  obtain ⟨hlt, he, _⟩ := h
  refine ⟨?_, hlt⟩
  rw [List.getElem?_eq_getElem hlt]
  simpa using he
set_option maxRecDepth 100000 in
theorem sput_inval (gs gl : Nat) (sp : List Value) (ids : List Int) (id : Int) (w : World) (h : SW w gs gl sp ids) (hi : id < 0) :
    Calls Try.prog 31 #[.pointer (some ⟨gs, 0, none⟩), .int .i64 id] w fun e w' => e = .returned (.tuple #[I 0, I 1]) ∧ w = w' := by
  clear h
  go_enter Try.func31, Try.ntmps31
  go_wp2
  go_ret2
  exact ⟨rfl, rfl⟩
set_option maxRecDepth 100000 in
theorem sput_full (gs gl : Nat) (sp : List Value) (ids : List Int) (id : Int) (w : World) (h : SW w gs gl sp ids) (hi : 0 ≤ id) (hf : freeS ids = none) :
    Calls Try.prog 31 #[.pointer (some ⟨gs, 0, none⟩), .int .i64 id] w fun e w' => e = .returned (.tuple #[I 0, I 13]) ∧ w = w' := by
  have c0 := h.hp.cell' (i := 0) rfl
  have hx := sindex_any gs gl sp ids w h
  rw [hf, show ixS none = -1 from rfl] at hx
  have HX := Lib.hid hx
  clear hx h hf
  go_enter Try.func31, Try.ntmps31
  go_wp2_with fail
  refine (HX.out).mono ?_
  rintro _ _ ⟨rfl, rfl⟩
  go_wp2
  go_ret2
  exact ⟨rfl, rfl⟩
set_option maxRecDepth 100000 in
theorem sput_yes (gs gl : Nat) (sp : List Value) (ids : List Int) (k : Nat) (id : Int) (w : World) (h : SW w gs gl sp ids) (hi : 0 ≤ id) (hf : freeS ids = some k) :
    Calls Try.prog 31 #[.pointer (some ⟨gs, 0, none⟩), .int .i64 id] w fun e w' => e = .returned (.tuple #[I k, I 0]) ∧ SW w' gs gl sp (ids.set k id) ∧ But (· = gl) w w' := by
  have c0 := h.hp.cell' (i := 0) rfl
  have hx := sindex_any gs gl sp ids w h
  rw [hf, show ixS (some k) = (k : Int) from rfl] at hx
  obtain ⟨hk, hlt⟩ := freeS_get hf
  have ck := h.at hk
  have fk := h.hl.frozen k
  have hlen := h.len
  have hki : (k : Int) < ids.length := by omega
  have HX := Lib.hid hx
  have HF := Lib.hid (h.set hlt id)
  clear hx h hf hk
  go_enter Try.func31, Try.ntmps31
  go_wp2_with fail
  refine (HX.out).mono ?_
  rintro _ _ ⟨rfl, rfl⟩
  go_wp2
  go_ret2
  exact ⟨rfl, HF.out, but_cell (S := (· = gl)) rfl _⟩
end Go.Proofs.Ytlojadpbdbhmiaa
