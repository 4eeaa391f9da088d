/- Open files: a *Files in memory; the small functions' walks. -/
import Derived.Test.YtlojadpbdbhmiaaSr
import Derived.Test.YtlojadpbdbhmiaaProg
import Derived.Deep.RegionHeld3
import Derived.Deep.QuietTactic
import Derived.BigQuiet
namespace Go.Proofs.Ytlojadpbdbhmiaa
open Go.RowKit
set_option linter.unusedSimpArgs false
set_option linter.unusedVariables false

structure FO where
  kind : Int
  num : Int
  pos : Int
  flags : Int
  refs : Int
def encF (o : FO) : List Value := [I o.kind, I o.num, I o.pos, I o.flags, I o.refs]
theorem encF_len (o : FO) : (encF o).length = 5 := rfl
abbrev aggF (o : FO) : Value := .agg #[I o.kind, I o.num, I o.pos, I o.flags, I o.refs]
def zeroF : FO := ⟨0, 0, 0, 0, 0⟩
theorem encF_one (o : FO) : ∀ u ∈ encF o, u.oneCell' = true := by
  intro u hu
  simp only [encF, List.mem_cons, List.not_mem_nil, or_false] at hu
  rcases hu with rfl | rfl | rfl | rfl | rfl <;> rfl
/-- A *Files at block gf, its open files at block gl. -/
structure FW (w : World) (gf gl : Nat) (os : List FO) : Prop where
  hp : Blk w gf 111 #[.slice (some ⟨gl, 0, none⟩) os.length os.length]
  hl : Blk w gl 52 (flat encF os)
  len : os.length ≤ 64
theorem FW.ne {w : World} {gf gl : Nat} {os : List FO} (h : FW w gf gl os) : gf ≠ gl := h.hp.ne h.hl (by decide)
theorem FW.but {S : Nat → Prop} {w w' : World} {gf gl : Nat} {os : List FO} (h : FW w gf gl os) (hb : But S w w') (h1 : ¬ S gf) (h2 : ¬ S gl) : FW w' gf gl os :=
  ⟨h.hp.but hb h1, h.hl.but hb h2, h.len⟩
theorem FW.safe {w w' : World} {gf gl : Nat} {os : List FO} (h : FW w gf gl os) (hb : Safe w w') : FW w' gf gl os := h.but hb id id
theorem FW.drewN {w : World} {gf gl : Nat} {os : List FO} (h : FW w gf gl os) (n : Nat) : FW (w.drewN n) gf gl os := ⟨h.hp.drewN n, h.hl.drewN n, h.len⟩
theorem FW.cell {w : World} {gf gl : Nat} {os : List FO} (h : FW w gf gl os) {k : Nat} {o : FO} (hk : os[k]? = some o) {j : Nat} {v : Value} (hv : (encF o)[j]? = some v) : w.cell? ⟨gl, k * 5 + j, none⟩ = some v := flat_cell encF_len h.hl hk hv
theorem FW.cells {w : World} {gf gl : Nat} {os : List FO} (h : FW w gf gl os) {k : Nat} {o : FO} (hk : os[k]? = some o) :
    w.cell? ⟨gl, k * 5, none⟩ = some (I o.kind) ∧ w.cell? ⟨gl, k * 5 + 1, none⟩ = some (I o.num) ∧ w.cell? ⟨gl, k * 5 + 2, none⟩ = some (I o.pos) ∧ w.cell? ⟨gl, k * 5 + 3, none⟩ = some (I o.flags) ∧ w.cell? ⟨gl, k * 5 + 4, none⟩ = some (I o.refs) :=
  ⟨h.cell hk (j := 0) rfl, h.cell hk (j := 1) rfl, h.cell hk (j := 2) rfl, h.cell hk (j := 3) rfl, h.cell hk (j := 4) rfl⟩
theorem FW.range {w : World} {gf gl : Nat} {os : List FO} (h : FW w gf gl os) {k : Nat} {o : FO} (hk : os[k]? = some o) : w.rangeAt gl (k * 5) (encF o) := flat_range encF_len h.hl hk
/-- A field of one turns. -/
theorem FW.set {w : World} {gf gl : Nat} {os : List FO} (h : FW w gf gl os) {k j : Nat} {o o' : FO} {v : Value} (hk : os[k]? = some o) (hj : j < 5) (he : encF o' = (encF o).set j v) :
    FW (w.setCell ⟨gl, k * 5 + j, none⟩ v) gf gl (os.set k o') := by
  refine ⟨?_, flat_setB encF_len h.hl hk hj he, by simpa using h.len⟩
  rw [List.length_set]; exact h.hp.far h.ne _
/-- One is another one. -/
theorem FW.put {w : World} {gf gl : Nat} {os : List FO} (h : FW w gf gl os) {k : Nat} (hk : k < os.length) (o : FO) : w.there gl (k * 5) (encF o).toArray.size ∧ FW (w.setCells gl (k * 5) (encF o).toArray.toList) gf gl (os.set k o) := by
  refine ⟨flat_there encF_len h.hl hk, ?_, flat_putB encF_len h.hl o hk, by simpa using h.len⟩
  rw [List.length_set]; exact h.hp.farAll _ h.ne _
/-- Is there no such open file? -/
def NoF (os : List FO) (id : Int) : Prop := id < 0 ∨ (os.length : Int) ≤ id ∨ ∃ (k : Nat) (o : FO), id = k ∧ os[k]? = some o ∧ o.refs = 0
theorem f_cases (os : List FO) (id : Int) : NoF os id ∨ ∃ (k : Nat) (o : FO), id = k ∧ k < os.length ∧ os[k]? = some o ∧ o.refs ≠ 0 := by
  by_cases h0 : id < 0
  · exact .inl (.inl h0)
  by_cases h1 : (os.length : Int) ≤ id
  · exact .inl (.inr (.inl h1))
  have hlt : id.toNat < os.length := by omega
  by_cases h2 : os[id.toNat].refs = 0
  · exact .inl (.inr (.inr ⟨id.toNat, _, by omega, List.getElem?_eq_getElem hlt, h2⟩))
  · exact .inr ⟨id.toNat, _, by omega, hlt, List.getElem?_eq_getElem hlt, h2⟩

set_option maxRecDepth 100000 in
theorem fopen_yes (gf gl : Nat) (os : List FO) (k : Nat) (o : FO) (w : World) (h : FW w gf gl os) (hk : os[k]? = some o) (hr : o.refs ≠ 0) :
    Calls Try.prog 65 #[.pointer (some ⟨gf, 0, none⟩), .int .i64 k] w fun e w' => e = .returned (.tuple #[.pointer (some ⟨gl, k * 5, none⟩), I 0]) ∧ w = w' := by
  have hlt := (List.getElem?_eq_some_iff.1 hk).1
  have hlen := h.len
  obtain ⟨_, _, _, _, c4⟩ := h.cells hk
  have c0 := h.hp.cell' (i := 0) rfl
  have hb : (o.refs == 0) = false := by simpa using hr
  have H := Lib.hid hk
  clear hk hr
  go_enter Try.func65, Try.ntmps65
  go_wp2
  go_ret2
  exact ⟨rfl, rfl⟩
set_option maxRecDepth 100000 in
theorem fopen_no (gf gl : Nat) (os : List FO) (id : Int) (w : World) (h : FW w gf gl os) (hn : NoF os id) :
    Calls Try.prog 65 #[.pointer (some ⟨gf, 0, none⟩), .int .i64 id] w fun e w' => e = .returned (.tuple #[.pointer none, I 2]) ∧ w = w' := by
  have hlen := h.len
  have c0 := h.hp.cell' (i := 0) rfl
  by_cases h0 : id < 0
  · clear hn
    go_enter Try.func65, Try.ntmps65
    go_wp2
    go_ret2
    exact ⟨rfl, rfl⟩
  by_cases h1 : (os.length : Int) ≤ id
  · clear hn
    go_enter Try.func65, Try.ntmps65
    go_wp2
    go_ret2
    exact ⟨rfl, rfl⟩
  · obtain ⟨k, o, rfl, hk, hr⟩ : ∃ (k : Nat) (o : FO), id = k ∧ os[k]? = some o ∧ o.refs = 0 := by
      rcases hn with hn | hn | hn
      · exact absurd hn h0
      · exact absurd hn h1
      · exact hn
    obtain ⟨_, _, _, _, c4⟩ := h.cells hk
    rw [hr] at c4
    clear hk hr
    go_enter Try.func65, Try.ntmps65
    go_wp2
    go_ret2
    exact ⟨rfl, rfl⟩
set_option maxRecDepth 100000 in
theorem fget_yes (gf gl : Nat) (os : List FO) (k : Nat) (o : FO) (w : World) (h : FW w gf gl os) (hk : os[k]? = some o) (hr : o.refs ≠ 0) :
    Calls Try.prog 55 #[.pointer (some ⟨gf, 0, none⟩), .int .i64 k] w fun e w' => e = .returned (.tuple #[aggF o, I 0]) ∧ Safe w w' := by
  have hop := fun W (hW : FW W gf gl os) => fopen_yes gf gl os k o W hW hk hr
  have h1 := h.safe ((But.refl _ w).alloc (.cells #[I 0, I 0, I 0, I 0, I 0] 52))
  obtain ⟨c0, c1, c2, c3, c4⟩ := h.cells hk
  have HO := Lib.hid hop
  have H1 := Lib.hid h1
  have hlt := h.hl.lt
  clear hop h1 hk hr h
  go_enter Try.func55, Try.ntmps55
  go_wp2_with fail
  refine (HO.out _ H1.out).mono ?_
  rintro _ _ ⟨rfl, rfl⟩
  go_wp2
  exact bodyPost_ret (v := .tuple #[aggF o, I 0]) (by simp [results, Try.results55, go_sem]) rfl ⟨rfl, (But.refl _ _).alloc _⟩
set_option maxRecDepth 100000 in
theorem fget_no (gf gl : Nat) (os : List FO) (id : Int) (w : World) (h : FW w gf gl os) (hn : NoF os id) :
    Calls Try.prog 55 #[.pointer (some ⟨gf, 0, none⟩), .int .i64 id] w fun e w' => e = .returned (.tuple #[aggF zeroF, I 2]) ∧ Safe w w' := by
  have HO := Lib.hid (fopen_no gf gl os id _ (h.safe ((But.refl _ w).alloc (.cells #[I 0, I 0, I 0, I 0, I 0] 52))) hn)
  clear hn h
  go_enter Try.func55, Try.ntmps55
  go_wp2_with fail
  refine (HO.out).mono ?_
  rintro _ _ ⟨rfl, rfl⟩
  go_wp2
  exact bodyPost_ret (v := .tuple #[aggF zeroF, I 2]) (by simp [results, Try.results55, go_sem, zeroF]) rfl ⟨rfl, (But.refl _ _).alloc _⟩
set_option maxRecDepth 100000 in
theorem fref_yes (gf gl : Nat) (os : List FO) (k : Nat) (o : FO) (w : World) (h : FW w gf gl os) (hk : os[k]? = some o) (hr : o.refs ≠ 0) (h1 : -9223372036854775808 ≤ o.refs) (h2 : o.refs < 9223372036854775807) :
    Calls Try.prog 22 #[.pointer (some ⟨gf, 0, none⟩), .int .i64 k] w fun e w' => e = .returned (I 0) ∧ FW w' gf gl (os.set k { o with refs := o.refs + 1 }) ∧ But (· = gl) w w' := by
  have HO := Lib.hid (fopen_yes gf gl os k o w h hk hr)
  obtain ⟨_, _, _, _, c4⟩ := h.cells hk
  have f4 := h.hl.frozen (k * 5 + 4)
  have hfin := h.set (j := 4) (o' := { o with refs := o.refs + 1 }) (v := I (o.refs + 1)) hk (by omega) rfl
  have hs : But (· = gl) w (w.setCell ⟨gl, k * 5 + 4, none⟩ (I (o.refs + 1))) := (But.refl (· = gl) w).setCell (p := ⟨gl, k * 5 + 4, none⟩) (.inl rfl) _
  have HF := Lib.hid hfin
  have HS := Lib.hid hs
  clear hfin hs hk hr h
  go_enter Try.func22, Try.ntmps22
  go_wp2_with fail
  refine (HO.out).mono ?_
  rintro _ _ ⟨rfl, rfl⟩
  go_wp2
  go_ret
  exact ⟨rfl, HF.out, HS.out⟩
set_option maxRecDepth 100000 in
theorem fref_no (gf gl : Nat) (os : List FO) (id : Int) (w : World) (h : FW w gf gl os) (hn : NoF os id) :
    Calls Try.prog 22 #[.pointer (some ⟨gf, 0, none⟩), .int .i64 id] w fun e w' => e = .returned (I 2) ∧ w = w' := by
  have HO := Lib.hid (fopen_no gf gl os id w h hn)
  clear hn h
  go_enter Try.func22, Try.ntmps22
  go_wp2_with fail
  refine (HO.out).mono ?_
  rintro _ _ ⟨rfl, rfl⟩
  go_wp2
  go_ret
  exact ⟨rfl, rfl⟩
set_option maxRecDepth 100000 in
theorem fmove_yes (gf gl : Nat) (os : List FO) (k : Nat) (o : FO) (p : Int) (w : World) (h : FW w gf gl os) (hk : os[k]? = some o) (hr : o.refs ≠ 0) (hp : 0 ≤ p) :
    Calls Try.prog 26 #[.pointer (some ⟨gf, 0, none⟩), .int .i64 k, .int .i64 p] w fun e w' => e = .returned (I 0) ∧ FW w' gf gl (os.set k { o with pos := p }) ∧ But (· = gl) w w' := by
  have HO := Lib.hid (fopen_yes gf gl os k o w h hk hr)
  obtain ⟨_, _, c2, _, _⟩ := h.cells hk
  have f2 := h.hl.frozen (k * 5 + 2)
  have hfin := h.set (j := 2) (o' := { o with pos := p }) (v := I p) hk (by omega) rfl
  have hs : But (· = gl) w (w.setCell ⟨gl, k * 5 + 2, none⟩ (I p)) := (But.refl (· = gl) w).setCell (p := ⟨gl, k * 5 + 2, none⟩) (.inl rfl) _
  have HF := Lib.hid hfin
  have HS := Lib.hid hs
  clear hfin hs hk hr h
  go_enter Try.func26, Try.ntmps26
  go_wp2_with fail
  refine (HO.out).mono ?_
  rintro _ _ ⟨rfl, rfl⟩
  go_wp2
  go_ret
  exact ⟨rfl, HF.out, HS.out⟩
set_option maxRecDepth 100000 in
theorem fmove_inval (gf gl : Nat) (os : List FO) (k : Nat) (o : FO) (p : Int) (w : World) (h : FW w gf gl os) (hk : os[k]? = some o) (hr : o.refs ≠ 0) (hp : p < 0) :
    Calls Try.prog 26 #[.pointer (some ⟨gf, 0, none⟩), .int .i64 k, .int .i64 p] w fun e w' => e = .returned (I 1) ∧ w = w' := by
  have HO := Lib.hid (fopen_yes gf gl os k o w h hk hr)
  clear hk hr h
  go_enter Try.func26, Try.ntmps26
  go_wp2_with fail
  refine (HO.out).mono ?_
  rintro _ _ ⟨rfl, rfl⟩
  go_wp2
  go_ret
  exact ⟨rfl, rfl⟩
set_option maxRecDepth 100000 in
theorem fmove_no (gf gl : Nat) (os : List FO) (id p : Int) (w : World) (h : FW w gf gl os) (hn : NoF os id) :
    Calls Try.prog 26 #[.pointer (some ⟨gf, 0, none⟩), .int .i64 id, .int .i64 p] w fun e w' => e = .returned (I 2) ∧ w = w' := by
  have HO := Lib.hid (fopen_no gf gl os id w h hn)
  clear hn h
  go_enter Try.func26, Try.ntmps26
  go_wp2_with fail
  refine (HO.out).mono ?_
  rintro _ _ ⟨rfl, rfl⟩
  go_wp2
  go_ret
  exact ⟨rfl, rfl⟩
end Go.Proofs.Ytlojadpbdbhmiaa
