/- DrumlinSectors: parts, plain and as arguments; the reference's Has. -/
import Derived.Test.YtgbdnghbamaecaaK
import Derived.Test.YtgbdnghbamaecaaNi
import Derived.Test.YtgbdnghbamaecaaEq
import Derived.Deep.Slices
import Derived.Deep.Fields
namespace Go.Proofs.Ytgbdnghbamaecaa
open Go.ChangeShapes Go.WideShapes Go.ChangeAt Go.RowKit Go.Deep
set_option linter.unusedSimpArgs false
set_option linter.unusedVariables false

section
variable {H : Type} {enc : TypeId × Value → H} {P : Program} {w : World} {base : Nat} {spare : Nat → Bool} {held : Bool}
/-- One element, a struct of one-cell fields: its cells, and each field's own reading. -/
theorem elem_fields {e : TypeId} {fs : Array Field} {a : Addr} {i fuel : Nat} {es : List Value} {x : DataW H × List MemPlace} (he : P.underlying e = some (.struct fs)) (hone : oneCellFields P fs = true) (hC : P.cellsOf e = fs.size)
    (hc : w.cells? base (a.add (i * P.cellsOf e)) (P.cellsOf e) = some es) (h : DataW.trod enc P w base spare held fuel e es = some x) :
    ∃ n, ∀ j f, fs[j]? = some f → ∃ v y, w.cell? (a.add (i * fs.size + j)) = some v ∧ DataW.trod enc P w base spare held n f.type [v] = some y := by
  obtain ⟨ys, n, _, _, hlen, hyl, hf⟩ := DataW.trod_struct he h
  obtain ⟨_, _, hat⟩ := World.cells?_some hc
  rw [hC] at hlen hat
  refine ⟨n, fun j f hj => ?_⟩
  obtain ⟨ho, hk⟩ := hone_of hone j f hj
  have hjl : j < fs.size := (Array.getElem?_eq_some_iff.1 hj).1
  have h1 := hf j f hj
  rw [ho, hk, List.drop_eq_getElem_cons (by omega)] at h1
  refine ⟨es[j]'(by omega), ys[j]'(by omega), ?_, ?_⟩
  · rw [← Go.Deep.add_add, hat j hjl, List.getElem?_eq_getElem (by omega)]
  · rw [← List.getElem?_eq_getElem (by omega), ← h1]
    rfl
end

/-- A part: its width, its number, is it bytes, its bytes. -/
structure PartR where
  wd : Int
  num : Nat
  raw : Bool
  B : Option Addr
  bc : Nat
  bs : List Int
instance : Inhabited PartR := ⟨⟨0, 0, false, none, 0, []⟩⟩
structure PartR.In (W : World) (a : PartR) : Prop where
  wd : -9223372036854775808 ≤ a.wd ∧ a.wd ≤ 9223372036854775807
  num : a.num < 18446744073709551616
  bl : a.bs.length ≤ a.bc
  bc : a.bc ≤ 9223372036854775807
  rd : Rd (Value.int .u8) W a.B a.bs
  u8 : ∀ x ∈ a.bs, 0 ≤ x ∧ x < 256
def encV (p : PartR) : List Value := [I p.wd, .int .u64 p.num, .bool p.raw, .slice p.B p.bs.length p.bc]
/-- The bytes of a part. -/
def encB (p : PartR) : List Int := if p.raw = true then p.bs ++ List.replicate (p.wd.toNat - p.bs.length) 0 else lowL p.wd.toNat p.num
def hasB (wd : Int) (n : Nat) : Bool := decide (1 ≤ wd ∧ wd ≤ 8 ∧ n < 256 ^ wd.toNat)
/-- A part that has room. -/
structure GoodP (p : PartR) : Prop where
  w0 : 0 ≤ p.wd
  w1 : p.wd ≤ 120
  num : p.raw = false → 1 ≤ p.wd ∧ p.wd ≤ 8 ∧ p.num < 256 ^ p.wd.toNat
  raw : p.raw = true → p.bs.length ≤ p.wd.toNat
theorem encB_len {p : PartR} (h : GoodP p) : (encB p).length = p.wd.toNat := by
  unfold encB
  cases hr : p.raw
  · simp [lowL_len]
  · have := h.raw hr
    simp; omega
theorem encB_u8 {W : World} {p : PartR} (h : p.In W) : ∀ x ∈ encB p, 0 ≤ x ∧ x < 256 := by
  intro x hx
  unfold encB at hx
  split at hx
  · rw [List.mem_append, List.mem_replicate] at hx
    rcases hx with hx | ⟨_, rfl⟩
    · exact h.u8 x hx
    · omega
  · exact lowL_u8 _ _ x hx
/-- n parts lie at A. -/
def PartsAt (W : World) (A : Option Addr) (n : Nat) (D : Nat → PartR) : Prop :=
  ∀ i, i < n → ∃ ad, A = some ad ∧ (D i).In W ∧ W.cell? (ad.add (i * 4 + 0)) = some (I (D i).wd) ∧ W.cell? (ad.add (i * 4 + 1)) = some (.int .u64 (D i).num) ∧ W.cell? (ad.add (i * 4 + 2)) = some (.bool (D i).raw) ∧
    W.cell? (ad.add (i * 4 + 3)) = some (.slice (D i).B (D i).bs.length (D i).bc)
theorem oneInt {H : Type} {enc : TypeId × Value → H} {w : World} {base : Nat} {spare : Nat → Bool} {held : Bool} {n : Nat} {v : Value} {y : DataW H × List MemPlace} (h : DataW.trod enc Try.prog w base spare held n 3 [v] = some y) :
    ∃ b, v = I b ∧ -9223372036854775808 ≤ b ∧ b ≤ 9223372036854775807 := by
  obtain ⟨b, e, _, wb⟩ := DataW.trod_int Try.underlying3 h
  exact ⟨b, by simpa using e, (int_range wb).1, (int_range wb).2⟩
theorem oneU64 {H : Type} {enc : TypeId × Value → H} {w : World} {base : Nat} {spare : Nat → Bool} {held : Bool} {n : Nat} {v : Value} {y : DataW H × List MemPlace} (h : DataW.trod enc Try.prog w base spare held n 28 [v] = some y) :
    ∃ b : Nat, v = .int .u64 b ∧ b < 18446744073709551616 := by
  obtain ⟨b, e, _, wb⟩ := DataW.trod_int Try.underlying28 h
  simp [Lit.wf, IntKind.min, IntKind.max, IntKind.signed, IntKind.bits] at wb
  exact ⟨b.toNat, by rw [Int.toNat_of_nonneg wb.1]; simpa using e, by omega⟩
theorem oneBool {H : Type} {enc : TypeId × Value → H} {w : World} {base : Nat} {spare : Nat → Bool} {held : Bool} {n : Nat} {v : Value} {y : DataW H × List MemPlace} (h : DataW.trod enc Try.prog w base spare held n 4 [v] = some y) :
    ∃ b, v = .bool b := by
  obtain ⟨b, e, _⟩ := DataW.trod_bool Try.underlying4 h
  exact ⟨b, by simpa using e⟩
theorem oneBytes {H : Type} {enc : TypeId × Value → H} {w : World} {base : Nat} {spare : Nat → Bool} {held : Bool} {n : Nat} {v : Value} {y : DataW H × List MemPlace} (h : DataW.trod enc Try.prog w base spare held n 29 [v] = some y) :
    ∃ (B : Option Addr) (c : Nat) (bs : List Int), v = .slice B bs.length c ∧ bs.length ≤ c ∧ c ≤ 9223372036854775807 ∧ Rd (Value.int .u8) w B bs ∧ ∀ x ∈ bs, 0 ≤ x ∧ x < 256 := by
  rcases open_ints Try.underlying29 Try.underlying5 (show Try.prog.cellsOf 5 = 1 from by kernel_rfl) h with ⟨hcs, _⟩ | ⟨a, len, cap, zs, hcs, _, hl, hm, hz, _, hcell, hwf⟩
  · simp at hcs
    subst hcs
    exact ⟨none, 0, [], rfl, Nat.le_refl _, by omega, Rd.nil, by simp⟩
  · simp at hcs
    subst hcs
    have hlen : len ≤ zs.length := by rw [hz]; split <;> omega
    have ht : (zs.take len).length = len := by rw [List.length_take]; omega
    refine ⟨some a, cap, zs.take len, by rw [ht], by omega, by simpa [maxLen] using hm, fun _ => ⟨a, rfl, fun k x hk => ?_⟩, fun x hx => ?_⟩
    · rw [List.getElem?_take] at hk
      split at hk
      · have hk' := (List.getElem?_eq_some_iff.1 hk).1
        rw [hcell k hk', List.getD_eq_getElem?_getD, hk]
        rfl
      · cases hk
    · have := hwf x (List.mem_of_mem_take hx)
      simp [Lit.wf, IntKind.min, IntKind.max, IntKind.signed, IntKind.bits] at this
      omega
set_option maxRecDepth 100000 in
theorem open_parts {H : Type} {enc : TypeId × Value → H} {W : World} {r : Reach} {b0 : Nat} {v : Value} {d : DataW H} {p : List MemPlace} {sp : Nat → Bool}
    (hv : Value.okWide Try.prog W r b0 22 v) (h : DataW.Trod enc Try.prog W 0 sp true 22 v d p) :
    ∃ (A : Option Addr) (n c : Nat) (D : Nat → PartR), v = .slice A n c ∧ n ≤ c ∧ c ≤ 9223372036854775807 ∧ PartsAt W A n D := by
  obtain ⟨A, n, c, rfl⟩ := okWide_slice Try.underlying22 hv
  obtain ⟨fuel, hf⟩ := h
  rcases open_slice Try.underlying22 hf with ⟨hcs, _⟩ | ⟨a, len, cap, m, k, D, Pl, hcs, _, hl, hm, hmm, _, hi⟩
  · simp [Value.cells] at hcs
    obtain ⟨rfl, rfl, rfl⟩ := hcs
    exact ⟨none, 0, 0, fun _ => default, rfl, Nat.le_refl _, by omega, fun i hi => absurd hi (by omega)⟩
  · simp [Value.cells] at hcs
    obtain ⟨rfl, rfl, rfl⟩ := hcs
    have hlm : n ≤ m := by rw [hmm]; split <;> omega
    obtain ⟨E, hE⟩ := choose_lt (n := n) (p := fun i (x : PartR) => x.In W ∧ W.cell? (a.add (i * 4 + 0)) = some (I x.wd) ∧ W.cell? (a.add (i * 4 + 1)) = some (.int .u64 x.num) ∧ W.cell? (a.add (i * 4 + 2)) = some (.bool x.raw) ∧
        W.cell? (a.add (i * 4 + 3)) = some (.slice x.B x.bs.length x.bc)) (fun i hin => by
      obtain ⟨es, hc, ht⟩ := hi i (by omega)
      obtain ⟨q, hq⟩ := elem_fields Try.underlying31 (by kernel_rfl) (by kernel_rfl) hc ht
      obtain ⟨v0, y0, c0, t0⟩ := hq 0 _ rfl
      obtain ⟨v1, y1, c1, t1⟩ := hq 1 _ rfl
      obtain ⟨v2, y2, c2, t2⟩ := hq 2 _ rfl
      obtain ⟨v3, y3, c3, t3⟩ := hq 3 _ rfl
      obtain ⟨b0, rfl, r0⟩ := oneInt t0
      obtain ⟨b1, rfl, r1⟩ := oneU64 t1
      obtain ⟨b2, rfl⟩ := oneBool t2
      obtain ⟨B, bc, bs, rfl, h1, h2, h3, h4⟩ := oneBytes t3
      exact ⟨⟨b0, b1, b2, B, bc, bs⟩, ⟨r0, r1, h1, h2, h3, h4⟩, c0, c1, c2, c3⟩)
    exact ⟨some a, n, c, E, rfl, hl, by simpa [maxLen] using hm, fun i hin => ⟨a, rfl, hE i hin⟩⟩
set_option maxRecDepth 100000 in
set_option maxHeartbeats 2000000 in
theorem has_any (wd : Int) (n : Nat) (w : World) (hn : n < 18446744073709551616) :
    Calls Try.prog 4 #[.int .i64 wd, .int .u64 n] w fun e w' => e = .returned (.bool (hasB wd n)) ∧ w = w' := by
  by_cases h1 : 1 ≤ wd ∧ wd ≤ 8
  · obtain ⟨k, rfl⟩ : ∃ k : Nat, wd = k := ⟨wd.toNat, by omega⟩
    obtain ⟨h1, h2⟩ := h1
    have e : hasB (k : Int) n = decide (n / 256 ^ k = 0) := by
      unfold hasB
      rw [Int.toNat_natCast]
      apply decide_eq_decide.2
      rw [Nat.div_eq_zero_iff]
      have : 256 ^ k ≠ 0 := Nat.ne_of_gt (Nat.pow_pos (by omega))
      constructor
      · intro h; exact .inr h.2.2
      · intro h; exact ⟨h1, h2, h.resolve_left this⟩
    obtain ⟨r, hr⟩ : ∃ r, r = hasB (k : Int) n := ⟨_, rfl⟩
    rw [← hr]
    rw [e] at hr
    have HR := Lib.hid hr
    clear e hr
    go_enter Try.func4, Try.ntmps4
    go_wp2_with fail
    go_loop [1, 5] (fun y x => ∃ i : Nat, i ≤ k ∧ x = .int .i64 i ∧ y = .int .u64 ((n / 256 ^ i : Nat) : Int)) (fun _ x => k - (intOf x).toNat)
    case atStart => exact ⟨0, by omega, rfl, by simp⟩
    case round =>
      obtain ⟨i, hi, rfl, rfl⟩ := hrel
      by_cases hlt : i < k
      · have hlt2 : (i : Int) < k := by omega
        have hd : n / 256 ^ (i + 1) = n / 256 ^ i / 256 := by rw [Nat.pow_succ, Nat.div_div_eq_div_mul]
        have HD := Lib.hid hd
        clear hd
        have hmn : n / 256 ^ i ≤ n := Nat.div_le_self ..
        generalize n / 256 ^ i = m at *
        go_wp2
        go_round
        case rel => exact ⟨i + 1, by omega, by go_num, by
          rw [HD.out]
          have := u64_small (n := m / 256) (by omega)
          rw [show ((m / 256 : Nat) : Int) = (m : Int) / 256 from by simp] at this
          simp [this]⟩
        case measure => simp [intOf]; omega
      · obtain rfl : i = k := by omega
        generalize hm : n / 256 ^ i = m at *
        have HM := Lib.hid hm
        clear hm
        go_wp2
        go_ret
        refine ⟨?_, rfl⟩
        have e2 : r = ((m : Int) == 0) := by
          rw [HR.out]
          by_cases h0 : m = 0
          · subst h0; rfl
          · rw [decide_eq_false h0]; symm; simpa using h0
        rw [e2]
        rfl
  · have e : hasB wd n = false := decide_eq_false (fun h => h1 ⟨h.1, h.2.1⟩)
    rw [e]
    have h2 : wd < 1 ∨ (1 ≤ wd ∧ 8 < wd) := by omega
    clear e h1
    rcases h2 with h | ⟨h, h'⟩
    all_goals
      go_enter Try.func4, Try.ntmps4
      go_wp2
      go_ret
      exact ⟨rfl, rfl⟩
end Go.Proofs.Ytgbdnghbamaecaa
