/- Pipes in plain words: a ring of 64 bytes, where it begins, how many; the queue that it holds. -/
import Derived.Test.YtlojadpbdbhmiaaRw
namespace Go.Proofs.Ytlojadpbdbhmiaa.Pip
open Go.RowKit
set_option linter.unusedSimpArgs false
set_option linter.unusedVariables false

abbrev U (x : Int) : Value := .int .u8 x
structure Pp where
  rb : List Int
  pat : Nat
  pn : Nat
  there : Bool
  r : Int
  w : Int
/-- Its 69 cells. -/
def encP (p : Pp) : List Value := p.rb.map U ++ [I p.pat, I p.pn, .bool p.there, I p.r, I p.w]
def zeroP : Pp := ⟨List.replicate 64 0, 0, 0, false, 0, 0⟩
structure Pp.Ok (p : Pp) : Prop where
  rb : p.rb.length = 64
  pat : p.pat < 64
  pn : p.pn ≤ 64
  r0 : 0 ≤ p.r
  r1 : p.r ≤ 1000
  w0 : 0 ≤ p.w
  w1 : p.w ≤ 1000
theorem zeroP_ok : zeroP.Ok := ⟨rfl, by decide, by decide, by decide, by decide, by decide, by decide⟩
/-- Its cells, of a ring of the right size. -/
theorem encP_len {p : Pp} (h : p.rb.length = 64) : (encP p).length = 69 := by simp [encP, h]
theorem encP_byte {p : Pp} (h : p.rb.length = 64) {i : Nat} (hi : i < 64) : (encP p)[i]? = some (U (p.rb.getD i 0)) := by
  unfold encP
  rw [List.getElem?_append_left (by simp [h, hi]), List.getElem?_map, List.getD_eq_getElem?_getD, List.getElem?_eq_getElem (by omega)]
  rfl
theorem encP_pat {p : Pp} (h : p.rb.length = 64) : (encP p)[64]? = some (I p.pat) := by
  unfold encP; rw [List.getElem?_append_right (by simp [h])]; simp [h]
theorem encP_pn {p : Pp} (h : p.rb.length = 64) : (encP p)[65]? = some (I p.pn) := by
  unfold encP; rw [List.getElem?_append_right (by simp [h])]; simp [h]
theorem encP_there {p : Pp} (h : p.rb.length = 64) : (encP p)[66]? = some (.bool p.there) := by
  unfold encP; rw [List.getElem?_append_right (by simp [h])]; simp [h]
theorem encP_r {p : Pp} (h : p.rb.length = 64) : (encP p)[67]? = some (I p.r) := by
  unfold encP; rw [List.getElem?_append_right (by simp [h])]; simp [h]
theorem encP_w {p : Pp} (h : p.rb.length = 64) : (encP p)[68]? = some (I p.w) := by
  unfold encP; rw [List.getElem?_append_right (by simp [h])]; simp [h]
theorem encP_set_byte {p : Pp} (h : p.rb.length = 64) {i : Nat} (hi : i < 64) (c : Int) : encP { p with rb := p.rb.set i c } = (encP p).set i (U c) := by
  unfold encP; simp only; rw [List.set_append_left _ _ (by simp [h, hi]), List.map_set]
theorem encP_set_pat {p : Pp} (h : p.rb.length = 64) (v : Nat) : encP { p with pat := v } = (encP p).set 64 (I v) := by
  unfold encP; simp only; rw [List.set_append_right _ _ (by simp [h])]; simp [h]
theorem encP_set_pn {p : Pp} (h : p.rb.length = 64) (v : Nat) : encP { p with pn := v } = (encP p).set 65 (I v) := by
  unfold encP; simp only; rw [List.set_append_right _ _ (by simp [h])]; simp [h]
theorem encP_set_r {p : Pp} (h : p.rb.length = 64) (v : Int) : encP { p with r := v } = (encP p).set 67 (I v) := by
  unfold encP; simp only; rw [List.set_append_right _ _ (by simp [h])]; simp [h]
theorem encP_set_w {p : Pp} (h : p.rb.length = 64) (v : Int) : encP { p with w := v } = (encP p).set 68 (I v) := by
  unfold encP; simp only; rw [List.set_append_right _ _ (by simp [h])]; simp [h]

/-- The queue that it holds. -/
structure Q (p : Pp) (q : List Int) : Prop where
  n : q.length = p.pn
  get : ∀ j, j < p.pn → p.rb[(p.pat + j) % 64]? = q[j]?
def putB (p : Pp) (c : Int) : Pp := { p with rb := p.rb.set ((p.pat + p.pn) % 64) c, pn := p.pn + 1 }
def headB (p : Pp) : Int := p.rb.getD p.pat 0
def takeB (p : Pp) : Pp := { p with pat := (p.pat + 1) % 64, pn := p.pn - 1 }
theorem putB_ok {p : Pp} (h : p.Ok) (hn : p.pn < 64) (c : Int) : (putB p c).Ok :=
  ⟨by simp [putB, h.rb], h.pat, by show p.pn + 1 ≤ 64; omega, h.r0, h.r1, h.w0, h.w1⟩
theorem takeB_ok {p : Pp} (h : p.Ok) : (takeB p).Ok :=
  ⟨h.rb, Nat.mod_lt _ (by omega), by have := h.pn; show p.pn - 1 ≤ 64; omega, h.r0, h.r1, h.w0, h.w1⟩
theorem putB_Q {p : Pp} {q : List Int} (h : p.Ok) (hq : Q p q) (hn : p.pn < 64) (c : Int) : Q (putB p c) (q ++ [c]) := by
  refine ⟨by simp [putB, hq.n], fun j hj => ?_⟩
  have hj : j < p.pn + 1 := hj
  show (p.rb.set ((p.pat + p.pn) % 64) c)[(p.pat + j) % 64]? = (q ++ [c])[j]?
  have hp := h.pat
  by_cases e : j = p.pn
  · subst e
    rw [List.getElem?_append_right (by rw [hq.n]; exact Nat.le_refl _), hq.n, Nat.sub_self, List.getElem?_set_self (by rw [h.rb]; omega)]
    rfl
  · rw [List.getElem?_append_left (by rw [hq.n]; omega), List.getElem?_set_ne (by omega)]
    exact hq.get j (by omega)
theorem takeB_Q {p : Pp} {c : Int} {q : List Int} (h : p.Ok) (hq : Q p (c :: q)) : headB p = c ∧ Q (takeB p) q := by
  have hn : q.length + 1 = p.pn := by simpa using hq.n
  have hp := h.pat
  have h0 := hq.get 0 (by omega)
  refine ⟨?_, ?_⟩
  · unfold headB
    rw [Nat.add_zero, Nat.mod_eq_of_lt hp] at h0
    rw [List.getD_eq_getElem?_getD, h0]
    rfl
  · refine ⟨by show q.length = p.pn - 1; omega, fun j hj => ?_⟩
    have hj : j < p.pn - 1 := hj
    have := hq.get (j + 1) (by omega)
    show p.rb[((p.pat + 1) % 64 + j) % 64]? = q[j]?
    rw [show ((p.pat + 1) % 64 + j) % 64 = (p.pat + (j + 1)) % 64 from by omega, this]
    rfl
/-- All of some bytes. -/
def putAll (p : Pp) (bs : List Int) : Pp := bs.foldl putB p
theorem putAll_pn (bs : List Int) : ∀ p : Pp, (putAll p bs).pn = p.pn + bs.length := by
  induction bs with
  | nil => intro p; rfl
  | cons c r ih => intro p; show (putAll (putB p c) r).pn = _; rw [ih]; simp [putB]; omega
theorem putAll_ok (bs : List Int) : ∀ {p : Pp}, p.Ok → p.pn + bs.length ≤ 64 → (putAll p bs).Ok := by
  induction bs with
  | nil => intro p h _; exact h
  | cons c r ih => intro p h hn; simp at hn; exact ih (putB_ok h (by omega) c) (by simp [putB]; omega)
theorem putAll_Q (bs : List Int) : ∀ {p : Pp} {q : List Int}, p.Ok → Q p q → p.pn + bs.length ≤ 64 → Q (putAll p bs) (q ++ bs) := by
  induction bs with
  | nil => intro p q h hq _; simpa [putAll] using hq
  | cons c r ih =>
    intro p q h hq hn
    simp at hn
    have := ih (putB_ok h (by omega) c) (putB_Q h hq (by omega) c) (by simp [putB]; omega)
    rw [List.append_assoc] at this
    exact this
theorem putAll_snoc (p : Pp) (bs : List Int) (c : Int) : putAll p (bs ++ [c]) = putB (putAll p bs) c := by simp [putAll, List.foldl_append]
theorem putAll_same (bs : List Int) : ∀ p : Pp, (putAll p bs).there = p.there ∧ (putAll p bs).r = p.r ∧ (putAll p bs).w = p.w ∧ (putAll p bs).pat = p.pat := by
  induction bs with
  | nil => intro p; exact ⟨rfl, rfl, rfl, rfl⟩
  | cons c r ih => intro p; exact ih (putB p c)
def takeN (p : Pp) : Nat → Pp
  | 0 => p
  | k + 1 => takeB (takeN p k)
def headN (p : Pp) : Nat → List Int
  | 0 => []
  | k + 1 => headN p k ++ [headB (takeN p k)]
theorem headN_len (p : Pp) (k : Nat) : (headN p k).length = k := by
  induction k with
  | zero => rfl
  | succ k ih => simp [headN, ih]
theorem takeN_ok {p : Pp} (h : p.Ok) (k : Nat) : (takeN p k).Ok := by
  induction k with
  | zero => exact h
  | succ k ih => exact takeB_ok ih
theorem takeN_pn (p : Pp) (k : Nat) : (takeN p k).pn = p.pn - k := by
  induction k with
  | zero => rfl
  | succ k ih => show (takeN p k).pn - 1 = _; rw [ih]; omega
theorem takeN_same (p : Pp) (k : Nat) : (takeN p k).there = p.there ∧ (takeN p k).r = p.r ∧ (takeN p k).w = p.w := by
  induction k with
  | zero => exact ⟨rfl, rfl, rfl⟩
  | succ k ih => exact ih
theorem takeN_Q {p : Pp} {q : List Int} (h : p.Ok) (hq : Q p q) (k : Nat) (hk : k ≤ p.pn) : Q (takeN p k) (q.drop k) ∧ headN p k = q.take k := by
  induction k with
  | zero => exact ⟨by simpa [takeN] using hq, by simp [headN]⟩
  | succ k ih =>
    obtain ⟨h1, h2⟩ := ih (by omega)
    have hlt : k < q.length := by rw [hq.n]; omega
    rw [List.drop_eq_getElem_cons hlt] at h1
    obtain ⟨h3, h4⟩ := takeB_Q (takeN_ok h k) h1
    refine ⟨h4, ?_⟩
    show headN p k ++ [headB (takeN p k)] = _
    rw [h2, h3, List.take_succ_eq_append_getElem hlt]

/-- The cells of all of them. -/
def encs (ps : List Pp) : Array Value := (ps.flatMap fun p => if p.rb.length = 64 then encP p else List.replicate 69 undef).toArray
theorem encs_f (p : Pp) : (if p.rb.length = 64 then encP p else List.replicate 69 undef).length = 69 := by
  split
  · rename_i h; exact encP_len h
  · simp
theorem encs_get {ps : List Pp} {k j : Nat} {p : Pp} {v : Value} (hk : ps[k]? = some p) (hp : p.rb.length = 64) (hv : (encP p)[j]? = some v) : (encs ps)[k * 69 + j]? = some v := by
  have hj : j < 69 := by rw [← encP_len hp]; exact (List.getElem?_eq_some_iff.1 hv).1
  have := fm_get encs_f ps k j p hk hj
  rw [if_pos hp] at this
  unfold encs
  rw [List.getElem?_toArray, this, hv]
theorem encs_set {ps : List Pp} {k j : Nat} {p p' : Pp} {v : Value} (hk : ps[k]? = some p) (hp : p.rb.length = 64) (hp' : p'.rb.length = 64) (hj : j < 69) (h : encP p' = (encP p).set j v) :
    (encs ps).setIfInBounds (k * 69 + j) v = encs (ps.set k p') := by
  have := fm_set encs_f ps k j p p' v hk hj (by rw [if_pos hp', if_pos hp]; exact h)
  unfold encs
  rw [List.setIfInBounds_toArray, this]
theorem encs_size (ps : List Pp) : (encs ps).size = ps.length * 69 := by unfold encs; rw [List.size_toArray]; exact fm_len encs_f ps
theorem encs_zero (m : Nat) : encs (List.replicate m zeroP) = ((List.replicate m (encP zeroP)).flatten).toArray := by
  unfold encs
  rw [List.flatMap_def, List.map_replicate]
  rfl
end Go.Proofs.Ytlojadpbdbhmiaa.Pip
