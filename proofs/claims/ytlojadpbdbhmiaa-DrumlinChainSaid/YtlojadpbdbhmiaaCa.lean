/- DrumlinChain, plain: processes, what they know, what is open, what is in the pipe. -/
import Derived.Test.YtlojadpbdbhmiaaZj
import Derived.Test.YtlojadpbdbhmiaaPr
import Derived.Test.YtlojadpbdbhmiaaFc
import Derived.Test.YtlojadpbdbhmiaaFv
import Derived.Test.YtlojadpbdbhmiaaPs
import Derived.Test.YtlojadpbdbhmiaaPy
namespace Go.Proofs.Ytlojadpbdbhmiaa
open Go.RowKit
open Pip
set_option linter.unusedSimpArgs false
set_option linter.unusedVariables false

/-- A process that has not ended: its pid, whether it knows the end to write, where its set lies. -/
structure CP where
  pid : Int
  kw : Bool
  gs : Nat
  gl : Nat
  sp : List Value
def idsC : Bool → List Int
  | true => [0, 1, -1, -1]
  | false => [0, -1, -1, -1]
def nW (L : List CP) : Nat := L.countP (·.kw)
def osC (n m : Nat) : List FO := [⟨2, 1, 0, 1, n⟩, if m = 0 then zeroF else ⟨3, 1, 0, 2, m⟩, zeroF, zeroF, zeroF, zeroF, zeroF, zeroF]
/-- The pipe of all. -/
structure PC (p : Pp) (m : Nat) (q : List Int) : Prop where
  ok : p.Ok
  there : p.there = true
  r : p.r = 1
  w : p.w = if m = 0 then 0 else 1
  q : Q p q
structure CI (ps : List PR) (last : Int) (L : List CP) : Prop where
  pt : PT ps last 8
  one : ∃ c ∈ L, c.pid = 1
  nd : L.Pairwise (fun a b => a.pid ≠ b.pid)
  lo : ∀ c ∈ L, 1 ≤ c.pid ∧ c.pid ≤ last
  has : ∀ p ∈ ps, p.state ≠ 3 → ∃ c ∈ L, c.pid = p.pid
section
variable {ps ps' : List PR} {last : Int} {L : List CP} {c : CP} {i : Nat}
theorem nW_push (L : List CP) (c : CP) : nW (L ++ [c]) = nW L + if c.kw = true then 1 else 0 := by
  unfold nW
  rw [List.countP_append]
  simp [List.countP_cons]
theorem nW_erase (h : L[i]? = some c) : nW (L.eraseIdx i) + (if c.kw = true then 1 else 0) = nW L := by
  unfold nW
  induction L generalizing i with
  | nil => simp at h
  | cons a r ih =>
    cases i with
    | zero => simp at h; subst h; simp [List.countP_cons]
    | succ i =>
      have := ih (i := i) (by simpa using h)
      simp [List.countP_cons]; omega
theorem nW_shut (h : L[i]? = some c) (hk : c.kw = true) : nW (L.set i { c with kw := false }) + 1 = nW L := by
  unfold nW
  induction L generalizing i with
  | nil => simp at h
  | cons a r ih =>
    cases i with
    | zero => simp at h; subst h; simp [List.countP_cons, hk]
    | succ i =>
      have := ih (i := i) (by simpa using h)
      simp [List.countP_cons]; omega
theorem nW_pos (h : L[i]? = some c) (hk : c.kw = true) : 1 ≤ nW L := by have := nW_shut h hk; omega
theorem nW_le : nW L ≤ L.length := List.countP_le_length
theorem CI.start (gs gl : Nat) (sp : List Value) : CI [initR] 1 [⟨1, true, gs, gl, sp⟩] := by
  refine ⟨PT.start 8 (by omega), ⟨_, List.mem_singleton_self _, rfl⟩, by simp, fun c h => ?_, fun p h hs => ?_⟩
  · rw [List.mem_singleton] at h; subst h; simp
  · rw [List.mem_singleton] at h; subst h; exact ⟨_, List.mem_singleton_self _, rfl⟩
theorem CI.inj (h : CI ps last L) {j : Nat} {c' : CP} (hi : L[i]? = some c) (hj : L[j]? = some c') (e : c.pid = c'.pid) : i = j := by
  obtain ⟨a1, b1⟩ := List.getElem?_eq_some_iff.1 hi
  obtain ⟨a2, b2⟩ := List.getElem?_eq_some_iff.1 hj
  rcases Nat.lt_trichotomy i j with hlt | he | hlt
  · have := List.pairwise_iff_getElem.1 h.nd i j a1 a2 hlt
    rw [b1, b2] at this
    exact absurd e this
  · exact he
  · have := List.pairwise_iff_getElem.1 h.nd j i a2 a1 hlt
    rw [b1, b2] at this
    exact absurd e.symm this
theorem CI.pick (h : CI ps last L) {k : Nat} {p : PR} (hk : ps[k]? = some p) : (liveP ps p.pid = 18) ∨ (liveP ps p.pid = 0 ∧ ∃ (i : Nat) (c : CP), L[i]? = some c ∧ c.pid = p.pid) := by
  have hl := live_mk h.pt.asc hk
  by_cases h3 : p.state = 3
  · rw [if_pos h3] at hl; exact .inl hl
  · rw [if_neg h3] at hl
    obtain ⟨c, hc, e⟩ := h.has p (List.mem_of_getElem? hk) h3
    obtain ⟨i, hi⟩ := List.getElem?_of_mem hc
    exact .inr ⟨hl, i, c, hi, e⟩
theorem CI.fork (h : CI ps last L) (pid : Int) (hl : liveP ps pid = 0) : (forkM ps 8 last pid = (ps, last, 0, 15)) ∨ ∃ ps', forkM ps 8 last pid = (ps', last + 1, last + 1, 0) ∧ ∀ c : CP, c.pid = last + 1 → CI ps' (last + 1) (L ++ [c]) := by
  have hp := h.pt.fork (most := 8) (pid := pid) rfl
  unfold forkM at hp ⊢
  rw [if_neg (by omega)] at hp ⊢
  by_cases hf : (ps.length : Int) = 8
  · rw [if_pos hf]; exact .inl rfl
  · rw [if_neg hf] at hp ⊢
    refine .inr ⟨_, rfl, fun c hc => ⟨hp, ?_, ?_, fun d hd => ?_, fun p hpm hs => ?_⟩⟩
    · obtain ⟨d, hd, h1⟩ := h.one
      exact ⟨d, List.mem_append_left _ hd, h1⟩
    · rw [List.pairwise_append]
      refine ⟨h.nd, by simp, fun a ha b hb => ?_⟩
      rw [List.mem_singleton] at hb
      rw [hb, hc]
      have := h.lo a ha
      omega
    · rw [List.mem_append, List.mem_singleton] at hd
      have hlast : 1 ≤ last := by obtain ⟨d, hd, h1⟩ := h.one; have := h.lo d hd; omega
      rcases hd with hd | rfl
      · have := h.lo d hd; omega
      · omega
    · rw [List.mem_append, List.mem_singleton] at hpm
      rcases hpm with hpm | rfl
      · obtain ⟨d, hd, e⟩ := h.has p hpm hs
        exact ⟨d, List.mem_append_left _ hd, e⟩
      · exact ⟨c, by simp, hc⟩
theorem CI.exit (h : CI ps last L) (hi : L[i]? = some c) (hl : liveP ps c.pid = 0) : (exitM ps c.pid 0 = (ps, 1)) ∨ ∃ ps', exitM ps c.pid 0 = (ps', 0) ∧ 2 ≤ L.length ∧ CI ps' last (L.eraseIdx i) := by
  by_cases h1 : c.pid = 1
  · left
    have ho : otherP ps c.pid = 1 := by unfold otherP; rw [if_neg (by omega), if_pos h1]
    unfold exitM
    rw [ho]
    rfl
  · right
    have ho : otherP ps c.pid = 0 := by unfold otherP; rw [if_neg (by omega), if_neg h1]
    have hpt := h.pt.exit c.pid 0
    have hex := exit_is h.pt.asc c.pid 0
    obtain ⟨k, p, hk, hp, hpid, -, hst, -, hgd⟩ := otherP_one ho
    have e2 : exitM ps c.pid 0 = (exL c.pid 0 ps, 0) := by
      rw [← hex]
      unfold exitR
      rw [if_neg (by omega), if_neg h1]
    rw [e2] at hpt ⊢
    obtain ⟨d, hd, hd1⟩ := h.one
    obtain ⟨j, hj⟩ := List.getElem?_of_mem hd
    have hij : i ≠ j := fun e => by rw [← e, hi] at hj; injection hj with hj; rw [hj] at h1; exact h1 hd1
    have hil := (List.getElem?_eq_some_iff.1 hi).1
    have hjl := (List.getElem?_eq_some_iff.1 hj).1
    have keep : ∀ j' d', L[j']? = some d' → j' ≠ i → d' ∈ L.eraseIdx i := fun j' d' hj' hne => by
      rw [List.mem_eraseIdx_iff_getElem?]
      exact ⟨j', hne, hj'⟩
    refine ⟨_, rfl, by omega, hpt, ⟨d, keep j d hj (fun e => hij e.symm), hd1⟩, h.nd.sublist (List.eraseIdx_sublist ..), fun d' hd' => h.lo d' (List.mem_of_mem_eraseIdx hd'), fun p' hp' hs' => ?_⟩
    obtain ⟨p0, hp0, e0, _⟩ := exL_mem.1 hp'
    have hpe := exq_pid c.pid 0 p0
    rw [e0] at hpe
    by_cases hpp : p0.pid = c.pid
    · exfalso
      rw [exq_self hpp] at e0
      have : p'.state = 3 := by rw [← e0, adopt_state]; rfl
      exact hs' this
    · rw [exq_other hpp] at e0
      have : p'.state = p0.state := by rw [← e0, adopt_state]
      obtain ⟨d', hd', e'⟩ := h.has p0 hp0 (by rw [← this]; exact hs')
      obtain ⟨j', hj'⟩ := List.getElem?_of_mem hd'
      refine ⟨d', keep j' d' hj' (fun e => ?_), by rw [e', hpe]⟩
      rw [e, hi] at hj'
      injection hj' with hj'
      rw [hj'] at hpp
      exact hpp e'.symm
theorem CI.shut (h : CI ps last L) (hi : L[i]? = some c) : CI ps last (L.set i { c with kw := false }) := by
  have hpid : (L.set i { c with kw := false }).map (·.pid) = L.map (·.pid) := by
    rw [List.map_set]
    exact set_same' (by rw [List.getElem?_map, hi]; rfl)
  have mem : ∀ x, x ∈ L.map (·.pid) → ∃ d ∈ L.set i { c with kw := false }, d.pid = x := fun x hx => by
    rw [← hpid] at hx
    obtain ⟨d, hd, e⟩ := List.mem_map.1 hx
    exact ⟨d, hd, e⟩
  refine ⟨h.pt, ?_, ?_, fun d hd => ?_, fun p hp hs => ?_⟩
  · obtain ⟨d, hd, h1⟩ := h.one
    exact mem 1 (by rw [← h1]; exact List.mem_map_of_mem hd)
  · have h1 : (L.map (·.pid)).Pairwise (· ≠ ·) := List.pairwise_map.2 h.nd
    rw [← hpid] at h1
    exact List.pairwise_map.1 h1
  · rcases List.mem_or_eq_of_mem_set hd with hd | rfl
    · exact h.lo d hd
    · exact h.lo c (List.mem_of_getElem? hi)
  · obtain ⟨d, hd, e⟩ := h.has p hp hs
    exact mem p.pid (by rw [← e]; exact List.mem_map_of_mem hd)
end
/-! The pipe. -/
section
variable {p : Pp} {m : Nat} {q : List Int}
theorem PC.start : PC newP 1 [] := ⟨newP_ok, rfl, rfl, rfl, ⟨rfl, fun j h => by exact absurd h (Nat.not_lt_zero j)⟩⟩
theorem PC.same {m' : Nat} (h : PC p m q) (h1 : m = 0 ↔ m' = 0) : PC p m' q := ⟨h.ok, h.there, h.r, by
  rw [h.w]
  by_cases e : m = 0
  · rw [if_pos e, if_pos (h1.1 e)]
  · rw [if_neg e, if_neg (fun e' => e (h1.2 e'))], h.q⟩
/-- The last end to write goes. -/
theorem PC.last (h : PC p 1 q) : addOk p 0 (-1) = true ∧ PC (addP p 0 (-1)) 0 q := by
  have hw : p.w = 1 := h.w
  have hr := h.r
  have hok : addOk p 0 (-1) = true := by unfold addOk; rw [hr, hw]; decide
  refine ⟨hok, ?_⟩
  have e : addP p 0 (-1) = { p with r := p.r + 0, w := p.w + -1 } := by unfold addP; rw [if_neg (by omega)]
  refine ⟨addP_ok h.ok hok, ?_, ?_, ?_, ?_⟩
  · rw [e]; exact h.there
  · rw [e]; show p.r + 0 = 1; omega
  · rw [e]; show p.w + -1 = 0; omega
  · rw [e]; exact ⟨h.q.n, h.q.get⟩
/-- A byte is written, or there is no room. -/
theorem PC.write (h : PC p m q) (b : Int) : (wrE p [b] = 15 ∧ wrN p [b] = 0) ∨ (wrE p [b] = 0 ∧ wrN p [b] = 1 ∧ PC (putAll p [b]) m (q ++ [b])) := by
  have hr := h.r
  have hn := h.ok.pn
  by_cases hf : p.pn = 64
  · left
    refine ⟨?_, ?_⟩
    · unfold wrE; rw [if_neg (by simp), if_neg (by omega), if_pos hf]
    · unfold wrN; rw [if_pos (.inr (.inr hf))]
  · right
    have e1 : wrE p [b] = 0 := by unfold wrE; rw [if_neg (by simp), if_neg (by omega), if_neg hf]
    have e2 : wrN p [b] = 1 := by
      unfold wrN
      rw [if_neg (by simp; omega)]
      simp; omega
    have hs := putAll_same [b] p
    refine ⟨e1, e2, putAll_ok [b] h.ok (by simp; omega), by rw [hs.1]; exact h.there, by rw [hs.2.1]; exact h.r, by rw [hs.2.2.1]; exact h.w, putAll_Q [b] h.ok h.q (by simp; omega)⟩
/-- A byte is read, or none. -/
theorem PC.read (h : PC p m q) : ((rdE p 1 = 15 ∨ rdE p 1 = 0) ∧ rdN p 1 = 0 ∧ takeN p 0 = p) ∨ ∃ b q', q = b :: q' ∧ rdE p 1 = 0 ∧ rdN p 1 = 1 ∧ headN p 1 = [b] ∧ PC (takeN p 1) m q' := by
  have hqn := h.q.n
  by_cases h0 : p.pn = 0
  · left
    by_cases hw : 0 < p.w
    · have e1 : rdE p 1 = 15 := by unfold rdE; rw [if_neg (by omega), if_pos ⟨by omega, h0, hw⟩]
      exact ⟨.inl e1, by unfold rdN; rw [if_neg (by omega)], rfl⟩
    · have e1 : rdE p 1 = 0 := by unfold rdE; rw [if_neg (by omega), if_neg (fun h => hw h.2.2)]
      refine ⟨.inr e1, ?_, rfl⟩
      unfold rdN
      rw [if_pos e1, h0]
      rfl
  · right
    have e1 : rdE p 1 = 0 := by unfold rdE; rw [if_neg (by omega), if_neg (fun h => h0 h.2.1)]
    have e2 : rdN p 1 = 1 := by
      unfold rdN
      rw [if_pos e1]
      show min 1 p.pn = 1
      omega
    obtain ⟨hQ, hH⟩ := takeN_Q h.ok h.q 1 (by omega)
    cases hq : q with
    | nil => rw [hq] at hqn; simp at hqn; omega
    | cons b q' =>
      rw [hq] at hQ hH
      have hs := takeN_same p 1
      exact ⟨b, q', rfl, e1, e2, hH, takeN_ok h.ok 1, by rw [hs.1]; exact h.there, by rw [hs.2.1]; exact h.r, by rw [hs.2.2]; exact h.w, hQ⟩
end
/-! The open files. -/
theorem osC_ref0 (n m : Nat) : (osC n m).set 0 { (⟨2, 1, 0, 1, n⟩ : FO) with refs := (n : Int) + 1 } = osC (n + 1) m := rfl
theorem osC_ref1 (n m : Nat) (hm : 1 ≤ m) : (osC n m).set 1 { (⟨3, 1, 0, 2, m⟩ : FO) with refs := (m : Int) + 1 } = osC n (m + 1) := by
  unfold osC
  rw [if_neg (show ¬ m + 1 = 0 by omega)]
  rfl
theorem osC_at0 (n m : Nat) : (osC n m)[0]? = some ⟨2, 1, 0, 1, n⟩ := rfl
theorem osC_at1 (n m : Nat) (hm : 1 ≤ m) : (osC n m)[1]? = some ⟨3, 1, 0, 2, m⟩ := by
  unfold osC
  rw [if_neg (show ¬ m = 0 by omega)]
  rfl
theorem osC_cl0 (n m : Nat) (hn : 2 ≤ n) : (osC n m).set 0 (clF ⟨2, 1, 0, 1, n⟩) = osC (n - 1) m := by
  unfold clF
  rw [if_neg (by show ¬ (n : Int) = 1; omega)]
  unfold osC
  have : (n : Int) - 1 = ((n - 1 : Nat) : Int) := by omega
  simp [this]
theorem osC_cl1 (n m : Nat) (hm : 1 ≤ m) : (osC n m).set 1 (clF ⟨3, 1, 0, 2, m⟩) = osC n (m - 1) := by
  unfold clF
  by_cases h1 : m = 1
  · subst h1; rfl
  · rw [if_neg (by show ¬ (m : Int) = 1; omega)]
    unfold osC
    rw [if_neg (show ¬ m - 1 = 0 by omega)]
    have : (m : Int) - 1 = ((m - 1 : Nat) : Int) := by omega
    simp [this]
theorem osC_count (n m : Nat) (hn : 1 ≤ n) : (osC n m).countP (fun o => decide (0 < o.refs)) = 1 + if m = 0 then 0 else 1 := by
  have h1 : decide ((0 : Int) < (n : Int)) = true := decide_eq_true (by omega)
  have h3 : decide ((0 : Int) < zeroF.refs) = false := rfl
  unfold osC
  by_cases h0 : m = 0
  · rw [if_pos h0, if_pos h0]
    simp only [List.countP_cons, h1, h3, List.countP_nil]
    rfl
  · have h2 : decide ((0 : Int) < (m : Int)) = true := decide_eq_true (by omega)
    rw [if_neg h0, if_neg h0]
    simp only [List.countP_cons, h1, h2, h3, List.countP_nil]
    rfl
end Go.Proofs.Ytlojadpbdbhmiaa
