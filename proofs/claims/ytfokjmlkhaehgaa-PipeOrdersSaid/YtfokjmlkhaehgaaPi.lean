/- PipeOrders: what holds from act to act. -/
import Derived.Test.YtfokjmlkhaehgaaAw
import Derived.Test.YtfokjmlkhaehgaaPr
import Derived.Test.YtfokjmlkhaehgaaEq
import Derived.Test.YtfokjmlkhaehgaaKa
namespace Go.Proofs.Ytfokjmlkhaehgaa
open Go.RowKit
set_option linter.unusedSimpArgs false
set_option linter.unusedVariables false

theorem add_mid (e : Addr) (j : Nat) : e.add (j + 1) = ⟨e.block, e.off + (j + 1), none⟩ := by simp [Addr.add]
theorem add_split (a : Addr) (i j : Nat) : a.add (i * 5 + (j + 1)) = ⟨(a.add (i * 5)).block, (a.add (i * 5)).off + (j + 1), none⟩ := by
  rw [← Go.Deep.add_add, add_mid]
/-- What holds from act to act. -/
structure OI (w wr : World) (base gp gl : Nat) (vi vo : Value) (i : Nat) (P : Pp) (q IN OUT : List Int) : Prop where
  pw : PW wr gp gl [P]
  th : P.there = true
  pr1 : P.r = 1
  pw1 : P.w = 1
  hq : Q P q
  io : IN = OUT ++ q
  oi : wr.ownsRow base 5 1 vi IN.length (IN.map U)
  oo : wr.ownsRow base 5 1 vo OUT.length (OUT.map U)
  ne : ∀ k, vi.ownBlock = some k → vo.ownBlock ≠ some k
  len : IN.length ≤ i * 200
  safe : Safe w wr
  bs : base ≤ wr.heap.size
  gpb : gp < base
  glb : gl < base
  glw : w.heap.size ≤ gl

section
variable {w wr : World} {base gp gl : Nat} {vi vo : Value} {i : Nat} {P : Pp} {q IN OUT : List Int}
theorem OI.lens (h : OI w wr base gp gl vi vo i P q IN OUT) : IN.length = OUT.length + P.pn := by rw [h.io, List.length_append, h.hq.n]
theorem OI.own (h : OI w wr base gp gl vi vo i P q IN OUT) {w4 : World} (h4 : But (· = gl) wr w4) : w4.ownsRow base 5 1 vi IN.length (IN.map U) ∧ w4.ownsRow base 5 1 vo OUT.length (OUT.map U) := by
  refine ⟨own_but_kept h.oi h4 (fun k hk e => ?_), own_but_kept h.oo h4 (fun k hk e => ?_)⟩
  · have := (h.oi.lt k hk).1; have := h.glb; have : k = gl := e; omega
  · have := (h.oo.lt k hk).1; have := h.glb; have : k = gl := e; omega
theorem OI.wrote (h : OI w wr base gp gl vi vo i P q IN OUT) {w4 w5 : World} {P' : Pp} {B : List Int} {v' : Value} (h4 : But (· = gl) wr w4) (hp : PW w4 gp gl [P']) (hP' : P' = putAll P B) (hfit : P.pn + B.length ≤ 64) (hBl : B.length ≤ 200)
    (ho : w5.ownsRow base 5 1 v' (IN.length + B.length) (IN.map U ++ B.map U)) (hg : w4.grownBy w5 vi.ownBlock) (hd : v'.ownBlock = vi.ownBlock ∨ v'.ownBlock = some w4.heap.size) :
    OI w w5 base gp gl v' vo (i + 1) P' (q ++ B) (IN ++ B) OUT := by
  have hgb := But.of_grown hg
  have hsz := h4.size
  have hsz5 := hgb.size
  obtain ⟨e1, e2, e3, e4⟩ := putAll_same B P
  have hno : ∀ k, some k = vi.ownBlock → base ≤ k := fun k hk => (h.oi.lt k hk.symm).1
  have hok := h.pw.ok P (by simp)
  refine ⟨hp.but hgb (fun e => ?_) (fun e => ?_), by rw [hP', e1]; exact h.th, by rw [hP', e2]; exact h.pr1, by rw [hP', e3]; exact h.pw1, by rw [hP']; exact putAll_Q B hok h.hq hfit, by rw [h.io, List.append_assoc], ?_, ?_, ?_, ?_, ?_, ?_, h.gpb, h.glb, h.glw⟩
  · have := hno _ e; have := h.gpb; omega
  · have := hno _ e; have := h.glb; omega
  · rw [List.length_append, List.map_append]; exact ho
  · exact own_but_kept (h.own h4).2 hgb (fun k hk e => h.ne k e.symm hk)
  · intro k hk hk2
    rcases hd with hd | hd
    · exact h.ne k (hd ▸ hk) hk2
    · have := (h.oo.lt k hk2).2
      rw [hd] at hk
      injection hk with hk
      omega
  · rw [List.length_append]; have := h.len; omega
  · have hw := h.glw
    have hgl := h.glb
    exact (h.safe.step h4 (fun k hk => .inr (by rw [show k = gl from hk]; exact hw))).step hgb (fun k hk => .inr (by have := hno k hk; omega))
  · have := h.bs; omega
theorem OI.readd (h : OI w wr base gp gl vi vo i P q IN OUT) {w4 w5 : World} {m : Nat} {v' : Value} (h4 : But (· = gl) wr w4) (hp : PW w4 gp gl [takeN P m]) (hm : m ≤ P.pn)
    (ho : w5.ownsRow base 5 1 v' (OUT.length + m) (OUT.map U ++ (headN P m).map U)) (hg : w4.grownBy w5 vo.ownBlock) (hd : v'.ownBlock = vo.ownBlock ∨ v'.ownBlock = some w4.heap.size) :
    OI w w5 base gp gl vi v' (i + 1) (takeN P m) (q.drop m) IN (OUT ++ headN P m) := by
  have hgb := But.of_grown hg
  have hsz := h4.size
  have hsz5 := hgb.size
  obtain ⟨e1, e2, e3⟩ := takeN_same P m
  have hno : ∀ k, some k = vo.ownBlock → base ≤ k := fun k hk => (h.oo.lt k hk.symm).1
  have hok := h.pw.ok P (by simp)
  obtain ⟨q1, q2⟩ := takeN_Q hok h.hq m hm
  refine ⟨hp.but hgb (fun e => ?_) (fun e => ?_), by rw [e1]; exact h.th, by rw [e2]; exact h.pr1, by rw [e3]; exact h.pw1, q1, by rw [h.io, q2, List.append_assoc, List.take_append_drop], ?_, ?_, ?_, ?_, ?_, ?_, h.gpb, h.glb, h.glw⟩
  · have := hno _ e; have := h.gpb; omega
  · have := hno _ e; have := h.glb; omega
  · exact own_but_kept (h.own h4).1 hgb (fun k hk e => h.ne k hk e.symm)
  · rw [List.length_append, List.map_append, headN_len]; exact ho
  · intro k hk hk2
    rcases hd with hd | hd
    · exact h.ne k hk (hd ▸ hk2)
    · have := (h.oi.lt k hk).2
      rw [hd] at hk2
      injection hk2 with hk2
      omega
  · have := h.len; omega
  · have hw := h.glw
    exact (h.safe.step h4 (fun k hk => .inr (by rw [show k = gl from hk]; exact hw))).step hgb (fun k hk => .inr (by have := hno k hk; have := h.glb; omega))
  · have := h.bs; omega
end
end Go.Proofs.Ytfokjmlkhaehgaa
