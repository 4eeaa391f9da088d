/- PipeMany: what holds from act to act. -/
import Derived.Test.YtfokjmlkhaehgaaAw
import Derived.Test.YtfokjmlkhaehgaaPr
import Derived.Test.YtfokjmlkhaehgaaEqq
import Derived.Test.YtfokjmlkhaehgaaKa
import Derived.Test.YtfokjmlkhaehgaaSu
namespace Go.Proofs.Ytfokjmlkhaehgaa
open Go.RowKit
set_option linter.unusedSimpArgs false
set_option linter.unusedVariables false

def upd {α : Type} (f : Nat → α) (k : Nat) (x : α) : Nat → α := fun j => if j = k then x else f j
theorem upd_same {α : Type} (f : Nat → α) (k : Nat) (x : α) : upd f k x k = x := if_pos rfl
theorem upd_other {α : Type} (f : Nat → α) {k j : Nat} (x : α) (h : j ≠ k) : upd f k x j = f j := if_neg h
structure MI (w wr : World) (base gp gl gi go : Nat) (v : Nat → Value) (i : Nat) (PS : Nat → Pp) (q R : Nat → List Int) : Prop where
  pw : PW wr gp gl [PS 0, PS 1, PS 2]
  each : ∀ j, j < 3 → (PS j).there = true ∧ (PS j).r = 1 ∧ (PS j).w = 1 ∧ Q (PS j) (q j) ∧ R j = R (j + 3) ++ q j
  bi : Blk wr gi 58 #[v 0, v 1, v 2]
  bo : Blk wr go 58 #[v 3, v 4, v 5]
  io : gi ≠ go
  own : ∀ j, j < 6 → wr.ownsRow base 5 1 (v j) (R j).length ((R j).map U)
  ne : ∀ a b, a < 6 → b < 6 → a ≠ b → ∀ k, (v a).ownBlock = some k → (v b).ownBlock ≠ some k
  len : ∀ j, j < 3 → (R j).length ≤ i * 100
  safe : Safe w wr
  bs : base ≤ wr.heap.size
  gpb : gp < base
  glb : gl < base
  gib : gi < base
  gob : go < base
  glw : w.heap.size ≤ gl
  giw : w.heap.size ≤ gi
  gow : w.heap.size ≤ go
section
variable {w wr : World} {base gp gl gi go : Nat} {v : Nat → Value} {i : Nat} {PS : Nat → Pp} {q R : Nat → List Int}
theorem MI.drew (h : MI w wr base gp gl gi go v i PS q R) : MI w wr.drew base gp gl gi go v i PS q R :=
  ⟨h.pw.drew, h.each, h.bi.drew, h.bo.drew, h.io, h.own, h.ne, h.len, h.safe.drew, h.bs, h.gpb, h.glb, h.gib, h.gob, h.glw, h.giw, h.gow⟩
theorem MI.drewN (h : MI w wr base gp gl gi go v i PS q R) (N : Nat) : MI w (wr.drewN N) base gp gl gi go v i PS q R :=
  ⟨h.pw.drewN N, h.each, h.bi.drewN N, h.bo.drewN N, h.io, h.own, h.ne, h.len, h.safe.drewN N, h.bs, h.gpb, h.glb, h.gib, h.gob, h.glw, h.giw, h.gow⟩
theorem MI.ownk (h : MI w wr base gp gl gi go v i PS q R) {w4 : World} (h4 : But (· = gl) wr w4) (j : Nat) (hj : j < 6) : w4.ownsRow base 5 1 (v j) (R j).length ((R j).map U) :=
  own_but_kept (h.own j hj) h4 (fun k hk e => by
    have := ((h.own j hj).lt k hk).1; have := h.glb; have : k = gl := e; omega)
theorem MI.outs (h : MI w wr base gp gl gi go v i PS q R) (j : Nat) (hj : j < 3) : (R j).length = (R (j + 3)).length + (PS j).pn := by
  obtain ⟨_, _, _, h4, h5⟩ := h.each j hj
  rw [h5, List.length_append, h4.n]
theorem MI.get (h : MI w wr base gp gl gi go v i PS q R) (k : Nat) (hk : k < 3) : [PS 0, PS 1, PS 2][k]? = some (PS k) := by
  rcases k with _ | _ | _ | k
  · rfl
  · rfl
  · rfl
  · omega
theorem MI.step (h : MI w wr base gp gl gi go v i PS q R) {w4 w5 : World} {k J g : Nat} {P' : Pp} {q' L : List Int} {v' : Value} (hk : k < 3) (hJ : (J = k ∧ g = gi) ∨ (J = k + 3 ∧ g = go)) (h4 : But (· = gl) wr w4)
    (hp : PW w4 gp gl ([PS 0, PS 1, PS 2].set k P')) (hP' : P'.there = true ∧ P'.r = 1 ∧ P'.w = 1 ∧ Q P' q' ∧ (upd R J L) k = (upd R J L) (k + 3) ++ q')
    (ho : w5.ownsRow base 5 1 v' L.length (L.map U)) (hg : w4.grownBy w5 (v J).ownBlock) (hd : v'.ownBlock = (v J).ownBlock ∨ v'.ownBlock = some w4.heap.size) (hlen : J = k → L.length ≤ (i + 1) * 100) :
    MI w (w5.setCell ⟨g, k, none⟩ v') base gp gl gi go (upd v J v') (i + 1) (upd PS k P') (upd q k q') (upd R J L) := by
  have hgb := But.of_grown hg
  have hsz := h4.size
  have hsz5 := hgb.size
  have hJ6 : J < 6 := by omega
  have hno : ∀ k, some k = (v J).ownBlock → base ≤ k := fun k hk => ((h.own J hJ6).lt k hk.symm).1
  have hgl : gl ≠ gi := h.pw.hl.ne h.bi (by decide)
  have hgl2 : gl ≠ go := h.pw.hl.ne h.bo (by decide)
  have hgp : gp ≠ gi := h.pw.hp.ne h.bi (by decide)
  have hgp2 : gp ≠ go := h.pw.hp.ne h.bo (by decide)
  have hgpb := h.gpb
  have hglb := h.glb
  have hgib := h.gib
  have hgob := h.gob
  have hgb' : g < base ∧ w.heap.size ≤ g ∧ g ≠ gl ∧ g ≠ gp := by
    have := h.giw
    have := h.gow
    rcases hJ with ⟨_, rfl⟩ | ⟨_, rfl⟩
    · exact ⟨hgib, h.giw, fun e => hgl e.symm, fun e => hgp e.symm⟩
    · exact ⟨hgob, h.gow, fun e => hgl2 e.symm, fun e => hgp2 e.symm⟩
  have hset : But (· = g) w5 (w5.setCell ⟨g, k, none⟩ v') := (But.refl (· = g) w5).setCell (p := ⟨g, k, none⟩) (.inl rfl) v'
  have hkl : [PS 0, PS 1, PS 2].set k P' = [upd PS k P' 0, upd PS k P' 1, upd PS k P' 2] := by
    rcases k with _ | _ | _ | k
    · rfl
    · rfl
    · rfl
    · omega
  rw [hkl] at hp
  have hbi5 : Blk w5 gi 58 #[v 0, v 1, v 2] := (h.bi.but h4 (fun e => hgl e.symm)).but hgb (fun e => by have := hno _ e; omega)
  have hbo5 : Blk w5 go 58 #[v 3, v 4, v 5] := (h.bo.but h4 (fun e => hgl2 e.symm)).but hgb (fun e => by have := hno _ e; omega)
  have hown : ∀ j, j < 6 → j ≠ J → w5.ownsRow base 5 1 (v j) (R j).length ((R j).map U) := fun j hj hne =>
    own_but_kept (h.ownk h4 j hj) hgb (fun k hk e => h.ne j J hj hJ6 hne k hk e.symm)
  refine ⟨(hp.but hgb (fun e => by have := hno _ e; omega) (fun e => by have := hno _ e; omega)).but hset (fun e => hgb'.2.2.2 e.symm) (fun e => hgb'.2.2.1 e.symm), ?_, ?_, ?_, h.io, ?_, ?_, ?_, ?_, ?_, hgpb, hglb, hgib, hgob, h.glw, h.giw, h.gow⟩
  · intro j hj
    by_cases e : j = k
    · subst e
      rw [upd_same, upd_same]
      exact hP'
    · rw [upd_other _ _ e, upd_other _ _ e, upd_other _ _ (by omega), upd_other _ _ (by omega)]
      exact h.each j hj
  · rcases hJ with ⟨rfl, rfl⟩ | ⟨rfl, rfl⟩
    · have := hbi5.set J v'
      rcases J with _ | _ | _ | J
      · exact this
      · exact this
      · exact this
      · omega
    · rw [upd_other _ _ (by omega), upd_other _ _ (by omega), upd_other _ _ (by omega)]
      exact hbi5.far h.io _
  · rcases hJ with ⟨rfl, rfl⟩ | ⟨rfl, rfl⟩
    · rw [upd_other _ _ (by omega), upd_other _ _ (by omega), upd_other _ _ (by omega)]
      exact hbo5.far (fun e => h.io e.symm) _
    · have := hbo5.set k v'
      rcases k with _ | _ | _ | k
      · exact this
      · exact this
      · exact this
      · omega
  · intro j hj
    by_cases e : j = J
    · subst e
      rw [upd_same, upd_same]
      exact own_but_kept ho hset (fun m hm e => by have := (ho.lt m hm).1; have : m = g := e; omega)
    · rw [upd_other _ _ e, upd_other _ _ e]
      exact own_but_kept (hown j hj e) hset (fun m hm e => by have := ((hown j hj ‹_›).lt m hm).1; have : m = g := e; omega)
  · intro a b ha hb hab m hm
    by_cases e : a = J
    · subst e
      rw [upd_same] at hm
      rw [upd_other _ _ (fun e => hab e.symm)]
      rcases hd with hd | hd
      · exact h.ne a b ha hb hab m (hd ▸ hm)
      · intro hm2
        have := ((h.own b hb).lt m hm2).2
        rw [hd] at hm
        injection hm with hm
        omega
    · rw [upd_other _ _ e] at hm
      by_cases e2 : b = J
      · subst e2
        rw [upd_same]
        rcases hd with hd | hd
        · rw [hd]; exact h.ne a b ha hb hab m hm
        · intro hm2
          have := ((h.own a ha).lt m hm).2
          rw [hd] at hm2
          injection hm2 with hm2
          omega
      · rw [upd_other _ _ e2]
        exact h.ne a b ha hb hab m hm
  · intro j hj
    by_cases e : j = J
    · subst e
      rw [upd_same]
      exact hlen (by omega)
    · rw [upd_other _ _ e]
      have := h.len j hj
      omega
  · exact ((h.safe.step h4 (fun k hk => .inr (by rw [show k = gl from hk]; exact h.glw))).step hgb (fun k hk => .inr (by have := hno k hk; have := h.glw; omega))).step hset (fun m hm => .inr (by rw [show m = g from hm]; exact hgb'.2.1))
  · have := h.bs
    have := hset.size
    omega
end
end Go.Proofs.Ytfokjmlkhaehgaa
