/- The reference's processes: the word, At, Live. -/
import Derived.Test.YtlojadpbdbhmiaaXi
import Derived.Deep.Slices
import Derived.Deep.Fields
namespace Go.Proofs.Ytlojadpbdbhmiaa
open Go.RowKit
set_option linter.unusedSimpArgs false
set_option linter.unusedVariables false

theorem slRP : SlT Try.prog 89 145 (.agg (encR zeroR).toArray) 6 48 := ⟨Try.underlying89, by kernel_rfl, rfl, by omega⟩
/-- Cells that read so, from an address on. -/
def RdR (w : World) (A : Option Addr) (cs : List Value) : Prop := 0 < cs.length → ∃ ad, A = some ad ∧ ∀ (j : Nat) (v : Value), cs[j]? = some v → w.cell? (ad.add j) = some v
theorem RdR.but {S : Nat → Prop} {w w' : World} {A : Option Addr} {cs : List Value} (h : RdR w A cs) (hb : But S w w') (hs : ∀ ad, A = some ad → ¬ S ad.block) : RdR w' A cs := fun hn => by
  obtain ⟨ad, e, hc⟩ := h hn
  exact ⟨ad, e, fun k x hx => hb.cell (hc k x hx) (by rw [block_add]; exact hs ad e)⟩
/-- A slice of processes that reads so; its block lies from base on. -/
def LP (w : World) (base : Nat) (v : Value) (ps : List PR) : Prop := ∃ A c, v = .slice A ps.length c ∧ ps.length ≤ c ∧ c ≤ 9223372036854775807 ∧ RdR w A (ps.flatMap encR) ∧ ∀ ad, A = some ad → base ≤ ad.block ∧ ad.block < w.heap.size ∧ ∃ cs, Blk w ad.block 145 cs
section
variable {S : Nat → Prop} {w w' : World} {base : Nat} {v : Value} {ps : List PR}
theorem LP.but (h : LP w base v ps) (hb : But S w w') (hs : ∀ k, v.ownBlock = some k → ¬ S k) : LP w' base v ps := by
  obtain ⟨A, c, rfl, h1, h2, h3, h4⟩ := h
  refine ⟨A, c, rfl, h1, h2, h3.but hb (fun ad e => hs _ (by rw [e]; rfl)), fun ad e => ?_⟩
  obtain ⟨b1, b2, cs, b3⟩ := h4 ad e
  have := hb.size
  exact ⟨b1, by omega, cs, b3.but hb (hs _ (by rw [e]; rfl))⟩
theorem LP.safe (h : LP w base v ps) (hb : Safe w w') : LP w' base v ps := h.but hb (fun _ _ => id)
theorem LP.ne (h : LP w base v ps) {k g : Nat} {t : TypeId} {cs : Array Value} (hk : v.ownBlock = some k) (hb : Blk w g t cs) (ht : 145 ≠ t) : k ≠ g := by
  obtain ⟨A, c, rfl, h1, h2, h3, h4⟩ := h
  rcases A with _ | ad
  · simp [Value.ownBlock] at hk
  · obtain ⟨_, _, cs', b3⟩ := h4 ad rfl
    have e : ad.block = k := by simpa [Value.ownBlock] using hk
    rw [← e]
    exact b3.ne hb ht
theorem LP.blk (h : LP w base v ps) {k : Nat} (hk : v.ownBlock = some k) : base ≤ k ∧ k < w.heap.size := by
  obtain ⟨A, c, rfl, h1, h2, h3, h4⟩ := h
  rcases A with _ | ad
  · simp [Value.ownBlock] at hk
  · obtain ⟨a, b, _⟩ := h4 ad rfl
    have e : ad.block = k := by simpa [Value.ownBlock] using hk
    omega
theorem LP.lower {base' : Nat} (h : LP w base v ps) (hb : base' ≤ base) : LP w base' v ps := by
  obtain ⟨A, c, e, h1, h2, h3, h4⟩ := h
  exact ⟨A, c, e, h1, h2, h3, fun ad e => by have := h4 ad e; exact ⟨Nat.le_trans hb this.1, this.2⟩⟩
theorem flatR_len (ps : List PR) : (ps.flatMap encR).length = ps.length * 6 := fm_len encR_len ps
theorem LP.of_own (h : w.ownsRow base 145 6 v ps.length (ps.flatMap encR)) : LP w base v ps := by
  rcases h.2 with ⟨rfl, h0⟩ | ⟨g, cap, cur, rfl, hb, hh, hn, hm, hs, ht⟩
  · have : ps = [] := List.eq_nil_of_length_eq_zero h0
    subst this
    exact ⟨none, 0, rfl, Nat.le_refl _, by omega, fun h => absurd h (by simp), fun ad e => by cases e⟩
  · refine ⟨_, cap, rfl, hn, by unfold maxLen at hm; omega, fun hpos => ⟨_, rfl, fun j v hv => ?_⟩, fun ad e => ?_⟩
    · have hB : Blk w g 145 cur := hh
      rw [add_plain, Nat.zero_add]
      apply hB.cell'
      have hj := (List.getElem?_eq_some_iff.1 hv).1
      rw [flatR_len] at hj
      rw [← ht, List.getElem?_take, if_pos hj] at hv
      simpa using hv
    · injection e with e
      rw [← e]
      exact ⟨hb, (Array.getElem?_eq_some_iff.1 hh).1, cur, hh⟩
theorem add_split6 (a : Addr) (i j : Nat) : a.add (i * 6 + (j + 1)) = ⟨(a.add (i * 6)).block, (a.add (i * 6)).off + (j + 1), none⟩ := by
  rw [← Go.Deep.add_add]
  simp [Addr.add]
/-- The cells of one. -/
structure At6 (w : World) (ad : Addr) (p : PR) : Prop where
  c0 : w.cell? ad = some (I p.pid)
  c1 : w.cell? ⟨ad.block, ad.off + 1, none⟩ = some (I p.parent)
  c2 : w.cell? ⟨ad.block, ad.off + 2, none⟩ = some (I p.state)
  c3 : w.cell? ⟨ad.block, ad.off + 3, none⟩ = some (I p.code)
  c4 : w.cell? ⟨ad.block, ad.off + 4, none⟩ = some (I p.until_)
  c5 : w.cell? ⟨ad.block, ad.off + 5, none⟩ = some (.bool p.killed)
theorem At6.safe {ad : Addr} {p : PR} (h : At6 w ad p) (hs : Safe w w') : At6 w' ad p :=
  ⟨hs.cell h.c0 id, hs.cell h.c1 id, hs.cell h.c2 id, hs.cell h.c3 id, hs.cell h.c4 id, hs.cell h.c5 id⟩
theorem RdR.at {A : Option Addr} (h : RdR w A (ps.flatMap encR)) {k : Nat} {p : PR} (hk : ps[k]? = some p) : ∃ ad, A = some ad ∧ At6 w (ad.add (k * 6)) p := by
  have hlt := (List.getElem?_eq_some_iff.1 hk).1
  obtain ⟨ad, e, hc⟩ := h (by rw [flatR_len]; omega)
  have hg := fun j hj => fm_get encR_len ps k j p hk hj
  refine ⟨ad, e, ?_, ?_, ?_, ?_, ?_, ?_⟩
  · exact hc (k * 6 + 0) _ (hg 0 (by omega))
  · rw [← add_split6]; exact hc _ _ (hg 1 (by omega))
  · rw [← add_split6]; exact hc _ _ (hg 2 (by omega))
  · rw [← add_split6]; exact hc _ _ (hg 3 (by omega))
  · rw [← add_split6]; exact hc _ _ (hg 4 (by omega))
  · rw [← add_split6]; exact hc _ _ (hg 5 (by omega))
end
/-- A table of the reference: its list, and three numbers. -/
abbrev aggT (v : Value) (most last now : Int) : Value := .agg #[v, I most, I last, I now]
set_option maxRecDepth 100000 in
set_option maxHeartbeats 1000000 in
theorem rat_any (base : Nat) (v : Value) (ps : List PR) (most last now pid : Int) (w : World) (h : LP w base v ps) (h16 : ps.length ≤ 16) :
    Calls Try.prog 100 #[aggT v most last now, .int .i64 pid] w fun e w' => e = .returned (I (ixP (oneP ps pid))) ∧ Safe w w' := by
  obtain ⟨A, c, rfl, hc, hcm, hrd, -⟩ := h
  have HR := Lib.hid hrd
  clear hrd
  go_enter Try.func100, Try.ntmps100
  go_wp2
  go_loop [5] (fun i => ∃ k : Nat, k ≤ ps.length ∧ i = .int .i64 k ∧ (∀ j (q : PR), j < k → ps[j]? = some q → (q.pid == pid) = false)) (fun i => ps.length - (intOf i).toNat)
  case atStart => exact ⟨0, by omega, rfl, fun j q hj => absurd hj (by omega)⟩
  case round =>
    obtain ⟨k, hk, rfl, hall⟩ := hrel
    have HA := Lib.hid hall
    clear hall
    by_cases hlt : k < ps.length
    · obtain ⟨p, hp⟩ : ∃ p, ps[k]? = some p := ⟨_, List.getElem?_eq_getElem hlt⟩
      obtain ⟨ad, rfl, hat⟩ := HR.out.at hp
      have c0 := hat.c0
      have hbl := cell_lt c0
      have HP := Lib.hid hp
      clear hp hat
      have hki : (k : Int) < ps.length := by omega
      cases hr : (p.pid == pid)
      · go_wp2
        go_round
        case rel =>
          refine ⟨k + 1, by omega, by go_num, fun j q hj hq => ?_⟩
          by_cases e : j = k
          · subst e
            have := hq.symm.trans HP.out
            injection this with this
            rw [this]; exact hr
          · exact HA.out j q (by omega) hq
        case measure => simp [intOf]; omega
      · go_wp2
        go_ret
        refine ⟨?_, (But.refl _ _).alloc _⟩
        unfold oneP
        rw [findP_hit HP.out hr HA.out]
        rfl
    · obtain rfl : k = ps.length := by omega
      go_wp2
      go_ret
      refine ⟨?_, (But.refl _ _).alloc _⟩
      unfold oneP
      rw [findP_miss HA.out]
      rfl
set_option maxRecDepth 100000 in
set_option maxHeartbeats 1000000 in
theorem rlive_any (base : Nat) (v : Value) (ps : List PR) (most last now pid : Int) (w : World) (h : LP w base v ps) (h16 : ps.length ≤ 16) :
    Calls Try.prog 98 #[aggT v most last now, .int .i64 pid] w fun e w' => e = .returned (I (liveP ps pid)) ∧ Safe w w' := by
  have hs0 : Safe w (w.alloc (.cells #[v, I most, I last, I now] 91)) := (But.refl _ w).alloc _
  have hA := rat_any base v ps most last now pid _ (h.safe hs0) h16
  have HA := Lib.hid hA
  have hbx : Blk (w.alloc (.cells #[v, I most, I last, I now] 91)) w.heap.size 91 #[v, I most, I last, I now] := Blk.new _ _ _
  have HBX := Lib.hid hbx
  have H := Lib.hid h
  obtain ⟨A, c, rfl, hc, hcm, hrd, -⟩ := h
  clear hbx
  cases hk : oneP ps pid with
  | none =>
    have e : liveP ps pid = 18 := by unfold liveP; rw [hk]
    rw [hk] at hA
    have HA := Lib.hid hA
    rw [e]
    clear hrd hk e hA
    go_enter Try.func98, Try.ntmps98
    go_wp2_with fail
    refine (HA.out).mono ?_
    rintro _ w1 ⟨rfl, hs1⟩
    rw [show ixP none = -1 from rfl]
    have HS1 := Lib.hid (((But.refl (fun _ => False) w).alloc _).trans hs1)
    clear hs1
    go_wp2
    go_ret
    exact ⟨rfl, HS1.out⟩
  | some k =>
    obtain ⟨p, hp, hpid, hlt⟩ := oneP_get hk
    have e : liveP ps pid = if p.state = 3 then 18 else 0 := by unfold liveP; rw [hk]; simp only; rw [List.getD_eq_getElem?_getD, hp]; rfl
    rw [hk] at hA
    have HA := Lib.hid hA
    rw [e]
    obtain ⟨ad, rfl, hat⟩ := hrd.at hp
    have hki : (k : Int) < ps.length := by omega
    have HAT := Lib.hid (hat.safe hs0)
    clear hrd hk e hA hp hpid hat
    by_cases h3 : p.state = 3
    · have hb : (p.state == 3) = true := by simpa using h3
      rw [if_pos h3]
      clear h3
      go_enter Try.func98, Try.ntmps98
      go_wp2_with fail
      refine (HA.out).mono ?_
      rintro _ w1 ⟨rfl, hs1⟩
      rw [show ixP (some k) = (k : Int) from rfl]
      have d0 := (HBX.out.but hs1 id).cell' (i := 0) rfl
      have d2 := (HAT.out.safe hs1).c2
      have HS1 := Lib.hid (((But.refl (fun _ => False) w).alloc _).trans hs1)
      clear hs1
      go_wp2
      go_ret
      exact ⟨rfl, HS1.out⟩
    · have hb : (p.state == 3) = false := by simpa using h3
      rw [if_neg h3]
      clear h3
      go_enter Try.func98, Try.ntmps98
      go_wp2_with fail
      refine (HA.out).mono ?_
      rintro _ w1 ⟨rfl, hs1⟩
      rw [show ixP (some k) = (k : Int) from rfl]
      have d0 := (HBX.out.but hs1 id).cell' (i := 0) rfl
      have d2 := (HAT.out.safe hs1).c2
      have HS1 := Lib.hid (((But.refl (fun _ => False) w).alloc _).trans hs1)
      clear hs1
      go_wp2
      go_ret
      exact ⟨rfl, HS1.out⟩
end Go.Proofs.Ytlojadpbdbhmiaa
