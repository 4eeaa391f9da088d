/- The reference's open files: slices of structs, each call's answer. -/
import Derived.Test.YtlojadpbdbhmiaaFc
import Derived.Test.YtlojadpbdbhmiaaSt
import Derived.Deep.DeepMust
import Derived.Deep.Slices
import Derived.Deep.Fields
namespace Go.Proofs.Ytlojadpbdbhmiaa
open Go.RowKit
set_option linter.unusedSimpArgs false
set_option linter.unusedVariables false

theorem slOpen : SlT Try.prog 41 55 (.agg (encF zeroF).toArray) 5 40 := ⟨Try.underlying41, by kernel_rfl, rfl, by omega⟩
/-- Cells that read so, from an address on. -/
def RdC (w : World) (A : Option Addr) (cs : List Value) : Prop := 0 < cs.length → ∃ ad, A = some ad ∧ ∀ (j : Nat) (v : Value), cs[j]? = some v → w.cell? (ad.add j) = some v
theorem RdC.but {S : Nat → Prop} {w w' : World} {A : Option Addr} {cs : List Value} (h : RdC w A cs) (hb : But S w w') (hs : ∀ ad, A = some ad → ¬ S ad.block) : RdC w' A cs := fun hn => by
  obtain ⟨ad, e, hc⟩ := h hn
  exact ⟨ad, e, fun k x hx => hb.cell (hc k x hx) (by rw [block_add]; exact hs ad e)⟩
/-- A slice of open files that reads so; its block lies from base on. -/
def LO (w : World) (base : Nat) (v : Value) (os : List FO) : Prop := ∃ A c, v = .slice A os.length c ∧ os.length ≤ c ∧ c ≤ 9223372036854775807 ∧ RdC w A (os.flatMap encF) ∧ ∀ ad, A = some ad → base ≤ ad.block ∧ ad.block < w.heap.size ∧ ∃ cs, Blk w ad.block 55 cs
theorem LO.but {S : Nat → Prop} {w w' : World} {base : Nat} {v : Value} {os : List FO} (h : LO w base v os) (hb : But S w w') (hs : ∀ k, v.ownBlock = some k → ¬ S k) : LO w' base v os := by
  obtain ⟨A, c, rfl, h1, h2, h3, h4⟩ := h
  refine ⟨A, c, rfl, h1, h2, h3.but hb (fun ad e => hs _ (by rw [e]; rfl)), fun ad e => ?_⟩
  obtain ⟨b1, b2, cs, b3⟩ := h4 ad e
  have := hb.size
  exact ⟨b1, by omega, cs, b3.but hb (hs _ (by rw [e]; rfl))⟩
theorem LO.ne {w : World} {base : Nat} {v : Value} {os : List FO} (h : LO w base v os) {k g : Nat} {t : TypeId} {cs : Array Value} (hk : v.ownBlock = some k) (hb : Blk w g t cs) (ht : 55 ≠ t) : k ≠ g := by
  obtain ⟨A, c, rfl, h1, h2, h3, h4⟩ := h
  rcases A with _ | ad
  · simp [Value.ownBlock] at hk
  · obtain ⟨_, _, cs', b3⟩ := h4 ad rfl
    have e : ad.block = k := by simpa [Value.ownBlock] using hk
    rw [← e]
    exact b3.ne hb ht
theorem LO.safe {w w' : World} {base : Nat} {v : Value} {os : List FO} (h : LO w base v os) (hb : Safe w w') : LO w' base v os := h.but hb (fun _ _ => id)
theorem LO.lower {w : World} {base base' : Nat} {v : Value} {os : List FO} (h : LO w base v os) (hb : base' ≤ base) : LO w base' v os := by
  obtain ⟨A, c, e, h1, h2, h3, h4⟩ := h
  exact ⟨A, c, e, h1, h2, h3, fun ad e => by have := h4 ad e; exact ⟨Nat.le_trans hb this.1, this.2⟩⟩
theorem flatF_len (os : List FO) : (os.flatMap encF).length = os.length * 5 := fm_len encF_len os
theorem LO.of_own {w : World} {base : Nat} {v : Value} {os : List FO} (h : w.ownsRow base 55 5 v os.length (os.flatMap encF)) : LO w base v os := by
  rcases h.2 with ⟨rfl, h0⟩ | ⟨g, cap, cur, rfl, hb, hh, hn, hm, hs, ht⟩
  · have : os = [] := List.eq_nil_of_length_eq_zero h0
    subst this
    exact ⟨none, 0, rfl, Nat.le_refl _, by omega, fun h => absurd h (by simp), fun ad e => by cases e⟩
  · refine ⟨_, cap, rfl, hn, by unfold maxLen at hm; omega, fun hpos => ⟨_, rfl, fun j v hv => ?_⟩, fun ad e => ?_⟩
    · have hB : Blk w g 55 cur := hh
      rw [add_plain, Nat.zero_add]
      apply hB.cell'
      have hj := (List.getElem?_eq_some_iff.1 hv).1
      rw [flatF_len] at hj
      rw [← ht, List.getElem?_take, if_pos hj] at hv
      simpa using hv
    · injection e with e
      rw [← e]
      exact ⟨hb, (Array.getElem?_eq_some_iff.1 hh).1, cur, hh⟩
theorem add_split5 (a : Addr) (i j : Nat) : a.add (i * 5 + (j + 1)) = ⟨(a.add (i * 5)).block, (a.add (i * 5)).off + (j + 1), none⟩ := by
  rw [← Go.Deep.add_add]
  simp [Addr.add]
theorem LO.at {w : World} {A : Option Addr} {os : List FO} (h : RdC w A (os.flatMap encF)) {k : Nat} {o : FO} (hk : os[k]? = some o) : ∃ ad, A = some ad ∧ w.cell? (ad.add (k * 5)) = some (I o.kind) ∧ w.cell? ⟨(ad.add (k * 5)).block, (ad.add (k * 5)).off + 1, none⟩ = some (I o.num) ∧
    w.cell? ⟨(ad.add (k * 5)).block, (ad.add (k * 5)).off + 2, none⟩ = some (I o.pos) ∧ w.cell? ⟨(ad.add (k * 5)).block, (ad.add (k * 5)).off + 3, none⟩ = some (I o.flags) ∧ w.cell? ⟨(ad.add (k * 5)).block, (ad.add (k * 5)).off + 4, none⟩ = some (I o.refs) := by
  have hlt := (List.getElem?_eq_some_iff.1 hk).1
  obtain ⟨ad, e, hc⟩ := h (by rw [flatF_len]; omega)
  have hg := fun j hj => fm_get encF_len os k j o hk hj
  refine ⟨ad, e, ?_, ?_, ?_, ?_, ?_⟩
  · exact hc (k * 5 + 0) _ (hg 0 (by omega))
  · rw [← add_split5]; exact hc _ _ (hg 1 (by omega))
  · rw [← add_split5]; exact hc _ _ (hg 2 (by omega))
  · rw [← add_split5]; exact hc _ _ (hg 3 (by omega))
  · rw [← add_split5]; exact hc _ _ (hg 4 (by omega))
def ORet (w w' : World) (base : Nat) (e : Ending) (f : Value → Value) (os : List FO) : Prop := ∃ v, e = .returned (f v) ∧ LO w' base v os ∧ Safe w w'
theorem pushO_ready {w1 : World} {base : Nat} {v1 : Value} {os : List FO} {k : Nat} (ho : w1.ownsRow base 55 5 v1 (0 + os.length) ([] ++ os.flatMap encF)) (hk : k < os.length) (o : FO) :
    ∃ g c1, v1 = .slice (some ⟨g, 0, none⟩) os.length c1 ∧ base ≤ g ∧ g < w1.heap.size ∧ w1.there g (k * 5) (encF o).toArray.size ∧ Hid ((w1.setCells g (k * 5) (encF o).toArray.toList).ownsRow base 55 5 (.slice (some ⟨g, 0, none⟩) os.length c1) os.length ((os.set k o).flatMap encF)) := by
  rw [Nat.zero_add, List.nil_append] at ho
  rcases ho.2 with ⟨_, h0⟩ | ⟨g, cap, cur, rfl, hb, hh, hn, hm, hs, ht⟩
  · omega
  · have hB : Blk w1 g 55 cur := hh
    have h5 : k * 5 + 5 ≤ os.length * 5 := by omega
    have h5c : os.length * 5 ≤ cap * 5 := by omega
    refine ⟨g, cap, rfl, hb, hB.lt, hB.there (by show k * 5 + 5 ≤ cur.size; omega), ?_⟩
    refine ⟨by rw [flatF_len, List.length_set], .inr ⟨g, cap, setAt cur (k * 5) (encF o).toArray.toList, rfl, hb, hB.setAll _ _, hn, hm, by rw [setAt_size]; exact hs, ?_⟩⟩
    rw [setAt_list _ _ _ (by show k * 5 + 5 ≤ cur.size; omega), ← fm_put encF_len os k o hk, ← ht]
    apply List.ext_getElem?
    intro j
    rw [List.getElem?_take]
    by_cases hj : j < os.length * 5
    · rw [if_pos hj]
      show (cur.toList.take (k * 5) ++ encF o ++ cur.toList.drop (k * 5 + 5))[j]? = ((cur.toList.take (os.length * 5)).take (k * 5) ++ encF o ++ (cur.toList.take (os.length * 5)).drop (k * 5 + 5))[j]?
      rw [List.take_take, Nat.min_eq_left (by omega)]
      have hl1 : (cur.toList.take (k * 5) ++ encF o).length = k * 5 + 5 := by simp [encF_len]; omega
      by_cases hj2 : j < k * 5 + 5
      · have hL := fun D : List Value => List.getElem?_append_left (l₁ := cur.toList.take (k * 5) ++ encF o) (l₂ := D) (i := j) (by omega)
        rw [hL, hL]
      · have hL := fun D : List Value => List.getElem?_append_right (l₁ := cur.toList.take (k * 5) ++ encF o) (l₂ := D) (i := j) (by omega)
        rw [hL, hL, hl1, List.getElem?_drop, List.getElem?_drop, List.getElem?_take, if_pos (by omega)]
    · rw [if_neg hj]
      symm
      apply List.getElem?_eq_none
      simp [encF_len]
      omega
theorem box5 {W w1 : World} {S : Nat → Prop} {t : TypeId} {g : Nat} {o : FO} (hb : Blk W g t (encF o).toArray) (hg : But S W w1) (hn : ¬ S g) :
    w1.cell? ⟨g, 0, none⟩ = some (I o.kind) ∧ w1.cell? ⟨g, 1, none⟩ = some (I o.num) ∧ w1.cell? ⟨g, 2, none⟩ = some (I o.pos) ∧ w1.cell? ⟨g, 3, none⟩ = some (I o.flags) ∧ w1.cell? ⟨g, 4, none⟩ = some (I o.refs) :=
  have h := hb.but hg hn
  ⟨h.cell' rfl, h.cell' rfl, h.cell' rfl, h.cell' rfl, h.cell' rfl⟩
set_option maxRecDepth 100000 in
set_option maxHeartbeats 1000000 in
theorem rputf_any (base : Nat) (v : Value) (os : List FO) (k : Nat) (o : FO) (w : World) (h : LO w base v os) (hk : k < os.length) (h64 : os.length ≤ 64) :
    Calls Try.prog 64 #[v, .int .i64 k, aggF o] w fun e w' => ORet w w' w.heap.size e (fun v => v) (os.set k o) := by
  obtain ⟨A, c, rfl, hc, hcm, hrd, -⟩ := h
  have h1 : Safe w ((w.alloc (.cells (encF o).toArray 55)).alloc (.cells #[] 55)) := ((But.refl _ w).alloc _).alloc _
  have hcells : 0 < os.length → ∃ ad, A = some ad ∧ ∀ j u, (os.flatMap encF)[j]? = some u → ((w.alloc (.cells (encF o).toArray 55)).alloc (.cells #[] 55)).cell? (ad.add j) = some u := fun hn => (hrd.but h1 (fun _ _ => id)) (by rw [flatF_len]; omega)
  have ho0 : ((w.alloc (.cells (encF o).toArray 55)).alloc (.cells #[] 55)).ownsRow w.heap.size 55 5 (.slice (some ⟨w.heap.size + 1, 0, none⟩) 0 0) 0 [] := by
    have := World.ownsRow_lit (base := w.heap.size) (e := 55) (size := 5) (w.alloc (.cells (encF o).toArray 55)) #[] 0 (by show _ ≤ (w.heap.push _).size; rw [Array.size_push]; omega) (by simp [maxLen]) rfl
    simpa using this
  have hml : (os.flatMap encF).length = os.length * 5 := flatF_len os
  have hone : ∀ u ∈ os.flatMap encF, u.oneCell' = true := by
    intro u hu
    rw [List.mem_flatMap] at hu
    obtain ⟨x, _, hx⟩ := hu
    exact encF_one x u hx
  have h63 : 0 + os.length ≤ maxLen := by simp [maxLen]; omega
  have hby : (0 + os.length) * 40 ≤ 140737488355328 := by omega
  have hba : w.heap.size ≤ ((w.alloc (.cells (encF o).toArray 55)).alloc (.cells #[] 55)).heap.size := h1.size
  have hki : (k : Int) < os.length := by omega
  have HC := Lib.hid hcells
  have HO := Lib.hid ho0
  have HM := Lib.hid hml
  have HN := Lib.hid hone
  have H1 := Lib.hid h1
  have HBX : Hid (Blk ((w.alloc (.cells (encF o).toArray 55)).alloc (.cells #[] 55)) w.heap.size 55 (encF o).toArray) := Lib.hid ((Blk.new _ _ _).alloc _)
  have box_ne : ¬ (some w.heap.size = (Value.slice (some ⟨w.heap.size + 1, 0, none⟩) 0 0).ownBlock) := by simp [Value.ownBlock]
  have BN := Lib.hid box_ne
  clear box_ne
  have HSZ : Hid ((Try.prog.info? 55).map (·.size) = some (encF o).toArray.size) := Lib.hid (by kernel_rfl)
  have HOC : Hid ((encF o).toArray.all (·.oneCell') = true) := Lib.hid (all_oneCell_toArray (encF_one o))
  clear hcells ho0 hml hone hrd h1
  go_enter Try.func64, Try.ntmps64
  go_wp2_with (first
    | (at_builtin; go_must (refine wpList_pushAll slOpen rfl (.tmp 8) (.tmp 9) rfl w.heap.size (.slice (some ⟨w.heap.size + 1, 0, none⟩) 0 0) 0 [] rfl HO.out A os.length c (os.flatMap encF) rfl HM.out HC.out HN.out h63 hby hba ?_); intro v1 w1 ho hg hd; have hs1 := safe_own H1.out HO.out hg (Nat.le_refl _); have HS1 := Lib.hid hs1; obtain ⟨g, c1, rfl, hge, hgl, HT, HS⟩ := pushO_ready ho hk o; have HTT := Lib.hid HT; obtain ⟨q0, q1, q2, q3, q4⟩ := box5 HBX.out (But.of_grown hg) BN.out; clear ho hg hd hs1 HT)
    | (refine wpList_store_mid rfl 55 (.tmp 14) (.tmp 13) rfl g (k * 5) (encF o).toArray rfl rfl HTT.out HSZ.out HOC.out ?_))
  go_ret
  exact ⟨_, rfl, LO.of_own (by rw [List.length_set]; exact HS.out), HS1.out.setCells _ _ (.inr hge)⟩
end Go.Proofs.Ytlojadpbdbhmiaa
