/- DrumlinPaths: what the loop over the pieces keeps. Plain, and a word on rows. Four entries are themselves. DrumlinPaths, walked. -/
import Derived.Test.YtodlapkmcnmmhaaDoorTg
import Derived.Test.YtodlapkmcnmmhaaDoorTk
import Derived.Test.YtodlapkmcnmmhaaDoorTh
import Derived.Lib.Hide
import Derived.Test.YtodlapkmcnmmhaaDoorDf
import Derived.Test.YtodlapkmcnmmhaaDoorDe
import Derived.Test.YtodlapkmcnmmhaaDoorMq
import Derived.Deep.RegionHeld3
import Derived.Deep.Cut
import Derived.Deep.CutRange
import Derived.Deep.QuietTactic
import Derived.BigQuiet
import Derived.Deep.DeepMust
import Derived.WalkKit
import Derived.WalkSpells
import Derived.IntWalk
/- DrumlinPaths: what the loop over the pieces keeps. Plain, and a word on rows. -/
namespace Go.Proofs.YtodlapkmcnmmhaaDoor
open Go.RowKit
set_option linter.unusedSimpArgs false
set_option linter.unusedVariables false

theorem slIntsD : SlT Tryd.prog 42 3 (I 0) 1 8 := ⟨Tryd.underlying42, by kernel_rfl, rfl, by omega⟩
theorem own_headD {w : World} {base n size : Nat} {e : TypeId} {A : Option Addr} {c : Nat} {xs : List Value} (h : w.ownsRow base e size (.slice A n c) n xs) (hn : 0 < n) : ∃ g, A = some ⟨g, 0, none⟩ := by
  rcases h.2 with ⟨_, h⟩ | ⟨g, cap, cur, hv, _⟩
  · omega
  · injection hv with h1 h2 h3; exact ⟨g, h1⟩

/-- The bytes of the first i pieces. -/
def psum (R : List T3) (i : Nat) : Int := ((R.take i).map (fun p => p.2.2 - p.2.1)).sum
theorem psum_zero (R : List T3) : psum R 0 = 0 := by simp [psum]
theorem psum_succ {R : List T3} {i : Nat} {p : T3} (h : R[i]? = some p) : psum R (i + 1) = psum R i + (p.2.2 - p.2.1) := by
  obtain ⟨hi, rfl⟩ := List.getElem?_eq_some_iff.1 h
  unfold psum
  rw [List.take_succ_eq_append_getElem hi, List.map_append, List.sum_append]
  simp only [List.map_cons, List.map_nil, List.sum_cons, List.sum_nil]
  omega
theorem psum_low {R : List T3} (h : ∀ p ∈ R, 0 ≤ p.2.1 ∧ p.2.1 < p.2.2 ∧ p.2.2 ≤ 128) : ∀ i, i ≤ R.length → 0 ≤ psum R i ∧ psum R i ≤ 128 * (i : Int)
  | 0, _ => by rw [psum_zero]; omega
  | i + 1, hi => by
    have ih := psum_low h i (by omega)
    rw [psum_succ (List.getElem?_eq_getElem (show i < R.length by omega))]
    have := h R[i] (List.getElem_mem _)
    omega
theorem psum_all {a k : Nat} {R : List T3} (h : Pc a k R) : psum R R.length = k := by
  have := h.sum
  unfold psum
  rw [List.take_length]
  exact this
theorem conL_succ (a i : Nat) : conL a (i + 1) = conL a i ++ [((a + i : Nat) : Int)] := by simp [conL, List.range_succ]
theorem conL_zero (a : Nat) : conL a 0 = [] := rfl
theorem conL_at {a m i : Nat} (h : i < m) : (conL a m)[i]? = some ((a + i : Nat) : Int) := by
  unfold conL
  rw [List.getElem?_map, List.getElem?_range h]
  rfl
/-- What the sizes and the costs of a cut are. -/
structure Fin (a k m : Nat) : Prop where
  low : (m : Int) + 1 ≤ costL (conL (a / 128) m)
  high : costL (conL (a / 128) m) ≤ (m : Int) + 3 + (m : Int) / 32 + 1
  len : m ≤ 1064
  ne : 0 < k → 0 < m
  blk : 0 < k → blocksF ((a : Int) + (k : Int)) = ((a / 128 + (m - 1) : Nat) : Int) + 1
theorem Pc.fin {a k : Nat} {R : List T3} (h : Pc a k R) (ha : a + k ≤ 136192) (hk : k = 0 → R = []) : Fin a k R.length := by
  by_cases h0 : k = 0
  · have hR := hk h0
    subst hR
    have : a / 128 + 0 ≤ 1064 := by omega
    exact ⟨cost_low this, cost_high this, by simp, fun hh => by omega, fun hh => by omega⟩
  · obtain ⟨r1, r2⟩ := h.room (by omega) ha
    have hn : 0 < R.length := List.length_pos_iff.2 (h.ne (by omega))
    refine ⟨cost_low r1, cost_high r1, by omega, fun _ => hn, fun _ => ?_⟩
    unfold blocksF
    rw [if_neg (by omega)]
    omega
end Go.Proofs.YtodlapkmcnmmhaaDoor
/- Four entries are themselves. -/
namespace Go.Proofs.YtodlapkmcnmmhaaDoor
open Go.RowKit
set_option linter.unusedSimpArgs false
set_option linter.unusedVariables false

set_option maxRecDepth 100000 in
theorem pt0 (a b c d : Value) (x y z u : Value) (w : World) : (part 30 #[a, x, b, y, c, z, d, u] (0 * 2)).run Tryd.prog w = .ok (.agg #[a, x]) w := by kernel_rfl
set_option maxRecDepth 100000 in
theorem pt1 (a b c d : Value) (x y z u : Value) (w : World) : (part 30 #[a, x, b, y, c, z, d, u] (1 * 2)).run Tryd.prog w = .ok (.agg #[b, y]) w := by kernel_rfl
set_option maxRecDepth 100000 in
theorem pt2 (a b c d : Value) (x y z u : Value) (w : World) : (part 30 #[a, x, b, y, c, z, d, u] (2 * 2)).run Tryd.prog w = .ok (.agg #[c, z]) w := by kernel_rfl
set_option maxRecDepth 100000 in
theorem pt3 (a b c d : Value) (x y z u : Value) (w : World) : (part 30 #[a, x, b, y, c, z, d, u] (3 * 2)).run Tryd.prog w = .ok (.agg #[d, u]) w := by kernel_rfl
set_option maxRecDepth 100000 in
theorem pf0 (a x : Value) (w : World) : (part 3 #[a, x] 0).run Tryd.prog w = .ok a w := by kernel_rfl
set_option maxRecDepth 100000 in
theorem pf1 (a x : Value) (w : World) : (part 9 #[a, x] 1).run Tryd.prog w = .ok x w := by kernel_rfl
theorem eq_ent (n : Int) (x : Bs) (w : World) : (Op.equalIn 9999 30 (.agg #[I n, Sv x]) (.agg #[I n, Sv x])).run Tryd.prog w = .ok true w := by
  have hs := Tryd.underlying30
  rw [run_equalIn_struct (P := Tryd.prog) w 9998 30 #[I n, Sv x] #[I n, Sv x] (by rw [Program.fieldsOf, hs]) (by kernel_rfl)]
  have p1 := fun W => run_equalIn_int (P := Tryd.prog) W 9997 3 .i64 .i64 n n Tryd.underlying3
  have p2 := fun W => run_equalIn_string (P := Tryd.prog) W 9997 9 ⟨x.toArray⟩ ⟨x.toArray⟩ Tryd.underlying9
  rw [show 9997 + 1 = 9998 from rfl] at p1 p2
  generalize 9998 = d at p1 p2 ⊢
  simp [Program.fieldsOf, hs, Op.eqFields, pf0, pf1, p1, p2]
theorem infoEnt : (Tryd.prog.info? 30).map (·.size) = some 2 := by kernel_rfl
theorem eq_ents (E : List En) (hE : E.length = 4) (w : World) : (Op.equalIn 10000 31 (.agg (encE E).toArray) (.agg (encE E).toArray)).run Tryd.prog w = .ok true w := by
  obtain ⟨i, hi⟩ : ∃ i, Tryd.prog.info? 30 = some i := by
    have := infoEnt
    cases hq : Tryd.prog.info? 30 with
    | none => rw [hq] at this; cases this
    | some i => exact ⟨i, rfl⟩
  rw [run_equalIn_array w 9999 _ _ Tryd.underlying31 hi, show Tryd.prog.cellsOf 30 = 2 from by kernel_rfl]
  have e := fun n x W => eq_ent n x W
  match E, hE with
  | [e0, e1, e2, e3], _ =>
    show (Op.eqItems 9999 30 2 #[I e0.1, Sv e0.2, I e1.1, Sv e1.2, I e2.1, Sv e2.2, I e3.1, Sv e3.2] #[I e0.1, Sv e0.2, I e1.1, Sv e1.2, I e2.1, Sv e2.2, I e3.1, Sv e3.2] [0, 1, 2, 3]).run Tryd.prog w = _
    generalize 9999 = d at e ⊢
    simp only [Op.eqItems, Sem.run_bind, pt0, pt1, pt2, pt3, e, Result.andThen_ok, Bool.not_true, Bool.false_eq_true, if_false, if_true]
    rfl
theorem enc_put (E : List En) (h : E.length = 4) (j : Nat) (hj : j < 4) (n : Nat) (x : Bs) : ((encE E).toArray.setIfInBounds (j * 2) (I n)).setIfInBounds (j * 2 + 1) (Sv x) = (encE (E.set j (n, x))).toArray := by
  match E, h with
  | [e0, e1, e2, e3], _ =>
    have h4 : j = 0 ∨ j = 1 ∨ j = 2 ∨ j = 3 := by omega
    rcases h4 with rfl | rfl | rfl | rfl <;> rfl
theorem ok_put {E : List En} (h : ∀ e ∈ E, OkE e) {e : En} (he : OkE e) (j : Nat) : ∀ x ∈ E.set j e, OkE x := fun x hx => by
  rcases List.mem_or_eq_of_mem_set hx with hx | rfl
  · exact h x hx
  · exact he
end Go.Proofs.YtodlapkmcnmmhaaDoor
/- DrumlinPaths, walked. -/
namespace Go.Proofs.YtodlapkmcnmmhaaDoor
open Go.RowKit
set_option linter.unusedSimpArgs false
set_option linter.unusedVariables false

theorem wpList_load_want {Pr : Program} {ops : Array Oper} {rest : List Oper} {op : Oper} {a : Act} {w : World} {Q : Exit → Act → World → Prop} (hw : Region.wanted op (yielded ops a.tmps) = true) (ty : TypeId) (x : Operand) (ho : op.op = .load ty x)
    (b o : Nat) (hx : a.eval x = .pointer (some ⟨b, o, none⟩)) (cs : List Value) (d : TypeDesc) (hc : w.rangeAt b o cs)
    (hu : Pr.underlying ty = some d) (hd : d.isRow = true) (hi : (Pr.info? ty).map (·.size) = some cs.length)
    (h : wpList Pr ops Q rest (a.put op.dst (.agg cs.toArray)) w) : wpList Pr ops Q (op :: rest) a w :=
  wpList_value hw (v := .agg cs.toArray) (w' := w) (by
    unfold execOp
    simp only [ho, hx, Instr.loadAt, Instr.sureAddr, Sem.run_bind, Sem.run_pure, Result.andThen_ok, run_loadVar_mid w b o ty cs d hc hu hd hi]) h

set_option maxRecDepth 100000 in
set_option maxHeartbeats 8000000 in
theorem drumlinPaths_any (l : Bs) (at' n : Int) (w : World) (hm : ∃ m, w.cell? ⟨0, 0, none⟩ = some (.int .i64 m)) (h0 : -9223372036854775808 ≤ at') (h1 : at' ≤ 9223372036854775807) (h2 : -9223372036854775808 ≤ n) (h3 : n ≤ 9223372036854775807) : Calls Tryd.prog 3 #[Sv l, I at', I n] w fun e w' => e = .returned (.bool true) ∧ Safe w w' := by
  have HM := Lib.hid (fun (w' : World) (hs : Safe w w') => (show ∃ m, w'.cell? ⟨0, 0, none⟩ = some (.int .i64 m) from hm.elim fun m h => ⟨m, hs.cell h id⟩))
  clear hm
  go_enter Tryd.func3, Tryd.ntmps3
  go_upto_if 25 with fail
  go_cut [0] from 26 to 27 (fun v wx => w = wx ∧ v = Sv (l.take 300))
  case first =>
    rcases Nat.lt_or_ge 300 l.length with h | h
    · have hi : (300 : Int) < l.length := by omega
      go_wp2_with fail
      go_meet
      exact ⟨rfl, by
        have he : (⟨l.toArray⟩ : ByteArray).extract 0 300 = ⟨(l.take 300).toArray⟩ := by
          rw [piece_ext]; rfl
        rw [he]⟩
    · have hi : ¬ (300 : Int) < l.length := by omega
      go_wp2_with fail
      go_meet
      exact ⟨rfl, by rw [List.take_of_length_le h]⟩
  case rest =>
    obtain ⟨rfl, rfl⟩ := hcut
    obtain ⟨s, hs⟩ : ∃ s, s = l.take 300 := ⟨_, rfl⟩
    rw [← hs]
    have hsl : s.length ≤ 300 := by rw [hs]; simp; omega
    clear hs
    have hC := Lib.hid (fun W (hr : Rd I W (some ⟨w.heap.size, 0, none⟩) [0]) => cost_any (some ⟨w.heap.size, 0, none⟩) 1 [0] W hr (by simp))
    have hR := Rd.of_blk (α := Int) (enc := I) (xs := [0]) (Blk.new w 3 #[.int .i64 0]) rfl
    have hS := (But.refl (fun _ => False) w).alloc (.cells #[.int .i64 0] 3)
    have hc2 : costL [0] = 2 := by decide
    go_wp2_with fail
    refine (hC.out _ hR).mono ?_
    rintro _ w1 ⟨rfl, hs1⟩
    rw [hc2]
    have S1 := Lib.hid (hS.trans hs1)
    clear hs1 hS hR hC hc2
    rcases hpq : parseM s with ⟨⟨a, d, P⟩, er⟩
    have hpc := parse_cases s
    rw [hpq] at hpc
    have HPA := Lib.hid (parse_ok hpq w1 (by omega) (HM.out _ S1.out))
    have HPC := Lib.hid hpc
    clear hpc hpq
    go_wp2_with fail
    refine (HPA.out).mono ?_
    rintro _ w2 ⟨A, c, rfl, hP2, hs2⟩
    have S2 := Lib.hid (S1.out.trans hs2)
    have P2 := Lib.hid hP2
    clear hs2 hP2 HPA S1
    go_upto_if 37 with fail
    go_cut [8] from 38 to 78 (fun _ wx => Safe w wx)
    case first =>
      rcases HPC.out with ⟨hn, o⟩ | ⟨hn, -⟩
      rotate_left
      · have hnb : (er == 0) = false := by simpa using hn
        have hs := S2.out.alloc (.cells #[.bool a, .bool d, .slice A P.length c] 25)
        go_wp2_with fail
        go_meet
        exact hs
      subst hn
      have o : OkP ⟨a, d, P⟩ := o
      have hpl : P.length ≤ 32 := o.len
      have hZ := fun W => zero_ents W
      have hE0 : ∃ E : List En, E = List.replicate 4 ((0, []) : En) ∧ E.length = 4 ∧ ∀ e ∈ E, OkE e := ⟨_, rfl, rfl, fun e he => by rw [List.eq_of_mem_replicate he]; exact .inl ⟨rfl, rfl⟩⟩
      obtain ⟨E0, hE0, hl0, hk0⟩ := hE0
      rw [← hE0] at hZ
      have B2 : Blk (w2.alloc (.cells #[.bool a, .bool d, .slice A P.length c] 25)) w2.heap.size 25 #[.bool a, .bool d, .slice A P.length c] := Blk.new _ _ _
      obtain ⟨b0, b1, b2⟩ := cells3 (B2.alloc (.cells (encE E0).toArray 31))
      clear hE0
      go_wp2_with fail
      go_loopw [41] (fun x wr => ∃ (k : Nat) (E : List En), k ≤ P.length ∧ x = .int .i64 k ∧ Safe w2 wr ∧ E.length = 4 ∧ (∀ e ∈ E, OkE e) ∧ Blk wr (w2.heap.size + 1) 31 (encE E).toArray) (fun x _ => P.length - (intOf x).toNat)
      case atStart => exact ⟨0, E0, by omega, rfl, ((But.refl _ w2).alloc _).alloc _, hl0, hk0, Blk.new' _ _ (by simp)⟩
      case round =>
        obtain ⟨k, E, hk, rfl, hS, hE, hok, hB⟩ := hrel
        by_cases hlt : k < P.length
        · have hlt2 : (k : Int) < P.length := by omega
          obtain ⟨ad, rfl, hc⟩ := (P2.out.rd.safe hS).at hlt
          have hg : GoodPart P[k] := o.good _ (List.getElem_mem hlt)
          have HG := Lib.hid (good_any P[k] wr)
          obtain ⟨v0, hv0⟩ : ∃ v, (encE E).toArray[k % 4 * 2]? = some v := ⟨_, Array.getElem?_eq_getElem (by rw [List.size_toArray, encE_len hE]; omega)⟩
          obtain ⟨v1, hv1⟩ : ∃ v, (encE E).toArray[k % 4 * 2 + 1]? = some v := ⟨_, Array.getElem?_eq_getElem (by rw [List.size_toArray, encE_len hE]; omega)⟩
          have d0 := hB.cell' hv0
          have d1 := hB.cell' hv1
          have f0 := hB.frozen (k % 4 * 2)
          have f1 := hB.frozen (k % 4 * 2 + 1)
          have hB5 := (hB.set (k % 4 * 2) (I (1 + k : Nat))).set (k % 4 * 2 + 1) (Sv P[k])
          rw [enc_put E hE _ (by omega)] at hB5
          have hS5 : Safe w2 ((wr.setCell ⟨w2.heap.size + 1, k % 4 * 2, none⟩ (I (1 + k : Nat))).setCell ⟨w2.heap.size + 1, k % 4 * 2 + 1, none⟩ (Sv P[k])) := (hS.setCell (p := ⟨w2.heap.size + 1, k % 4 * 2, none⟩) (.inr (by show w2.heap.size ≤ w2.heap.size + 1; omega)) _).setCell (p := ⟨w2.heap.size + 1, k % 4 * 2 + 1, none⟩) (.inr (by show w2.heap.size ≤ w2.heap.size + 1; omega)) _
          have hoe : OkE ((1 + k, P[k]) : En) := .inr ⟨by show 1 ≤ 1 + k; omega, by show 1 + k ≤ 200; omega, good_ok hg, hg.len⟩
          have hok5 := ok_put hok hoe (k % 4)
          have hE5 : (E.set (k % 4) (1 + k, P[k])).length = 4 := by rw [List.length_set, hE]
          rw [show ((1 + k : Nat) : Int) = 1 + (k : Int) from by omega] at hB5 hS5
          have HB5 := Lib.hid hB5
          have HS5 := Lib.hid hS5
          have HOK5 := Lib.hid hok5
          have HE5 := Lib.hid hE5
          have hgz := good_ok hg
          clear hZ b0 b1 b2
          go_wp2_with fail
          refine (HG.out).mono ?_
          rintro _ w3 ⟨rfl, rfl⟩
          rw [hgz]
          go_wp2_with fail
          go_roundw
          case rel => exact ⟨k + 1, _, by omega, by go_num, HS5.out, HE5.out, HOK5.out, HB5.out⟩
          case measure => simp [intOf]; omega
        · obtain rfl : k = P.length := by omega
          have hzs := fun W => zero_sect W
          have hl : (encL E).length = 128 := by rw [encL_len hok, hE]
          have HW := Lib.hid (fun W => write_any E hE hok W)
          have HRD := Lib.hid (fun W => dread_any E hE hok W)
          have HAL : Hid ((Tryd.prog.info? 31).map (·.size) = some (encE E).length) := Lib.hid (by rw [sizeEnts, encE_len hE])
          have hr9 : wr.rangeAt (w2.heap.size + 1) 0 (encE E) := by simpa using blk_range hB
          have HR9 := Lib.hid hr9
          have HB := Lib.hid hB
          have HS := Lib.hid hS
          clear hr9 hB hS hok hZ b0 b1 b2
          go_wp2_with (refine wpList_load_mid rfl 31 (.tmp 9) rfl (w2.heap.size + 1) 0 rfl _ _ HR9.out Tryd.underlying31 rfl HAL.out ?_)
          refine (HW.out wr).mono ?_
          rintro _ w4 ⟨rfl, hs4⟩
          have hSz : (sectA (encL E)).size = 128 := by rw [sectA_size, hl]
          have hB4 := HB.out.but hs4 id
          have hS4 := HS.out.trans hs4
          have hZ9 : Blk (w4.alloc (.cells (sectA (padL [])) 34)) w4.heap.size 34 (sectA (padL [])) := Blk.new _ _ _
          have ht9 : (w4.alloc (.cells (sectA (padL [])) 34)).there w4.heap.size 0 (sectA (encL E)).size := hZ9.there (by rw [hSz, sectA_size, padL_len (by simp)]; omega)
          have hb9 := blk_sect (bs := encL E) hZ9 (by rw [hl, padL_len (by simp)])
          have hs9 : Safe w4 ((w4.alloc (.cells (sectA (padL [])) 34)).setCells w4.heap.size 0 (sectA (encL E)).toList) := ((But.refl (fun _ => False) w4).alloc _).setCells _ _ (.inr (Nat.le_refl _))
          have hB9 := hB4.but hs9 id
          have hS9 := hS4.trans hs9
          have hl9 : ((w4.alloc (.cells (sectA (padL [])) 34)).setCells w4.heap.size 0 (sectA (encL E)).toList).rangeAt w4.heap.size 0 ((encL E).map U) := encS_range (rest := []) (by rw [← sectA_enc]; exact hb9)
          have HI : Hid ((Tryd.prog.info? 34).map (·.size) = some ((encL E).map U).length) := Lib.hid (by rw [sizeSect, List.length_map, hl])
          have HI2 : Hid ((Tryd.prog.info? 34).map (·.size) = some (sectA (encL E)).size) := Lib.hid (by rw [sizeSect, hSz])
          have HO2 : Hid ((sectA (encL E)).all (·.oneCell') = true) := Lib.hid (all_oneCell_toArray (sect_one _))
          have HSE : Hid (((encL E).map U).toArray = sectA (encL E)) := Lib.hid rfl
          generalize hZe : sectA (padL []) = ZS at *
          generalize hSe : sectA (encL E) = S at *
          have HT := Lib.hid ht9
          have HL9 := Lib.hid hl9
          have HB9 := Lib.hid hB9
          have HS9 := Lib.hid hS9
          clear hZ9 ht9 hb9 hs9 hB4 hB9 hS9 hl9 hS4 hs4 hSz hZe hSe hl HB HS HR9 HW
          go_wp2_with (first | refine wpList_store_mid rfl 34 (.tmp 12) (.tmp 60) rfl w4.heap.size 0 S rfl rfl HT.out HI2.out HO2.out ?_ | fail)
          generalize (w4.alloc (.cells ZS 34)).setCells w4.heap.size 0 S.toList = w9 at *
          refine wp_load_mid 34 (.tmp 12) rfl w4.heap.size 0 rfl _ _ HL9.out Tryd.underlying34 rfl HI.out ?_
          clear hzs
          have hzs := fun W => zero_ents W
          go_wp2_with fail
          rw [HSE.out]
          refine (HRD.out w9).mono ?_
          rintro _ w5 ⟨rfl, hs5⟩
          have hS5 := HS9.out.trans hs5
          have hB5 := HB9.out.but hs5 id
          have hZ5 : Blk (w5.alloc (.cells (encE (List.replicate 4 ((0, []) : En))).toArray 31)) w5.heap.size 31 (encE (List.replicate 4 ((0, []) : En))).toArray := Blk.new _ _ _
          have hl8 : (encE E).toArray.size = (encE (List.replicate 4 ((0, []) : En))).toArray.size := by rw [List.size_toArray, List.size_toArray, encE_len hE]; rfl
          have HE1 : Hid ((encE E).toArray.all (·.oneCell') = true) := Lib.hid (enc_one E)
          have HE2 : Hid ((Tryd.prog.info? 31).map (·.size) = some (encE E).toArray.size) := Lib.hid (by rw [List.size_toArray]; exact HAL.out)
          have HEQ := Lib.hid (fun W => eq_ents E hE W)
          generalize (encE (List.replicate 4 ((0, []) : En))).toArray = Z4 at *
          have ht5 : (w5.alloc (.cells Z4 31)).there w5.heap.size 0 (encE E).toArray.size := hZ5.there (by omega)
          have hb6 := blk_all (vs := (encE E).toArray.toList) hZ5 (by rw [← hl8]; simp)
          have hs6 : Safe w5 ((w5.alloc (.cells Z4 31)).setCells w5.heap.size 0 (encE E).toArray.toList) := ((But.refl (fun _ => False) w5).alloc _).setCells _ _ (.inr (Nat.le_refl _))
          have hr6 : ((w5.alloc (.cells Z4 31)).setCells w5.heap.size 0 (encE E).toArray.toList).rangeAt w5.heap.size 0 (encE E) := by simpa using blk_range hb6
          have hr7 : ((w5.alloc (.cells Z4 31)).setCells w5.heap.size 0 (encE E).toArray.toList).rangeAt (w2.heap.size + 1) 0 (encE E) := by simpa using blk_range (hB5.but hs6 id)
          have HT5 := Lib.hid ht5
          have HR6 := Lib.hid hr6
          have HR7 := Lib.hid hr7
          have HS6 := Lib.hid ((S2.out.trans hS5).trans hs6)
          clear hs5 hS5 hB5 hZ5 hl8 ht5 hb6 hs6 hr6 hr7 HS9 HB9 HL9 HT HRD
          go_wp2_with (first | (refine wpList_store_mid rfl 31 (.tmp 14) (.tmp 65) rfl w5.heap.size 0 (encE E).toArray rfl rfl HT5.out HE2.out HE1.out ?_; generalize (w5.alloc (.cells Z4 31)).setCells w5.heap.size 0 (encE E).toArray.toList = w6 at *; have heq := HEQ.out w6) | refine wpList_load_want rfl 31 (.tmp 14) rfl w5.heap.size 0 rfl _ _ HR6.out Tryd.underlying31 rfl HAL.out ?_ | refine wpList_load_want rfl 31 (.tmp 9) rfl (w2.heap.size + 1) 0 rfl _ _ HR7.out Tryd.underlying31 rfl HAL.out ?_ | fail)
          go_meet
          exact HS6.out
    case rest => as_aux_lemma =>
      clear HPC P2
      have hS0 : Safe w wc := hcut
      obtain ⟨k, hk, hk1⟩ : ∃ k : Nat, k ≤ 20000 ∧ (if (if (20000 : Int) < n then (20000 : Int) else n) > 0 then (if (20000 : Int) < n then (20000 : Int) else n) else 0) = (k : Int) := by
        refine ⟨(if (if (20000 : Int) < n then (20000 : Int) else n) > 0 then (if (20000 : Int) < n then (20000 : Int) else n) else 0).toNat, ?_, ?_⟩ <;> (split <;> split <;> omega)
      have hmn : ∀ w, (Builtin.min_ #[3, 3] 3 #[.int .i64 n, .int .i64 20000]).run Tryd.prog w = .ok (.int .i64 (if (20000 : Int) < n then 20000 else n)) w := fun w => by rw [run_min_int2]
      have hmx : ∀ w, (Builtin.max_ #[3, 3] 3 #[.int .i64 0, .int .i64 (if (20000 : Int) < n then 20000 else n)]).run Tryd.prog w = .ok (.int .i64 (k : Int)) w := fun w => by rw [run_max_int2, hk1]
      have HCT := Lib.hid (fun W => cut_any at' (k : Int) W (by omega))
      generalize (if (20000 : Int) < n then (20000 : Int) else n) = nm at hmn hmx
      clear hk1
      have HS0 := Lib.hid hS0
      clear hS0 hcut
      go_wp2_with fail
      refine (HCT.out wc).mono ?_
      rintro _ w1 ⟨v, rfl, hO⟩
      have hv0 := hO.own
      obtain ⟨A1, c1, rfl, hc1⟩ := own_form hv0
      have S3 := Lib.hid (HS0.out.trans hO.safe)
      clear hv0 HCT
      by_cases hneg : at' < 0
      · have hcf : cutF at' (k : Int) = ([], 1) := by unfold cutF; rw [if_pos (by omega)]
        rw [hcf] at hO ⊢
        clear hcf
        simp only [List.length_nil]
        go_wp2_with fail
        go_ret
        exact ⟨rfl, S3.out⟩
      by_cases hbig : 136192 - at' < (k : Int)
      · have hcf : cutF at' (k : Int) = ([], 12) := by
          unfold cutF; rw [if_neg (by omega)]
          by_cases h4 : 136192 < at'
          · rw [if_pos (by omega)]
          · rw [if_pos (by omega)]
        rw [hcf] at hO ⊢
        clear hcf
        simp only [List.length_nil]
        have hd1 : decide (at' < 0) = false := decide_eq_false hneg
        have hd2 : decide (136192 - (k : Int) < at') = true := decide_eq_true (by omega)
        go_wp2_with fail
        go_ret
        exact ⟨rfl, S3.out⟩
      obtain ⟨aN, rfl⟩ : ∃ aN : Nat, at' = (aN : Int) := ⟨at'.toNat, by omega⟩
      have hcf : cutF (aN : Int) (k : Int) = (rcut (aN : Int) k, 0) := by
        unfold cutF; rw [if_neg (by omega), if_neg (by omega)]; rfl
      rw [hcf] at hO ⊢
      clear hcf
      have hPc := pc_rcut aN k
      have hF := hPc.fin (by omega) (fun h => by subst h; rfl)
      have hsum := psum_all hPc
      generalize rcut (aN : Int) k = R at *
      simp only at hO hPc hF hsum ⊢
      have HPc := Lib.hid hPc
      have HF := Lib.hid hF
      have HSM := Lib.hid hsum
      have HOW := Lib.hid hO.own
      have hlen := hF.len
      clear hPc hF hsum hO hc1 hmn hmx HS0 hneg
      go_wp2_with fail
      go_loopw [104, 18, 19] (fun x v t wr => ∃ i : Nat, i ≤ R.length ∧ x = .int .i64 i ∧ t = .int .i64 (psum R i) ∧ Safe w1 wr ∧ wr.ownsRow w1.heap.size 3 1 v i ((conL (aN / 128) i).map I)) (fun x _ _ _ => R.length - (intOf x).toNat)
      case atStart => exact ⟨0, Nat.zero_le _, rfl, by rw [psum_zero], But.refl _ _, World.ownsRow_nil _ _ _ _⟩
      case round =>
        obtain ⟨i, hi, rfl, rfl, hsr, hown⟩ := hrel
        by_cases hlt : i < R.length
        · have o1 := own_safe HOW.out hsr
          obtain ⟨g, rfl⟩ := own_headD o1 (by omega)
          have hp := List.getElem?_eq_getElem hlt
          have hps := psum_succ hp
          have hpo := HPc.out.one _ (List.getElem_mem hlt)
          have hpi := HPc.out.idx i _ hp
          obtain ⟨q0, q1, q2⟩ := rows3_get R i _ hp
          have hsl := psum_low HPc.out.one i hi
          have hsl2 := psum_low HPc.out.one (i + 1) hlt
          rw [hps] at hsl2
          generalize hS : psum R i = S at *
          have htw : ∀ j q, i = j + 1 → R[j]? = some q → R[i].2.1 = 0 ∧ q.2.2 = 128 ∧ R[i].1 = q.1 + 1 := fun j q h hq => HPc.out.two j q _ hq (by rw [← h]; exact hp)
          generalize hR : R[i] = p at *
          obtain ⟨p1, p2, p3⟩ := p
          try simp only at q0 q1 q2 hps hpo hpi htw hsl2
          have d0 := (o1.cellAt (i * 3) (by omega)).trans q0
          have d1 := (o1.cellAt (i * 3 + 1) (by omega)).trans q1
          have d2 := (o1.cellAt (i * 3 + 2) (by omega)).trans q2
          try simp only at d0 d1 d2
          obtain ⟨hpo1, hpo2, hpo3⟩ := hpo
          obtain ⟨hsl1, hsl3⟩ := hsl
          obtain ⟨hsl4, hsl5⟩ := hsl2
          have HPS := Lib.hid hps
          have hk0 : (0 : Int) ≤ (i : Int) := by omega
          have hk1 : (i : Int) < (R.length : Int) := by omega
          have hz1 : decide (p3 ≤ p2) = false := decide_eq_false (by omega)
          have hz2 : decide (128 < p3) = false := decide_eq_false (by omega)
          have HPI := Lib.hid hpi
          have HOWN := Lib.hid (fun O n O2 => own_safe hown ((((But.refl (fun _ => False) wr).alloc O).drewN n).alloc O2))
          have HBA := Lib.hid (fun O n O2 => (((hsr.alloc O).drewN n).alloc O2).size)
          have HBK : Hid (∀ (O : Obj) (n : Nat), Blk (((wr.alloc O).drewN n).alloc (.cells #[I p1] 3)) (wr.heap.size + 1) 3 #[I p1]) := Lib.hid (fun O n => Blk.new' _ _ (by simp))
          have HONE : Hid (∀ u ∈ (#[I p1] : Array Value).toList, u.oneCell' = true) := Lib.hid (by simp [Value.oneCell'])
          have H63 : Hid (i + 1 ≤ maxLen) := Lib.hid (by simp [maxLen]; omega)
          have HBY : Hid ((i + 1) * 8 ≤ 140737488355328) := Lib.hid (by omega)
          have HPU : Hid (∀ (W : World) (v : Value), W.ownsRow w1.heap.size 3 1 v (i + 1) ((conL (aN / 128) i).map I ++ (#[I p1] : Array Value).toList) → W.ownsRow w1.heap.size 3 1 v (i + 1) ((conL (aN / 128) (i + 1)).map I)) := Lib.hid (fun W v h => by rw [conL_succ, List.map_append, ← hpi]; exact h)
          have HSF : Hid (∀ (O : Obj) (n : Nat) (O2 : Obj) (W : World) (v : Value), (((wr.alloc O).drewN n).alloc O2).grownBy W u18.ownBlock → Safe w1 W) := Lib.hid (fun O n O2 W v hg => safe_own (((hsr.alloc O).drewN n).alloc O2) (own_safe hown ((((But.refl (fun _ => False) wr).alloc O).drewN n).alloc O2)) hg (Nat.le_refl _))
          have HC5 : Hid (∀ (n : Nat) (O2 : Obj) (W : World), (((wr.alloc (.cells #[I p1, I p2, I p3] 44)).drewN n).alloc O2).grownBy W u18.ownBlock → W.cell? ⟨wr.heap.size, 1, none⟩ = some (I p2) ∧ W.cell? ⟨wr.heap.size, 2, none⟩ = some (I p3)) := Lib.hid (fun n O2 W hg => by
            have hb := (((Blk.new wr 44 #[I p1, I p2, I p3]).drewN n).alloc O2).but (But.of_grown hg) (fun h => by have := (hown.lt _ h.symm).2; omega)
            exact ⟨hb.cell' rfl, hb.cell' rfl⟩)
          clear q0 q1 q2 hps hR hp hS hpi hown
          cases i with
          | zero =>
            have hz3 : decide ((0 : Int) < ((0 : Nat) : Int)) = false := by decide
            clear o1 htw
            go_wp2_with fail
            go_quiet (fail)
            go_wp2_with (at_builtin; go_must (refine wpList_push slIntsD rfl (.tmp 149) (.tmp 152) rfl w1.heap.size u18 _ _ rfl (HOWN.out _ _ _) (wr.heap.size + 1) 3 #[I p1] rfl (HBK.out _ _) rfl HONE.out H63.out HBY.out (HBA.out _ _ _) ?_); intro v1 w5 ho hg _; have hO5 := HPU.out _ _ ho; have hS5 := HSF.out _ _ _ _ v1 hg; have c1' := (HC5.out _ _ _ hg).1; have c2' := (HC5.out _ _ _ hg).2; clear ho hg)
            go_roundw
            case rel => exact ⟨0 + 1, by omega, by go_num, by rw [HPS.out], hS5, hO5⟩
            case measure => simp [intOf]; omega
          | succ j =>
            have hjl : j < R.length := by omega
            have hq := List.getElem?_eq_getElem hjl
            obtain ⟨q0, q1, q2⟩ := rows3_get R j _ hq
            have htj := htw j _ rfl hq
            generalize R[j] = q at *
            obtain ⟨b1, b2, b3⟩ := q
            have e0 := cell_alloc ((o1.cellAt (j * 3) (by omega)).trans q0) (.cells #[I p1, I p2, I p3] 44)
            have e2 := cell_alloc ((o1.cellAt (j * 3 + 2) (by omega)).trans q2) (.cells #[I p1, I p2, I p3] 44)
            try simp only at htj e0 e2
            obtain ⟨t1, t2, t3⟩ := htj
            have hz3 : (p2 != 0) = false := by rw [t1]; rfl
            have hz4 : (b3 != 128) = false := by rw [t2]; rfl
            have hz5 : (p1 != b1 + 1) = false := by rw [t3]; simp
            have hb1 := HPc.out.idx j _ hq
            simp only at hb1
            have hb2 : 0 ≤ b1 := by omega
            have hb3 : b1 ≤ 1000000 := by omega
            clear hb1
            have hz6 : (0 : Int) < (j : Int) + 1 := by omega
            have hz7 : (0 : Int) ≤ (j : Int) := by omega
            have hz8 : (j : Int) < (R.length : Int) := by omega
            rw [show ((j + 1 : Nat) : Int) = (j : Int) + 1 from by omega] at hk0 hk1 ⊢
            clear o1 htw q0 q1 q2 hq t1 t2 t3
            go_wp2_with fail
            go_quiet (fail)
            go_wp2_with (at_builtin; go_must (refine wpList_push slIntsD rfl (.tmp 149) (.tmp 152) rfl w1.heap.size u18 _ _ rfl (HOWN.out _ _ _) (wr.heap.size + 1) 3 #[I p1] rfl (HBK.out _ _) rfl HONE.out H63.out HBY.out (HBA.out _ _ _) ?_); intro v1 w5 ho hg _; have hO5 := HPU.out _ _ ho; have hS5 := HSF.out _ _ _ _ v1 hg; have c1' := (HC5.out _ _ _ hg).1; have c2' := (HC5.out _ _ _ hg).2; clear ho hg)
            go_roundw
            case rel => exact ⟨j + 1 + 1, by omega, by go_num, by rw [HPS.out], hS5, hO5⟩
            case measure => simp [intOf]; omega
        · obtain rfl : i = R.length := by omega
          obtain ⟨A2, c2, rfl, hc2⟩ := own_form hown
          have hrd : Rd I wr A2 (conL (aN / 128) R.length) := Rd.of_own (by rw [conL_len]; exact hown)
          have HCS := Lib.hid (cost_any A2 c2 (conL (aN / 128) R.length) wr hrd (by rw [conL_len]; omega))
          rw [conL_len] at HCS
          have HBL := Lib.hid (fun W => blocks_any ((aN : Int) + (k : Int)) W (by omega) (by omega))
          obtain ⟨f1, f2, f3, f4, f5⟩ := HF.out
          have hr0 : 0 < R.length → ∃ g2, A2 = some ⟨g2, 0, none⟩ ∧ ∀ W, Safe wr W → W.cell? ⟨g2, R.length - 1, none⟩ = some (I ((aN / 128 + (R.length - 1) : Nat) : Int)) := fun hn => by
            obtain ⟨g2, rfl⟩ := own_headD hown hn
            refine ⟨g2, rfl, fun W hW => ?_⟩
            obtain ⟨ad, e1, e2⟩ := (hrd.safe hW).at (k := R.length - 1) (by rw [conL_len]; omega)
            injection e1 with e1
            subst e1
            rw [add_plain, Nat.zero_add] at e2
            rw [e2]
            have := conL_at (a := aN / 128) (m := R.length) (i := R.length - 1) (by omega)
            obtain ⟨_, this⟩ := List.getElem?_eq_some_iff.1 this
            rw [this]
          rw [HSM.out]
          have S4 := Lib.hid (S3.out.trans hsr)
          have HR0 := Lib.hid hr0
          clear hown hrd hr0 hsr hi hlt
          generalize R.length = m2 at *
          generalize costL (conL (aN / 128) m2) = C at *
          go_wp2_with fail
          refine (HCS.out).mono ?_
          rintro _ w6 ⟨rfl, hs6⟩
          have S6 := Lib.hid (S4.out.trans hs6)
          by_cases hk0 : k = 0
          · subst hk0
            clear HR0 HBL f4 f5
            go_wp2_with fail
            go_quiet (fail)
            go_wp2_with fail
            go_ret
            exact ⟨rfl, S6.out.drewN _⟩
          · obtain ⟨g2, rfl, hg2⟩ := HR0.out (f4 (by omega))
            have hg := hg2 _ hs6
            have hm0 := f4 (by omega)
            have hbl := f5 (by omega)
            obtain ⟨m3, rfl⟩ : ∃ m3, m2 = m3 + 1 := ⟨m2 - 1, by omega⟩
            rw [Nat.add_sub_cancel] at hg hbl
            have hb1 : ((aN / 128 + m3 : Nat) : Int) ≤ 1000000 := by omega
            have hb0 : (0 : Int) ≤ ((aN / 128 + m3 : Nat) : Int) := by omega
            generalize hX : ((aN / 128 + m3 : Nat) : Int) = X at *
            rw [hbl] at HBL
            have hkz : ((k : Int) == 0) = false := by simp; omega
            have hm3 : (m3 : Int) < (m3 : Int) + 1 := by omega
            have hm4 : (0 : Int) ≤ (m3 : Int) := by omega
            rw [show ((m3 + 1 : Nat) : Int) = (m3 : Int) + 1 from by omega] at f1 f2 ⊢
            clear HR0 hg2 f4 f5 hbl hX
            go_wp2_with fail
            go_quiet ((go_at_call 15; exact Calls.quiet_of_same ((HBL.out _).mono fun _ _ hh => ⟨hh.1, hh.2.symm⟩)))
            go_wp2_with fail
            go_ret
            exact ⟨rfl, S6.out.drewN _⟩
end Go.Proofs.YtodlapkmcnmmhaaDoor
