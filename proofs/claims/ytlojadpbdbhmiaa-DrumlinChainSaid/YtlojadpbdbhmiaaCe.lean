/- DrumlinChain: the walk. -/
import Derived.Test.YtlojadpbdbhmiaaCm
import Derived.Test.YtlojadpbdbhmiaaFu
import Derived.IntWalk
import Derived.BigQuiet
namespace Go.Proofs.Ytlojadpbdbhmiaa
open Go.RowKit
open Pip
open Go.Maps (Keyed)
set_option linter.unusedSimpArgs false
set_option linter.unusedVariables false

theorem mod_atP (x : Int) {n : Nat} (hn : 1 ≤ n) (h6 : n ≤ 1000) : ∃ m : Nat, m < n ∧ (wrap64 (x.tmod n + n)).tmod n = m := by
  have h1 := Int.tmod_lt_of_pos x (show (0 : Int) < n by omega)
  have h2 : -(n : Int) < x.tmod n := by
    have := Int.lt_tmod_of_pos x (show (0 : Int) < n by omega)
    omega
  rw [IntWalk.wrap64_in _ (by omega)]
  have h3 : 0 ≤ x.tmod n + n := by omega
  have h4 := Int.tmod_nonneg (n : Int) h3
  have h5 := Int.tmod_lt_of_pos (x.tmod n + n) (show (0 : Int) < n by omega)
  exact ⟨((x.tmod n + n).tmod n).toNat, by omega, by omega⟩
/-- A look-up that finds a pointer. -/
theorem wpList_look_ptr {P : Program} (w : World) {ops : Array Oper} {rest : List Oper} {o : Oper} {a : Act} {Q : Exit → Act → World → Prop}
    (hg : o.guard = none) (m x : Operand) (t : TypeId) (hop : o.op = Op.lookup t m x false)
    (k e : TypeId) (K : Keyed P k) (ht : P.underlying t = some (.map k e)) (hz : (zeroValue e).run P w = .ok (.pointer none) w) (b n : Nat) (D : DataW Unit)
    (hm : a.eval m = .map (some b)) (hown : w.ownsMap P k ptrElem b n D) (key : Value) (kl : Lit) (hx : a.eval x = key) (hkey : keyOf P k key = some kl)
    (g : Nat) (hat : ∀ z, D.atKey kl z = .lit (.int .i64 (g : Int))) (hK : wpList P ops Q rest (a.put o.dst (.pointer (some ⟨g, 0, none⟩))) w) :
    wpList P ops Q (o :: rest) a w :=
  wpList_look_any w hg m x t hop k e K ht ptrElem hz (.lit (.int .i64 (-1))) [] ptrElem_none b n D hm hown key kl hx hkey (fun v ps hv => by
    rw [hat] at hv
    rw [ptrElem_at hv]
    exact hK)
section
variable {w wr w' : World} {k : KC} {i : Nat} {v v' : Value} {ps : List PR} {last : Int} {p p' : Pp} {L : List CP} {m : Nat} {D : DataW Unit} {vs vg vs' vg' : Value} {sent got q q' : List Int}
theorem CR.with (h : CR w wr k i v ps last p L m D vs vg sent got q) (hw : CW w w' k (osC L.length (nW L)) v' ps last p L m D vs vg sent got) : CR w w' k i v' ps last p L m D vs vg sent got q :=
  ⟨h.ci, h.mp, h.pc, h.sq, h.b1, h.b2, h.b3, h.b4, hw⟩
theorem CR.sendsR (h : CR w wr k i v ps last p L m D vs vg sent got q) {b : Int} (hp : PC p' (nW L) (q ++ [b])) (hw : CW w w' k (osC L.length (nW L)) v ps last p' L m D vs' vg (sent ++ [b]) got) : CR w w' k (i + 1) v ps last p' L m D vs' vg (sent ++ [b]) got (q ++ [b]) :=
  ⟨h.ci, h.mp, hp, by rw [h.sq]; simp, by have := h.b1; simp; omega, by have := h.b2; omega, by have := h.b3; omega, by have := h.b4; omega, hw⟩
theorem CR.getsR (h : CR w wr k i v ps last p L m D vs vg sent got q) {bs : List Int} (hq : q = bs ++ q') (hp : PC p' (nW L) q') (hw : CW w w' k (osC L.length (nW L)) v ps last p' L m D vs vg' sent (got ++ bs)) : CR w w' k (i + 1) v ps last p' L m D vs vg' sent (got ++ bs) q' :=
  ⟨h.ci, h.mp, hp, by rw [h.sq, hq]; simp, by have := h.b1; omega, by have := h.b2; omega, by have := h.b3; omega, by have := h.b4; omega, hw⟩
theorem CR.getsG (h : CR w wr k i v ps last p L m D vs vg sent got q) (hw : CW w w' k (osC L.length (nW L)) v ps last p L m D vs vg' sent got) : CR w w' k i v ps last p L m D vs vg' sent got q :=
  ⟨h.ci, h.mp, h.pc, h.sq, h.b1, h.b2, h.b3, h.b4, hw⟩
theorem CR.shutR (h : CR w wr k i v ps last p L m D vs vg sent got q) {ix : Nat} {c : CP} (hi : L[ix]? = some c) (hk : c.kw = true) (hp : PC p' (nW L - 1) q) (hw : CW w w' k (osC L.length (nW L - 1)) v ps last p' (L.set ix { c with kw := false }) m D vs vg sent got) : CR w w' k (i + 1) v ps last p' (L.set ix { c with kw := false }) m D vs vg sent got q := by
  have e : nW (L.set ix { c with kw := false }) = nW L - 1 := by have := nW_shut hi hk; omega
  exact ⟨h.ci.shut hi, h.mp.shut hi, by rw [e]; exact hp, h.sq, by have := h.b1; omega, by have := h.b2; omega, by rw [List.length_set]; have := h.b3; omega, by have := h.b4; omega, by rw [e, List.length_set]; exact hw⟩
theorem CR.forkR (h : CR w wr k i v ps last p L m D vs vg sent got q) {ix : Nat} {c d : CP} (hi : L[ix]? = some c) (hkd : d.kw = c.kw) (hpd : d.pid = last + 1) {ps' : List PR} (hci : CI ps' (last + 1) (L ++ [d])) (hw : CW w w' k (osC (L.length + 1) (nW L + if c.kw = true then 1 else 0)) v' ps' (last + 1) p (L ++ [d]) (m + 1) (D.put (.int .i64 d.pid) (.lit (.int .i64 (d.gs : Int)))) vs vg sent got) :
    CR w w' k (i + 1) v' ps' (last + 1) p (L ++ [d]) (m + 1) (D.put (.int .i64 d.pid) (.lit (.int .i64 (d.gs : Int)))) vs vg sent got q := by
  have e : nW (L ++ [d]) = nW L + if c.kw = true then 1 else 0 := by rw [nW_push, hkd]
  have hs : nW L = 0 ↔ nW (L ++ [d]) = 0 := by
    rw [e]
    by_cases hk : c.kw = true
    · have := nW_pos hi hk; rw [if_pos hk]; omega
    · rw [if_neg hk]; omega
  refine ⟨hci, h.mp.put (fun a ha => ?_), h.pc.same hs, h.sq, by have := h.b1; omega, by have := h.b2; omega, by rw [List.length_append]; have := h.b3; simp; omega, by have := h.b4; omega, by rw [e, List.length_append]; exact hw⟩
  have := h.ci.lo a ha
  omega
theorem CR.exitR (h : CR w wr k i v ps last p L m D vs vg sent got q) {ix : Nat} {c : CP} (hi : L[ix]? = some c) {ps' : List PR} (hci : CI ps' last (L.eraseIdx ix)) (hp : PC p' (nW L - if c.kw = true then 1 else 0) q) (hw : CW w w' k (osC (L.length - 1) (nW L - if c.kw = true then 1 else 0)) v' ps' last p' (L.eraseIdx ix) m (D.del (.int .i64 c.pid)) vs vg sent got) :
    CR w w' k (i + 1) v' ps' last p' (L.eraseIdx ix) m (D.del (.int .i64 c.pid)) vs vg sent got q := by
  have e : nW (L.eraseIdx ix) = nW L - if c.kw = true then 1 else 0 := by have := nW_erase hi; omega
  have hl : (L.eraseIdx ix).length = L.length - 1 := List.length_eraseIdx_of_lt (List.getElem?_eq_some_iff.1 hi).1
  exact ⟨hci, h.mp.del h.ci.nd hi, by rw [e]; exact hp, h.sq, by have := h.b1; omega, by have := h.b2; omega, by rw [hl]; have := h.b3; omega, by have := h.b4; omega, by rw [e, hl]; exact hw⟩
end
theorem rd_one {W : World} {g : Nat} {b : Int} (h : Blk W g 5 #[U b]) : Rd U W (some ⟨g, 0, none⟩) [b] := fun _ => ⟨_, rfl, fun j x hj => by
  match j, hj with
  | 0, hj => simp at hj; subst hj; exact h.cell' (i := 0) rfl
  | j + 1, hj => simp at hj⟩
theorem files0 : List.replicate (mostF 8) zeroF = [zeroF, zeroF, zeroF, zeroF, zeroF, zeroF, zeroF, zeroF] := rfl
set_option maxRecDepth 100000 in
set_option maxHeartbeats 4000000 in
theorem chain_walk (A : Option Addr) (n c : Nat) (T : Nat → Int × Int) (w : World) (hn : n ≤ c) (hc : c ≤ 9223372036854775807) (hT : TurnsAt w A n T) :
    Calls Try.prog 6 #[.slice A n c] w fun e w' => e = .returned (.bool true) ∧ Safe w w' := by
  have hmm := @run_makeMap Try.prog
  have HT := Lib.hid hT
  clear hT
  go_enter Try.func6, Try.ntmps6
  go_wp2_with fail
  refine (pnew_any 8 w).mono ?_
  rintro _ w1 ⟨v1, rfl, hT1, hs1⟩
  rw [show mostP 8 = 8 from rfl] at hT1
  have hz1 := hs1.size
  generalize hgt : w.heap.size + 1 = gt at *
  have HT1 := Lib.hid hT1
  have HS1 := Lib.hid hs1
  clear hT1 hs1
  go_wp2_with fail
  refine (newf_any 8 w1).mono ?_
  rintro _ w2 ⟨rfl, hF2, hs2⟩
  rw [files0] at hF2
  generalize hgf : w1.heap.size + 1 = gf at *
  generalize hgfl : w1.heap.size = gfl at *
  have HF2 := Lib.hid hF2
  have HS2 := Lib.hid (HS1.out.trans hs2)
  have HT2 := Lib.hid (HT1.out.safe hs2)
  clear hF2 hs2 HT1 HS1
  go_wp2_with fail
  refine (Pip.new_any 2 (by omega) (by omega) w2).mono ?_
  rintro _ w3 ⟨rfl, hP3, hs3⟩
  rw [show List.replicate 2 zeroP = [zeroP, zeroP] from rfl] at hP3
  have hz2 := HS2.out.size
  generalize hgp : w2.heap.size + 1 = gp at *
  generalize hgpl : w2.heap.size = gpl at *
  have HP3 := Lib.hid hP3
  have HS3 := Lib.hid (HS2.out.trans hs3)
  have HT3 := Lib.hid (HT2.out.safe hs3)
  have HF3 := Lib.hid (HF2.out.safe hs3)
  clear hP3 hs3 HF2 HS2 HT2
  have hz3 := HS3.out.size
  go_wp2_with fail
  obtain ⟨W4, hW4⟩ : ∃ W4, W4 = (w3.alloc (.cells #[.pointer (some ⟨gf, 0, none⟩)] 39)).alloc (.cells #[.pointer (some ⟨gp, 0, none⟩)] 72) := ⟨_, rfl⟩
  have hx4 : Blk W4 w3.heap.size 39 #[.pointer (some ⟨gf, 0, none⟩)] := by rw [hW4]; exact (Blk.new w3 _ _).alloc _
  have hx5 : Blk W4 (w3.heap.size + 1) 72 #[.pointer (some ⟨gp, 0, none⟩)] := by rw [hW4]; exact Blk.new' _ _ (by simp)
  have hs4 : Safe w3 W4 := by rw [hW4]; exact ((But.refl _ w3).alloc _).alloc _
  have hb4 : w.heap.size ≤ w3.heap.size := hz3
  obtain ⟨b4, hb4e⟩ : ∃ b4, b4 = w3.heap.size := ⟨_, rfl⟩
  rw [← hb4e] at hx4 hx5 hb4
  have HW4 := Lib.hid hW4
  have HB4 := Lib.hid hb4e
  have HX4 := Lib.hid hx4
  have HX5 := Lib.hid hx5
  have HS4 := Lib.hid (HS3.out.trans hs4)
  have HP4 := Lib.hid (HP3.out.safe hs4)
  have HF4 := Lib.hid (HF3.out.safe hs4)
  have HT4 := Lib.hid (HT3.out.safe hs4)
  clear hW4 hb4e hx4 hx5 hs4 HP3 HF3 HT3
  rw [← HW4.out, ← HB4.out]
  clear HW4 HB4 HS3
  have hM := make_yes gp gpl [zeroP, zeroP] 0 W4 HP4.out rfl (by simp)
  rw [show ((0 : Nat) : Int) + 1 = 1 from rfl] at hM
  refine (hM).mono ?_
  rintro _ w5 ⟨rfl, hP5, hb5⟩
  have hP5 : PW w5 gp gpl [newP, zeroP] := hP5
  have HP5 := Lib.hid hP5
  have HF5 := Lib.hid (HF4.out.but hb5 (fun e => HF4.out.hp.ne HP4.out.hl (by decide) e) (fun e => HF4.out.hl.ne HP4.out.hl (by decide) e))
  have HT5 := Lib.hid (HT4.out.but hb5 (fun e => HT4.out.hp.ne HP4.out.hl (by decide) e) (fun j hj e => by
    obtain ⟨_, cs, hB⟩ := ownT_blk HT4.out.ho hj
    exact hB.ne HP4.out.hl (by decide) e))
  have HX45 := Lib.hid (HX4.out.but hb5 (fun e => HX4.out.ne HP4.out.hl (by decide) e))
  have HX55 := Lib.hid (HX5.out.but hb5 (fun e => HX5.out.ne HP4.out.hl (by decide) e))
  have HS5 := Lib.hid (HS4.out.step hb5 (fun j hj => .inr (by rw [show j = gpl from hj]; exact hz2)))
  clear hP5 hb5 hM HP4 HF4 HT4 HX4 HX5 HS4
  have hc4 : w5.cell? ⟨b4, 0, none⟩ = some (.pointer (some ⟨gf, 0, none⟩)) := HX45.out.cell' (i := 0) rfl
  go_wp2_with fail
  refine (fnew_yes gf gfl _ 0 2 1 1 w5 HF5.out rfl rfl).mono ?_
  rintro _ w6 ⟨rfl, hF6, hb6⟩
  have e6 : b4 ≠ gfl := HX45.out.ne HF5.out.hl (by decide)
  have hc6 : w6.cell? ⟨b4, 0, none⟩ = some (.pointer (some ⟨gf, 0, none⟩)) := hb6.cell hc4 e6
  have HF6 := Lib.hid hF6
  have HB6 := Lib.hid hb6
  clear hF6 hb6
  go_wp2_with fail
  refine (fnew_yes gf gfl _ 1 3 1 2 w6 HF6.out rfl rfl).mono ?_
  rintro _ w7 ⟨rfl, hF7, hb7⟩
  have hF7 : FW w7 gf gfl (osC 1 1) := hF7
  have hb57 : But (· = gfl) w5 w7 := HB6.out.trans hb7
  have HF7 := Lib.hid hF7
  have HP7 := Lib.hid (HP5.out.but hb57 (fun e => HP5.out.hp.ne HF5.out.hl (by decide) e) (fun e => HP5.out.hl.ne HF5.out.hl (by decide) e))
  have HT7 := Lib.hid (HT5.out.but hb57 (fun e => HT5.out.hp.ne HF5.out.hl (by decide) e) (fun j hj e => by
    obtain ⟨_, cs, hB⟩ := ownT_blk HT5.out.ho hj
    exact hB.ne HF5.out.hl (by decide) e))
  have HX47 := Lib.hid (HX45.out.but hb57 e6)
  have HX57 := Lib.hid (HX55.out.but hb57 (fun e => HX55.out.ne HF5.out.hl (by decide) e))
  have HS7 := Lib.hid (HS5.out.step hb57 (fun j hj => .inr (by rw [show j = gfl from hj]; exact hz1)))
  clear hF7 hb7 hb57 HF5 HP5 HT5 HX45 HX55 HS5 HF6 HB6 hc4 hc6 e6
  go_wp2_with fail
  refine (news_any 4 w7).mono ?_
  rintro _ w8 ⟨gs0, gl0, sp0, rfl, hS8, hg1, hg2, hs8⟩
  rw [show mostS 4 = 4 from rfl] at hS8
  have hz7 := HS7.out.size
  have HS8 := Lib.hid hS8
  have HF8 := Lib.hid (HF7.out.safe hs8)
  have HP8 := Lib.hid (HP7.out.safe hs8)
  have HT8 := Lib.hid (HT7.out.safe hs8)
  have HX48 := Lib.hid (HX47.out.but hs8 id)
  have HX58 := Lib.hid (HX57.out.but hs8 id)
  have HSA8 := Lib.hid (HS7.out.trans hs8)
  have hgl0 : w.heap.size ≤ gl0 := by omega
  clear hS8 hs8 HF7 HP7 HT7 HX47 HX57 HS7 hg1 hg2 hz7
  go_wp2_with fail
  refine (sput_yes gs0 gl0 sp0 _ 0 0 w8 HS8.out (by omega) rfl).mono ?_
  rintro _ w9 ⟨rfl, hS9, hb9⟩
  have HS9 := Lib.hid hS9
  have HB9 := Lib.hid hb9
  clear hS9 hb9
  go_wp2_with fail
  refine (sput_yes gs0 gl0 sp0 _ 1 1 w9 HS9.out (by omega) rfl).mono ?_
  rintro _ wa ⟨rfl, hSa, hba⟩
  have hSa : SW wa gs0 gl0 sp0 (idsC true) := hSa
  have hb8a : But (· = gl0) w8 wa := HB9.out.trans hba
  have hFa := HF8.out.but hb8a (fun e => HF8.out.hp.ne HS8.out.hl (by decide) e) (fun e => HF8.out.hl.ne HS8.out.hl (by decide) e)
  have hPa := HP8.out.but hb8a (fun e => HP8.out.hp.ne HS8.out.hl (by decide) e) (fun e => HP8.out.hl.ne HS8.out.hl (by decide) e)
  have hTa := HT8.out.but hb8a (fun e => HT8.out.hp.ne HS8.out.hl (by decide) e) (fun j hj e => by
    obtain ⟨_, cs, hB⟩ := ownT_blk HT8.out.ho hj
    exact hB.ne HS8.out.hl (by decide) e)
  have hX4a := HX48.out.but hb8a (fun e => HX48.out.ne HS8.out.hl (by decide) e)
  have hX5a := HX58.out.but hb8a (fun e => HX58.out.ne HS8.out.hl (by decide) e)
  have hsa := HSA8.out.step hb8a (fun j hj => .inr (by rw [show j = gl0 from hj]; exact hgl0))
  have hza := hsa.size
  obtain ⟨bm, hbm⟩ : ∃ bm, bm = wa.heap.size := ⟨_, rfl⟩
  obtain ⟨wm, hwm⟩ : ∃ wm, wm = wa.alloc (.map #[] 0) := ⟨_, rfl⟩
  have hs0 : Safe wa wm := by rw [hwm]; exact (But.refl (fun _ => False) wa).alloc (.map #[] 0)
  have hown0 : wm.ownsMap Try.prog 3 ptrElem bm 0 (.map []) := by rw [hwm, hbm]; exact World.ownsMap_made _ _ _ _
  rw [← hbm] at hza
  have hcw : CW w wm ⟨gf, gfl, gt, gp, gpl, bm, b4, b4 + 1⟩ (osC 1 1) v1 [initR] 1 newP [⟨1, true, gs0, gl0, sp0⟩] 0 (.map []) (.slice none 0 0) (.slice none 0 0) [] [] :=
    ⟨hFa.safe hs0, hTa.safe hs0, hPa.safe hs0, fun d m => by rw [List.mem_singleton] at m; subst m; exact hSa.safe hs0, by simp, hown0, hX4a.but hs0 id, hX5a.but hs0 id, World.ownsRow_nil _ _ _ _, World.ownsRow_nil _ _ _ _, fun j h => by (cases h), ⟨hz1, by show _ ≤ gt; omega, hz2, hza⟩, fun d m => by rw [List.mem_singleton] at m; subst m; exact hgl0, hsa.trans hs0⟩
  have HCW := Lib.hid hcw
  have HWM := Lib.hid hwm
  have HBM := Lib.hid hbm
  clear hcw hwm hbm hs0 hsa hFa hPa hTa hX4a hX5a hSa hba hb8a HSA8 HX48 HX58 HT8 HP8 HF8 HS8 HS9 HB9 hb4 hgf hgp hgt hgfl hgpl hz1 hz2 hz3 hza
  go_wp2_with ((with_reducible refine at_ins ?_); rw [← HWM.out, ← HBM.out]; refine wpList_insert_own _ rfl _ _ _ 75 rfl 3 61 keyedInt Try.underlying75 ptrElem bm 0 (.map []) rfl hown0 (by unfold maxLen; omega) _ _ (.int .i64 1) rfl rfl (keyI (by omega) (by omega)) _ [] (ptrElem_mk gs0) ?_; intro wb hown1 hg1)
  have hmp1 : MapP _ [⟨1, true, gs0, gl0, sp0⟩] := MapP.nil.put (c := ⟨1, true, gs0, gl0, sp0⟩) (fun d hd => by cases hd)
  have hcr : CR w wb ⟨gf, gfl, gt, gp, gpl, bm, b4, b4 + 1⟩ 0 v1 [initR] 1 newP [⟨1, true, gs0, gl0, sp0⟩] 1 _ (.slice none 0 0) (.slice none 0 0) [] [] [] :=
    ⟨CI.start gs0 gl0 sp0, hmp1, PC.start, rfl, by simp, by omega, by simp, by omega, HCW.out.turnM (But.of_grown hg1) hown1⟩
  have HCR := Lib.hid hcr
  clear hmp1 hcr hown1 hg1 hown0 HCW
  generalize hK : (⟨gf, gfl, gt, gp, gpl, bm, b4, b4 + 1⟩ : KC) = K at HCR
  have HK := Lib.hid hK
  clear hK
  go_loopw [14, 15, 16] (fun vs vg x wr => ∃ (i : Nat) (v : Value) (ps : List PR) (last : Int) (p : Pp) (L : List CP) (m : Nat) (D : DataW Unit) (sent got q : List Int), i ≤ n ∧ i ≤ 80 ∧ x = .int .i64 i ∧ CR w wr K i v ps last p L m D vs vg sent got q) (fun _ _ x _ => 80 - (intOf x).toNat)
  case atStart => exact ⟨0, _, _, _, _, _, _, _, _, _, _, by omega, by omega, rfl, HCR.out⟩
  case round =>
    clear HCR
    obtain ⟨i, v, ps, last, p, L, m, D, sent, got, q, hin, hi80, rfl, hR⟩ := hrel
    obtain ⟨wo, rfl⟩ : ∃ wo : World, wo = wr := ⟨_, rfl⟩
    rw [← HK.out] at hR
    obtain ⟨gv, cv, rfl, -, -⟩ := hR.cw.tw.form hR.ci.pt.pos
    have HR := Lib.hid hR
    clear hR
    by_cases hlt : i < n ∧ i < 80
    · obtain ⟨hlt, h80⟩ := hlt
      have h80i : (i : Int) < 80 := by omega
      have hlni : (i : Int) < n := by omega
      obtain ⟨ad, hA, c0, c1, -, -⟩ := HT.out i hlt
      subst hA
      rw [add_split2] at c1
      rw [Nat.add_zero] at c0
      have HC0 := Lib.hid c0
      have HC1 := Lib.hid c1
      have hPd := ppids_any gt w.heap.size gv cv ps 8 last 0 wo HR.out.cw.tw
      have hl1 : 1 ≤ ps.length := HR.out.ci.pt.pos
      have hl8 : ps.length ≤ 8 := HR.out.ci.pt.len
      have hll : (ps.map (·.pid)).length = ps.length := List.length_map ..
      have hlat : ∀ (j : Nat) (y : Int), (ps.map (·.pid))[j]? = some y → ∃ pr, ps[j]? = some pr ∧ y = pr.pid := fun j y h => by
        rw [List.getElem?_map] at h
        cases hp : ps[j]? with
        | none => rw [hp] at h; cases h
        | some pr => rw [hp] at h; injection h with h; exact ⟨pr, rfl, h.symm⟩
      generalize ps.map (·.pid) = l at *
      obtain ⟨j, hj, hje⟩ := mod_atP (T i).2 (n := l.length) (by omega) (by omega)
      generalize hTi : T i = tn at *
      obtain ⟨kd, pt⟩ := tn
      simp only at *
      have hji : (j : Int) < l.length := by omega
      obtain ⟨y, hy⟩ : ∃ y, l[j]? = some y := ⟨_, List.getElem?_eq_getElem hj⟩
      obtain ⟨pr, hpr, hyp⟩ := hlat j y hy
      have HPd := Lib.hid hPd
      have HY := Lib.hid hy
      have HPR := Lib.hid hpr
      have HYP := Lib.hid hyp
      have hyr : 1 ≤ y ∧ y ≤ 81 := by
        have h1 := HR.out.ci.pt.lo pr (List.mem_of_getElem? hpr)
        have h2 := HR.out.b4
        omega
      have HLL := Lib.hid hll
      clear hPd hy hpr hyp hlat hll hTi c0 c1 hl1 hl8
      go_wp2_with fail
      refine (HPd.out).mono ?_
      rintro e w5 ⟨v5, rfl, ho5, hs5⟩
      obtain ⟨A5, c5, rfl, hcc5⟩ := own_form ho5
      obtain ⟨g5, rfl⟩ := own_hd ho5 (show 0 < l.length by omega)
      have hcj : w5.cell? ⟨g5, j, none⟩ = some (I y) := by
        obtain ⟨ad2, e, hcc⟩ := (Rd.of_own ho5) (by omega)
        injection e with e
        have := hcc j y HY.out
        rwa [← e, add_plain, Nat.zero_add] at this
      have hR5 := HR.out.cw.move hs5
      have c0 := hR5.safe.cell HC0.out id
      have c1 := hR5.safe.cell HC1.out id
      have hmp5 := hR5.map
      have hkey := keyI (x := y) (by omega) (by omega)
      have hLv := plive_any gt w.heap.size gv cv ps 8 last 0 y w5 hR5.tw
      have H5 := Lib.hid hR5
      have HSA5 := Lib.hid hs5
      clear ho5 hs5 hR5
      have hpick := HR.out.ci.pick HPR.out
      rw [← HYP.out] at hpick
      rcases hpick with h18 | ⟨h0, ix, cp, hix, hcp⟩
      · rw [h18] at hLv
        have HLv := Lib.hid hLv
        clear hLv h18
        go_wp2_with (at_lookup; refine wpList_look_any _ rfl _ _ 75 rfl 3 61 keyedInt Try.underlying75 ptrElem (zeroPs _) (.lit (.int .i64 (-1))) [] ptrElem_none bm m D rfl hmp5 _ _ rfl hkey ?_; intro vl psl hvl; clear hvl)
        refine (HLv.out).mono ?_
        rintro _ w6 ⟨rfl, hs6⟩
        have HS6 := Lib.hid hs6
        clear hs6 hmp5
        go_wp2_with fail
        go_roundw
        case rel => exact ⟨i + 1, _, ps, last, p, L, m, D, sent, got, q, by omega, by omega, by go_num, by rw [← HK.out]; exact HR.out.next (HSA5.out.trans HS6.out)⟩
        case measure => simp [intOf]; omega
      · have hat := HR.out.mp.yes cp (List.mem_of_getElem? hix)
        rw [hcp] at hat
        rw [h0] at hLv
        have HLv := Lib.hid hLv
        have HIX := Lib.hid hix
        have HCP := Lib.hid hcp
        have HLV := Lib.hid h0
        clear hLv hix hcp h0
        obtain ⟨gsx, hgsx⟩ : ∃ g, g = cp.gs := ⟨_, rfl⟩
        rw [← hgsx] at hat
        have HGS := Lib.hid hgsx
        clear hgsx
        go_wp2_with (at_lookup; refine wpList_look_ptr _ rfl _ _ 75 rfl 3 61 keyedInt Try.underlying75 (zeroPs _) bm m D rfl hmp5 _ _ rfl hkey gsx hat ?_)
        refine (HLv.out).mono ?_
        rintro _ w6 ⟨rfl, hs6⟩
        have hR6 := H5.out.move hs6
        have c0 := hs6.cell c0 id
        have hN := HR.out.next (HSA5.out.trans hs6)
        have H6 := Lib.hid hR6
        have HN := Lib.hid hN
        have hmp6 := hR6.map
        have hsw := hR6.all cp (List.mem_of_getElem? HIX.out)
        rw [← HGS.out] at hsw
        have HSW := Lib.hid hsw
        clear hs6 hmp5 hR6 hN hat c1 hsw HLv HSA5 H5 hcj
        by_cases hk0 : kd = 0
        · as_aux_lemma =>
          subst hk0
          have hps1 := HR.out.ci.pt.pos
          have hps8 := HR.out.ci.pt.len
          have hlast : 1 ≤ last ∧ last ≤ 81 := by
            obtain ⟨d, hd, hd1⟩ := HR.out.ci.one
            have h1 := HR.out.ci.lo d hd
            have h2 := HR.out.b4
            omega
          have hF := pfork_any gt w.heap.size _ ps 8 last 0 y w6 H6.out.tw hps1 (by omega) (by omega) (by omega) (by omega)
          rcases HR.out.ci.fork y HLV.out with e | ⟨ps', e, hCI⟩
          · rw [e] at hF
            have HF := Lib.hid hF
            clear hF e
            go_wp2_with fail
            refine (HF.out).mono ?_
            rintro _ w7 ⟨rfl, hr7⟩
            obtain ⟨v7, hR7⟩ := HN.out.cw.turnT hr7
            have H7 := Lib.hid hR7
            clear hr7 hR7
            go_wp2_with fail
            go_roundw
            case rel => exact ⟨i + 1, v7, ps, last, p, L, m, D, sent, got, q, by omega, by omega, by go_num, by rw [← HK.out]; exact HN.out.with H7.out⟩
            case measure => simp [intOf]; omega
          · rw [e] at hF
            have HF := Lib.hid hF
            have HCI := Lib.hid hCI
            clear hF e hCI
            go_wp2_with fail
            refine (HF.out).mono ?_
            rintro _ w7 ⟨rfl, hr7⟩
            obtain ⟨v7, hR7⟩ := H6.out.turnT hr7
            have hsw7 := hR7.all cp (List.mem_of_getElem? HIX.out)
            rw [← HGS.out] at hsw7
            have hAl := sall_any gsx cp.gl cp.sp (idsC cp.kw) w7 hsw7
            have H7 := Lib.hid hR7
            have HAL := Lib.hid hAl
            clear hr7 hR7 hAl hsw7
            go_wp2_with fail
            refine (HAL.out).mono ?_
            rintro e w8 ⟨va, rfl, ho8, hs8⟩
            obtain ⟨Aa, ca, rfl, hca⟩ := own_form ho8
            have H8 := Lib.hid (H7.out.move hs8)
            have HO8 := Lib.hid ho8
            have hal : (allS (idsC cp.kw)).length ≤ 2 := by rw [allC_len]; split <;> omega
            clear ho8 hs8
            go_wp2_with fail
            go_loopw [143] (fun x wr => ∃ q2 : Nat, q2 ≤ (allS (idsC cp.kw)).length ∧ x = .int .i64 q2 ∧ CW w wr ⟨gf, gfl, gt, gp, gpl, bm, b4, b4 + 1⟩ (osC (L.length + min q2 1) (nW L + (q2 - 1))) v7 ps' (last + 1) p L m D _ _ sent got ∧ But (· = gfl) w8 wr) (fun x _ => (allS (idsC cp.kw)).length - (intOf x).toNat)
            case atStart => exact ⟨0, by omega, rfl, H8.out, But.refl _ _⟩
            case round =>
              obtain ⟨q2, hq2, rfl, hc2, hb2⟩ := hrel
              obtain ⟨wq, rfl⟩ : ∃ wq : World, wq = wr := ⟨_, rfl⟩
              have hx4 : wq.cell? ⟨b4, 0, none⟩ = some (.pointer (some ⟨gf, 0, none⟩)) := hc2.x4.cell' (i := 0) rfl
              have HC2 := Lib.hid hc2
              have HB2 := Lib.hid hb2
              clear hc2 hb2
              by_cases hlq : q2 < (allS (idsC cp.kw)).length
              · obtain ⟨x, hx⟩ : ∃ x, (allS (idsC cp.kw))[q2]? = some x := ⟨_, List.getElem?_eq_getElem hlq⟩
                have hoq := own_but_kept HO8.out HB2.out (fun j2 hj2 e => by
                  obtain ⟨_, cs, hB⟩ := ownT_blk HO8.out hj2
                  exact hB.ne H8.out.fw.hl (by decide) e)
                obtain ⟨ad5, rfl, hcell⟩ := (Rd.of_own (enc := I) hoq).at hlq
                have ex : (allS (idsC cp.kw))[q2] = x := by rw [List.getElem?_eq_getElem hlq] at hx; injection hx
                rw [ex] at hcell
                obtain ⟨rfl, hqc⟩ := allC_at hx
                have hqi : (q2 : Int) < (allS (idsC cp.kw)).length := by omega
                have hb3 := HR.out.b3
                have hlen1 := HR.out.len1
                rcases hqc with eq | ⟨eq, hkw⟩
                · have hc3 := HC2.out
                  rw [show osC (L.length + min q2 1) (nW L + (q2 - 1)) = osC L.length (nW L) from (by first | (rw [eq]; done) | (rw [eq]; rfl))] at hc3
                  have hRf := fref_yes gf gfl (osC L.length (nW L)) q2 ⟨2, 1, 0, 1, L.length⟩ wq hc3.fw (by rw [eq]; exact osC_at0 _ _) (by show (L.length : Int) ≠ 0; omega) (by show -9223372036854775808 ≤ (L.length : Int); omega) (by show (L.length : Int) < 9223372036854775807; omega)
                  have e9 : (osC L.length (nW L)).set q2 { (⟨2, 1, 0, 1, L.length⟩ : FO) with refs := (L.length : Int) + 1 } = osC (L.length + min (q2 + 1) 1) (nW L + (q2 + 1 - 1)) := by first | (rw [eq, osC_ref0]; done) | (rw [eq, osC_ref0]; rfl)
                  rw [e9] at hRf
                  have HRf := Lib.hid hRf
                  have HC3 := Lib.hid hc3
                  clear hRf hx ex hoq e9 hc3 eq
                  go_wp2_with fail
                  refine (HRf.out).mono ?_
                  rintro _ w9 ⟨rfl, hf9, hb9⟩
                  have H9 := Lib.hid (HC3.out.turnF1 hb9 hf9)
                  have HB9 := Lib.hid (HB2.out.trans hb9)
                  clear hf9 hb9 hcell
                  go_wp2_with fail
                  go_roundw
                  case rel => exact ⟨q2 + 1, by omega, by go_num, H9.out, HB9.out⟩
                  case measure => simp [intOf]; omega
                · have hm1 : 1 ≤ nW L := nW_pos HIX.out hkw
                  clear hkw
                  have hm2 : nW L ≤ 1000 := by have := nW_le (L := L); omega
                  have hc3 := HC2.out
                  rw [show osC (L.length + min q2 1) (nW L + (q2 - 1)) = osC (L.length + 1) (nW L) from (by first | (rw [eq]; done) | (rw [eq]; rfl))] at hc3
                  have hRf := fref_yes gf gfl (osC (L.length + 1) (nW L)) q2 ⟨3, 1, 0, 2, nW L⟩ wq hc3.fw (by rw [eq]; exact osC_at1 _ _ hm1) (by show (nW L : Int) ≠ 0; omega) (by show -9223372036854775808 ≤ (nW L : Int); omega) (by show (nW L : Int) < 9223372036854775807; omega)
                  have e9 : (osC (L.length + 1) (nW L)).set q2 { (⟨3, 1, 0, 2, nW L⟩ : FO) with refs := (nW L : Int) + 1 } = osC (L.length + min (q2 + 1) 1) (nW L + (q2 + 1 - 1)) := by first | (rw [eq, osC_ref1 _ _ hm1]; done) | (rw [eq, osC_ref1 _ _ hm1]; rfl)
                  rw [e9] at hRf
                  have HRf := Lib.hid hRf
                  have HC3 := Lib.hid hc3
                  clear hRf hx ex hoq e9 hc3 eq
                  go_wp2_with fail
                  refine (HRf.out).mono ?_
                  rintro _ w9 ⟨rfl, hf9, hb9⟩
                  have H9 := Lib.hid (HC3.out.turnF1 hb9 hf9)
                  have HB9 := Lib.hid (HB2.out.trans hb9)
                  clear hf9 hb9 hcell
                  go_wp2_with fail
                  go_roundw
                  case rel => exact ⟨q2 + 1, by omega, by go_num, H9.out, HB9.out⟩
                  case measure => simp [intOf]; omega
              · obtain rfl : q2 = (allS (idsC cp.kw)).length := by omega
                have hH9 := HC2.out
                have eos : osC (L.length + min (allS (idsC cp.kw)).length 1) (nW L + ((allS (idsC cp.kw)).length - 1)) = osC (L.length + 1) (nW L + if cp.kw = true then 1 else 0) := by rw [allC_len]; cases cp.kw <;> rfl
                rw [eos] at hH9
                have hsw9 := hH9.all cp (List.mem_of_getElem? HIX.out)
                rw [← HGS.out] at hsw9
                have hCl := sclone_any gsx cp.gl cp.sp (idsC cp.kw) wq hsw9 (by cases cp.kw <;> simp [idsC])
                have H9 := Lib.hid hH9
                have HCl := Lib.hid hCl
                have hm63 : m < maxLen := by have := HR.out.b2; unfold maxLen; omega
                have hkey2 := keyI (x := last + 1) (by omega) (by omega)
                clear hH9 hsw9 hCl eos
                go_wp2_with fail
                refine (HCl.out).mono ?_
                rintro e wc ⟨gs', gl', sp', rfl, hSc, hg1, hg2, hsc⟩
                have hHc := H9.out.move hsc
                have hzq := H9.out.safe.size
                have hHp := hHc.push (c := ⟨last + 1, cp.kw, gs', gl', sp'⟩) hSc (fun a ha e => by
                  have h1 := (H9.out.all a ha).hl.lt
                  have h2 : a.gl = gl' := e
                  omega) (show w.heap.size ≤ gl' by omega)
                have hmpc := hHp.map
                have HP := Lib.hid hHp
                clear hSc hg1 hg2 hsc hHc hHp
                go_wp2_with (at_mapUpdate; refine wpList_mapUpdate_own _ rfl _ _ _ 75 rfl 3 61 keyedInt Try.underlying75 ptrElem bm m D rfl hmpc hm63 _ _ _ rfl rfl hkey2 _ [] (ptrElem_mk gs') ?_; intro we howne hge; have he := HP.out.turnM (But.of_grown hge) howne; have HE := Lib.hid he; clear howne hge he)
                go_roundw
                case rel => exact ⟨i + 1, v7, ps', last + 1, p, _, m + 1, _, sent, got, q, by omega, by omega, by go_num, by rw [← HK.out]; exact HR.out.forkR HIX.out (d := ⟨last + 1, cp.kw, gs', gl', sp'⟩) rfl rfl (HCI.out _ rfl) HE.out⟩
                case measure => simp [intOf]; omega
        by_cases hk1 : kd = 1
        · as_aux_lemma =>
          subst hk1
          have hps1 := HR.out.ci.pt.pos
          have hE := pexit_any gt w.heap.size _ ps 8 last 0 cp.pid 0 w6 H6.out.tw hps1 (by omega) (by omega)
          have hlv := HLV.out
          rw [← HCP.out] at hlv
          rcases HR.out.ci.exit HIX.out hlv with e | ⟨ps', e, h2, hCI⟩
          · rw [e, HCP.out] at hE
            have HE := Lib.hid hE
            clear hE e hlv
            go_wp2_with fail
            refine (HE.out).mono ?_
            rintro _ w7 ⟨rfl, hr7⟩
            obtain ⟨v7, hR7⟩ := HN.out.cw.turnT hr7
            have H7 := Lib.hid hR7
            clear hr7 hR7
            go_wp2_with fail
            go_roundw
            case rel => exact ⟨i + 1, v7, ps, last, p, L, m, D, sent, got, q, by omega, by omega, by go_num, by rw [← HK.out]; exact HN.out.with H7.out⟩
            case measure => simp [intOf]; omega
          · rw [e, HCP.out] at hE
            have HE := Lib.hid hE
            have HCI := Lib.hid hCI
            clear hE e hCI hlv
            go_wp2_with fail
            refine (HE.out).mono ?_
            rintro _ w7 ⟨rfl, hr7⟩
            obtain ⟨v7, hR7⟩ := H6.out.turnT hr7
            have hsw7 := hR7.all cp (List.mem_of_getElem? HIX.out)
            rw [← HGS.out] at hsw7
            have hAl := sall_any gsx cp.gl cp.sp (idsC cp.kw) w7 hsw7
            have H7 := Lib.hid hR7
            have HAL := Lib.hid hAl
            clear hr7 hR7 hAl hsw7
            go_wp2_with fail
            refine (HAL.out).mono ?_
            rintro e w8 ⟨va, rfl, ho8, hs8⟩
            obtain ⟨Aa, ca, rfl, hca⟩ := own_form ho8
            have H8 := Lib.hid (H7.out.move hs8)
            have HO8 := Lib.hid ho8
            have hal : (allS (idsC cp.kw)).length ≤ 2 := by rw [allC_len]; split <;> omega
            clear ho8 hs8
            go_wp2_with fail
            go_loopw [165] (fun x wr => ∃ (q2 : Nat) (p2 : Pp), q2 ≤ (allS (idsC cp.kw)).length ∧ x = .int .i64 q2 ∧ PC p2 (nW L - (q2 - 1)) q ∧ CW w wr ⟨gf, gfl, gt, gp, gpl, bm, b4, b4 + 1⟩ (osC (L.length - min q2 1) (nW L - (q2 - 1))) v7 ps' last p2 L m D _ _ sent got ∧ But (fun j => j = gfl ∨ j = gpl) w8 wr) (fun x _ => (allS (idsC cp.kw)).length - (intOf x).toNat)
            case atStart => exact ⟨0, p, by omega, rfl, HR.out.pc, H8.out, But.refl _ _⟩
            case round =>
              obtain ⟨q2, p2, hq2, rfl, hp2, hc2, hb2⟩ := hrel
              obtain ⟨wq, rfl⟩ : ∃ wq : World, wq = wr := ⟨_, rfl⟩
              have HC2 := Lib.hid hc2
              have HB2 := Lib.hid hb2
              have HP2 := Lib.hid hp2
              clear hc2 hb2 hp2
              by_cases hlq : q2 < (allS (idsC cp.kw)).length
              · obtain ⟨x, hx⟩ : ∃ x, (allS (idsC cp.kw))[q2]? = some x := ⟨_, List.getElem?_eq_getElem hlq⟩
                have hoq := own_but_kept HO8.out HB2.out (fun j2 hj2 e => by
                  obtain ⟨_, cs, hB⟩ := ownT_blk HO8.out hj2
                  rcases e with e | e
                  · exact hB.ne H8.out.fw.hl (by decide) e
                  · exact hB.ne H8.out.pw.hl (by decide) e)
                obtain ⟨ad5, rfl, hcell⟩ := (Rd.of_own (enc := I) hoq).at hlq
                have ex : (allS (idsC cp.kw))[q2] = x := by rw [List.getElem?_eq_getElem hlq] at hx; injection hx
                rw [ex] at hcell
                obtain ⟨rfl, hqc⟩ := allC_at hx
                have hqi : (q2 : Int) < (allS (idsC cp.kw)).length := by omega
                have hb3 := HR.out.b3
                rcases hqc with eq | ⟨eq, hkw⟩
                · have hc3 := HC2.out
                  rw [show osC (L.length - min q2 1) (nW L - (q2 - 1)) = osC L.length (nW L) from (by first | (rw [eq]; done) | (rw [eq]; rfl))] at hc3
                  have hSh := shut0 ⟨gf, gfl, gt, gp, gpl, bm, b4, b4 + 1⟩ L.length (nW L) wq hc3.fw hc3.x4 h2 (by omega)
                  rw [show osC (L.length - 1) (nW L) = osC (L.length - min (q2 + 1) 1) (nW L - (q2 + 1 - 1)) from (by first | (rw [eq]; done) | (rw [eq]; rfl)), show (0 : Int) = (q2 : Int) from (by first | (rw [eq]; done) | (rw [eq]; rfl))] at hSh
                  simp only at hSh
                  have hpc : PC p2 (nW L - (q2 + 1 - 1)) q := HP2.out.same (by first | (rw [eq]; done) | (rw [eq]; exact Iff.rfl))
                  have HSh := Lib.hid hSh
                  have HC3 := Lib.hid hc3
                  have HPC := Lib.hid hpc
                  clear hSh hx ex hoq hc3 eq hpc
                  go_wp2_with fail
                  refine (HSh.out).mono ?_
                  rintro _ w9 ⟨rfl, hf9, hb9⟩
                  have H9 := Lib.hid (HC3.out.turnF1 hb9 hf9)
                  have HB9 := Lib.hid (HB2.out.trans (hb9.mono (fun j _ e => .inl e)))
                  clear hf9 hb9 hcell
                  go_wp2_with fail
                  go_roundw
                  case rel => exact ⟨q2 + 1, p2, by omega, by go_num, HPC.out, H9.out, HB9.out⟩
                  case measure => simp [intOf]; omega
                · have hm1 : 1 ≤ nW L := nW_pos HIX.out hkw
                  clear hkw
                  have hm2 : nW L ≤ 1000 := by have := nW_le (L := L); omega
                  have hc3 := HC2.out
                  rw [show osC (L.length - min q2 1) (nW L - (q2 - 1)) = osC (L.length - 1) (nW L) from (by first | (rw [eq]; done) | (rw [eq]; rfl))] at hc3
                  have hp3 : PC p2 (nW L) q := HP2.out.same (by first | (rw [eq]; done) | (rw [eq]; exact Iff.rfl))
                  have hSh := shut1 ⟨gf, gfl, gt, gp, gpl, bm, b4, b4 + 1⟩ (L.length - 1) (nW L) p2 q wq hc3.fw hc3.pw hp3 hc3.x4 hc3.x5 hm1 hm2
                  rw [show osC (L.length - 1) (nW L - 1) = osC (L.length - min (q2 + 1) 1) (nW L - (q2 + 1 - 1)) from (by first | (rw [eq]; done) | (rw [eq]; rfl)), show (1 : Int) = (q2 : Int) from (by first | (rw [eq]; done) | (rw [eq]; rfl)), show nW L - 1 = nW L - (q2 + 1 - 1) from (by rw [eq])] at hSh
                  simp only at hSh
                  have HSh := Lib.hid hSh
                  have HC3 := Lib.hid hc3
                  clear hSh hx ex hoq hc3 eq hp3
                  go_wp2_with fail
                  refine (HSh.out).mono ?_
                  rintro _ w9 ⟨rfl, p9, hpc9, hf9, hp9, hb9⟩
                  have H9 := Lib.hid (HC3.out.turnF hb9 hf9 hp9)
                  have HB9 := Lib.hid (HB2.out.trans hb9)
                  have HPC := Lib.hid hpc9
                  clear hf9 hb9 hcell hpc9 hp9
                  go_wp2_with fail
                  go_roundw
                  case rel => exact ⟨q2 + 1, p9, by omega, by go_num, HPC.out, H9.out, HB9.out⟩
                  case measure => simp [intOf]; omega
              · obtain rfl : q2 = (allS (idsC cp.kw)).length := by omega
                have hH9 := HC2.out
                have ite1 : nW L - ((allS (idsC cp.kw)).length - 1) = nW L - if cp.kw = true then 1 else 0 := by rw [allC_len]; cases cp.kw <;> rfl
                have eos : osC (L.length - min (allS (idsC cp.kw)).length 1) (nW L - ((allS (idsC cp.kw)).length - 1)) = osC (L.length - 1) (nW L - if cp.kw = true then 1 else 0) := by rw [allC_len]; cases cp.kw <;> rfl
                rw [eos] at hH9
                have hpc := HP2.out
                rw [ite1] at hpc
                have hmpc := hH9.map
                have H9 := Lib.hid hH9
                have HPC := Lib.hid hpc
                clear hH9 eos ite1 hpc
                go_wp2_with (at_delete; refine wpList_delete_own _ rfl _ _ 75 3 rfl 61 keyedInt Try.underlying75 ptrElem bm m D rfl hmpc _ _ rfl hkey ?_; intro we howne hturn; have he := (H9.out.turnM (But.of_grown hturn.grown) howne).drop ix; rw [← HCP.out] at he; have HE := Lib.hid he; clear howne hturn he)
                go_roundw
                case rel => exact ⟨i + 1, v7, ps', last, _, _, m, _, sent, got, q, by omega, by omega, by go_num, by rw [← HK.out]; exact HR.out.exitR HIX.out HCI.out HPC.out HE.out⟩
                case measure => simp [intOf]; omega
        by_cases hk2 : kd = 2
        · as_aux_lemma =>
          subst hk2
          cases hkw : cp.kw with
          | false =>
            have hsw := HSW.out
            rw [hkw] at hsw
            have HG := Lib.hid (sget_no gsx cp.gl cp.sp (idsC false) 1 w6 hsw (.inr ⟨1, rfl, by simp [idsC], rfl⟩))
            clear hsw
            go_wp2_with fail
            refine (HG.out).mono ?_
            rintro _ _ ⟨rfl, rfl⟩
            go_wp2_with fail
            go_roundw
            case rel => exact ⟨i + 1, _, ps, last, p, L, m, D, sent, got, q, by omega, by omega, by go_num, by rw [← HK.out]; exact HN.out⟩
            case measure => simp [intOf]; omega
          | true =>
            have hsw := HSW.out
            rw [hkw] at hsw
            have HG := Lib.hid (sget_yes gsx cp.gl cp.sp (idsC true) 1 1 w6 hsw rfl (by omega))
            have hx5 : w6.cell? ⟨b4 + 1, 0, none⟩ = some (.pointer (some ⟨gp, 0, none⟩)) := H6.out.x5.cell' (i := 0) rfl
            have hwr : IntKind.u8.wrap (i : Int) = i := by simp [IntKind.wrap, IntKind.signed, IntKind.bits]; omega
            clear hsw
            have hone1 : ∀ u ∈ (#[U (i : Int)] : Array Value).toList, u.oneCell' = true := by simp [Value.oneCell']
            have H11 := Lib.hid hone1
            clear hone1
            go_wp2_with fail
            refine (HG.out).mono ?_
            rintro _ _ ⟨rfl, rfl⟩
            go_wp2_with fail
            have hsa : Safe w6 (w6.alloc (.cells #[U (i : Int)] 5)) := (But.refl _ w6).alloc _
            have hgl6 := H6.out.pw.hl.lt
            have hWr := write_yes' gp gpl [p, zeroP] 0 p _ (H6.out.pw.safe hsa) rfl HR.out.pc.there (some ⟨w6.heap.size, 0, none⟩) 1 1 [(i : Int)] rfl (rd_one (Blk.new _ _ _)) (fun _ ad2 e2 => by
              injection e2 with e2
              subst e2
              have hgl6 : gpl < w6.heap.size := hgl6
              show w6.heap.size ≠ gpl
              omega) (by simp) (fun x hx => by rw [List.mem_singleton] at hx; omega) (by simp)
            rw [show ((0 : Nat) : Int) + 1 = 1 from rfl] at hWr
            rcases HR.out.pc.write i with ⟨e1, e2⟩ | ⟨e1, e2, hPC⟩
            · rw [e1, e2] at hWr
              refine (hWr).mono ?_
              rintro _ w7 ⟨rfl, hp7, hb7⟩
              have hp7 : PW w7 gp gpl [p, zeroP] := hp7
              have H7 := Lib.hid (HN.out.with ((HN.out.cw.move hsa).turnP1 hb7 hp7))
              clear hWr hp7 hb7 e1 e2 hsa hgl6 hx5
              go_wp2_with fail
              go_roundw
              case rel => exact ⟨i + 1, _, ps, last, p, L, m, D, sent, got, q, by omega, by omega, by go_num, by rw [← HK.out]; exact H7.out⟩
              case measure => simp [intOf]; omega
            · rw [e1, e2] at hWr
              refine (hWr).mono ?_
              rintro _ w7 ⟨rfl, hp7, hb7⟩
              have hp7 : PW w7 gp gpl [putAll p [(i : Int)], zeroP] := hp7
              have H7 := Lib.hid ((H6.out.move hsa).turnP1 hb7 hp7)
              have HPC := Lib.hid hPC
              have h63 : sent.length + 1 ≤ maxLen := by have := HR.out.b1; simp [maxLen]; omega
              have hby : (sent.length + 1) * 1 ≤ 140737488355328 := by have := HR.out.b1; omega
              clear hWr hp7 hb7 e1 e2 hsa hgl6 hx5 hPC
              go_wp2_with (at_builtin; (refine wpList_push slBytes rfl (.tmp 200) (.tmp 203) rfl w.heap.size _ sent.length (sent.map U) rfl (own_safe H7.out.rs ((But.refl _ _).alloc _)) w7.heap.size 5 #[U (i : Int)] rfl (Blk.new _ _ _) rfl H11.out h63 hby (Nat.le_trans H7.out.safe.size (((But.refl (fun _ => False) w7).alloc _).size)) ?_); intro v8 w8 ho hg hd; have h8 := (H7.out.move ((But.refl _ w7).alloc _)).sends ho hg hd; have H8 := Lib.hid h8; clear ho hg hd h8)
              go_roundw
              case rel => exact ⟨i + 1, _, ps, last, _, L, m, D, _, got, _, by omega, by omega, by go_num, by rw [← HK.out]; exact HR.out.sendsR HPC.out H8.out⟩
              case measure => simp [intOf]; omega
        by_cases hk3 : kd = 3
        · as_aux_lemma =>
          subst hk3
          have hsw := HSW.out
          have HG := Lib.hid (sget_yes gsx cp.gl cp.sp (idsC cp.kw) 0 0 w6 hsw (by cases cp.kw <;> rfl) (by omega))
          have hx5 : w6.cell? ⟨b4 + 1, 0, none⟩ = some (.pointer (some ⟨gp, 0, none⟩)) := H6.out.x5.cell' (i := 0) rfl
          clear hsw
          go_wp2_with fail
          refine (HG.out).mono ?_
          rintro _ _ ⟨rfl, rfl⟩
          go_wp2_with fail
          have hRd := read_yes gp gpl [p, zeroP] 0 p w6 H6.out.pw rfl HR.out.pc.there 1 (by omega)
          rw [show ((0 : Nat) : Int) + 1 = 1 from rfl] at hRd
          have hgl6 : gpl < w6.heap.size := H6.out.pw.hl.lt
          have hz6 := H6.out.safe.size
          have hal : But (· = gpl) w w6 ∨ True := .inr trivial
          rcases HR.out.pc.read with ⟨e1, e2, e3⟩ | ⟨b, q', e0, e1, e2, e3, hPC⟩
          · refine (hRd).mono ?_
            rintro _ w7 ⟨r, hr, Ar, cr, rfl, hrc, hAr, hor, hp7, hb7⟩
            rw [e2] at hr
            subst hr
            have hp7 : PW w7 gp gpl [takeN p 0, zeroP] := hp7
            rw [e3] at hp7
            have H7 := Lib.hid (HN.out.with (HN.out.cw.turnP1 hb7 hp7))
            have h63 : got.length + 0 ≤ maxLen := by have := HR.out.b1; have := congrArg List.length HR.out.sq; simp at this; simp [maxLen]; omega
            have hby : (got.length + 0) * 1 ≤ 140737488355328 := by have := HR.out.b1; have := congrArg List.length HR.out.sq; simp at this; omega
            clear hRd hp7 hb7 hor hAr hx5 hal
            rcases e1 with e1 | e1
            all_goals
              rw [e1]
              go_wp2_with (at_builtin; go_must (refine wpList_pushAll slBytes rfl (.tmp 232) (.tmp 233) rfl w.heap.size _ got.length (got.map U) rfl H7.out.cw.rg Ar 0 cr [] rfl rfl (fun h => absurd h (by omega)) (fun u hu => by cases hu) h63 hby H7.out.cw.safe.size ?_); intro v8 w8 ho hg hd; have h8 := H7.out.cw.gets (bs := []) ho hg hd; rw [List.append_nil] at h8; have H8 := Lib.hid (H7.out.getsG h8); clear ho hg hd h8)
              go_roundw
              case rel => exact ⟨i + 1, _, ps, last, _, L, m, D, _, got, _, by omega, by omega, by go_num, by rw [← HK.out]; exact H8.out⟩
              case measure => simp [intOf]; omega
          · rw [e1, e2] at hRd
            refine (hRd).mono ?_
            rintro _ w7 ⟨r, hr, Ar, cr, rfl, hrc, hAr, hor, hp7, hb7⟩
            subst hr
            have hp7 : PW w7 gp gpl [takeN p 1, zeroP] := hp7
            rw [e3] at hor
            have hgc := Rd.cells (Rd.of_own (enc := U) (xs := [b]) hor)
            have H7 := Lib.hid (H6.out.turnP1 hb7 hp7)
            have h63 : got.length + 1 ≤ maxLen := by have := HR.out.b1; have := congrArg List.length HR.out.sq; simp at this; simp [maxLen]; omega
            have hby : (got.length + 1) * 1 ≤ 140737488355328 := by have := HR.out.b1; have := congrArg List.length HR.out.sq; simp at this; omega
            have HGC := Lib.hid hgc
            have HE0 := Lib.hid (show q = [b] ++ q' from e0)
            have HPC := Lib.hid hPC
            have hone : ∀ u ∈ ([b].map U), u.oneCell' = true := by simp [Value.oneCell']
            have HONE := Lib.hid hone
            clear hRd hp7 hb7 hor hAr hx5 hal hgc hPC e0 e1 e2 e3 hone
            go_wp2_with (at_builtin; go_must (refine wpList_pushAll slBytes rfl (.tmp 232) (.tmp 233) rfl w.heap.size _ got.length (got.map U) rfl H7.out.rg Ar 1 cr ([b].map U) rfl rfl HGC.out HONE.out h63 hby H7.out.safe.size ?_); intro v8 w8 ho hg hd; have h8 := H7.out.gets (bs := [b]) ho hg hd; have H8 := Lib.hid h8; clear ho hg hd h8)
            go_roundw
            case rel => exact ⟨i + 1, _, ps, last, _, L, m, D, _, _, _, by omega, by omega, by go_num, by rw [← HK.out]; exact HR.out.getsR HE0.out HPC.out H8.out⟩
            case measure => simp [intOf]; omega
        by_cases hk4 : kd = 4
        · as_aux_lemma =>
          subst hk4
          cases hkw : cp.kw with
          | false =>
            have hsw := HSW.out
            rw [hkw] at hsw
            have HG := Lib.hid (stake_no gsx cp.gl cp.sp (idsC false) 1 w6 hsw (.inr ⟨1, rfl, by simp [idsC], rfl⟩))
            clear hsw
            go_wp2_with fail
            refine (HG.out).mono ?_
            rintro _ _ ⟨rfl, rfl⟩
            go_wp2_with fail
            go_roundw
            case rel => exact ⟨i + 1, _, ps, last, p, L, m, D, sent, got, q, by omega, by omega, by go_num, by rw [← HK.out]; exact HN.out⟩
            case measure => simp [intOf]; omega
          | true =>
            have hsw := HSW.out
            rw [hkw] at hsw
            have HG := Lib.hid (stake_yes gsx cp.gl cp.sp (idsC true) 1 1 w6 hsw rfl (by omega))
            have hm1 : 1 ≤ nW L := nW_pos HIX.out hkw
            have hm2 : nW L ≤ 1000 := by have := nW_le (L := L); have := HR.out.b3; omega
            clear hsw
            go_wp2_with fail
            refine (HG.out).mono ?_
            rintro _ w7 ⟨rfl, hS7, hb7⟩
            have hS7 : SW w7 gsx cp.gl cp.sp (idsC false) := hS7
            rw [HGS.out] at hS7
            have hR7 := H6.out.turnS HIX.out hb7 hS7
            have hSh := shut1 ⟨gf, gfl, gt, gp, gpl, bm, b4, b4 + 1⟩ L.length (nW L) p q w7 hR7.fw hR7.pw HR.out.pc hR7.x4 hR7.x5 hm1 hm2
            simp only at hSh
            have H7 := Lib.hid hR7
            have HSH := Lib.hid hSh
            have HKW := Lib.hid hkw
            clear hS7 hb7 hR7 hSh
            go_wp2_with fail
            refine (HSH.out).mono ?_
            rintro _ w8 ⟨rfl, p8, hPC8, hf8, hp8, hb8⟩
            have H8 := Lib.hid (H7.out.turnF hb8 hf8 hp8)
            have HPC := Lib.hid hPC8
            clear hf8 hp8 hb8 hPC8
            go_wp2_with fail
            go_roundw
            case rel => exact ⟨i + 1, _, ps, last, _, _, m, D, _, _, _, by omega, by omega, by go_num, by rw [← HK.out]; exact HR.out.shutR HIX.out HKW.out HPC.out H8.out⟩
            case measure => simp [intOf]; omega
        · have b0 : (kd == 0) = false := by simpa using hk0
          have b1 : (kd == 1) = false := by simpa using hk1
          have b2 : (kd == 2) = false := by simpa using hk2
          have b3 : (kd == 3) = false := by simpa using hk3
          have b4' : (kd == 4) = false := by simpa using hk4
          clear hk0 hk1 hk2 hk3 hk4
          go_wp2_with fail
          go_roundw
          case rel => exact ⟨i + 1, _, ps, last, p, L, m, D, sent, got, q, by omega, by omega, by go_num, by rw [← HK.out]; exact HN.out⟩
          case measure => simp [intOf]; omega
    · as_aux_lemma =>
      have hne2 : (¬ i < n) ∨ (i < n ∧ ¬ ((i : Int) < 80)) := by
        by_cases h1 : i < n
        · exact .inr ⟨h1, fun h2 => hlt ⟨h1, by omega⟩⟩
        · exact .inl h1
      clear hlt
      have hR := HR.out
      obtain ⟨As, cs, hvs, hcs⟩ := own_form hR.cw.rs
      obtain ⟨Ag, cg, hvg, hcg⟩ := own_form hR.cw.rg
      subst hvs hvg
      have hlen : got.length ≤ sent.length := by have := congrArg List.length hR.sq; simp at this; omega
      have hRs : Rd U wo As sent := Rd.of_own hR.cw.rs
      have hRg : Rd U wo Ag got := Rd.of_own hR.cw.rg
      have hRp : Rd U wo As got := fun h0 => by
        obtain ⟨ad, e, hc⟩ := hRs (by omega)
        exact ⟨ad, e, fun j x hj => hc j x (by rw [hR.sq, List.getElem?_append_left (List.getElem?_eq_some_iff.1 hj).1]; exact hj)⟩
      have hcv1 := fun N => conv_any (W := wo.drewN N) (hRp.safe ((But.refl _ wo).drewN N)) cs
      have hcv2 := fun N => conv_any (W := wo.drewN N) (hRg.safe ((But.refl _ wo).drewN N)) cg
      have hgs : decide (sent.length < got.length) = false := decide_eq_false (by omega)
      have hgs2 : (got.length : Int) ≤ (cs : Int) := by omega
      have HR9 := Lib.hid hR
      clear hR hRs hRg hRp HR
      have hr0 : w.heap.size ≤ wo.heap.size := HR9.out.cw.safe.size
      rcases hne2 with h1 | ⟨h1, h2⟩
      all_goals
        go_wp2_with fail
        go_quiet (fail)
        have hH0 := HR9.out.cw.move ((But.refl _ wo).drewN nq)
        have hz0 : w.heap.size ≤ (wo.drewN nq).heap.size := hH0.safe.size
        obtain ⟨wn, hwn⟩ : ∃ wn, wn = wo.drewN nq := ⟨_, rfl⟩
        rw [← hwn] at hH0 hz0 ⊢
        have hmp9 := hH0.map
        obtain ⟨r, hr⟩ : ∃ r, r = wn.heap.size := ⟨_, rfl⟩
        have H0 := Lib.hid hH0
        have HZR : w.heap.size ≤ r := by rw [hr]; exact hz0
        have HRr := Lib.hid hr
        clear hH0 hwn hr hcv1 hcv2
        go_wp2_with (at_range; refine wpList_range_own _ rfl _ 75 rfl 3 61 keyedInt Try.underlying75 ptrElem bm m D rfl hmp9 ?_; intro w4 hrg4 hg4 hs4; have hH4 := H0.out.move (But.of_grown hg4 |>.mono (fun k _ e => by cases e)); have HRG4 := Lib.hid hrg4; have HH4 := Lib.hid hH4; clear hrg4 hg4 hs4 hH4)
        try go_frame
        rw [← HRr.out] at *
        go_loopw [36, 37] (fun x y wr => ∃ (a b : Int) (left : Lit → Bool) (cnt : Nat), x = .int .i64 a ∧ y = .int .i64 b ∧ (a = 0 ∨ a = 1) ∧ (b = 0 ∨ (b = 1 ∧ 1 ≤ nW L)) ∧ (∀ c ∈ L, left (.int .i64 c.pid) = true ∨ (a = 1 ∧ (c.kw = true → b = 1))) ∧ wr.ranges Try.prog 3 ptrElem bm r m D left cnt ∧ CW w wr ⟨gf, gfl, gt, gp, gpl, bm, b4, b4 + 1⟩ (osC L.length (nW L)) _ ps last p L m D _ _ sent got) (fun _ _ wr => wr.rangeLeft bm r)
        case atStart => exact ⟨0, 0, _, _, rfl, rfl, .inl rfl, .inl rfl, fun c hc => .inl (Maps.has_true_of_atKey (HR9.out.mp.yes c hc)), HRG4.out, HH4.out⟩
        case round =>
          obtain ⟨a, b, left, cnt, rfl, rfl, ha, hb, hv, hrg, hH⟩ := hrel
          obtain ⟨wz, rfl⟩ : ∃ wz : World, wz = wr := ⟨_, rfl⟩
          have HH := Lib.hid hH
          have HRG := Lib.hid hrg
          have HV := Lib.hid hv
          clear hH hv
          go_wp2_with (at_next; refine wpList_next_ranges _ rfl _ rfl 3 keyedInt ptrElem (Value.int .i64) ptrV (fun key kl hkey => by obtain ⟨x, rfl, _⟩ := Maps.keyOf_int_inv Try.underlying3 hkey; exact ⟨x, rfl⟩) (fun v y hv => ptrElem_inv hv) bm r m D left cnt rfl hrg ?_ ?_)
          · intro _ hl0
            clear hrg
            obtain ⟨c1, hc1, hc1p⟩ := HR9.out.ci.one
            have ha1 : a = 1 := by
              rcases HV.out c1 hc1 with h | h
              · rw [hl0] at h; cases h
              · exact h.1
            have hbn : (nW L = 0 ∧ b = 0) ∨ (1 ≤ nW L ∧ b = 1) := by
              by_cases h0 : nW L = 0
              · rcases hb with hb | hb
                · exact .inl ⟨h0, hb⟩
                · omega
              · right
                refine ⟨by omega, ?_⟩
                obtain ⟨c2, hc2, hk2⟩ := List.countP_pos_iff.1 (show 0 < L.countP (·.kw) by have : nW L = L.countP (·.kw) := rfl; omega)
                rcases HV.out c2 hc2 with h | h
                · rw [hl0] at h; cases h
                · exact h.2 hk2
            subst ha1
            have hx5 : wz.cell? ⟨b4 + 1, 0, none⟩ = some (.pointer (some ⟨gp, 0, none⟩)) := HH.out.x5.cell' (i := 0) rfl
            have hEn := ends_yes gp gpl [p, zeroP] 0 p wz HH.out.pw rfl HR9.out.pc.there
            rw [show ((0 : Nat) : Int) + 1 = 1 from rfl, HR9.out.pc.r, HR9.out.pc.w] at hEn
            have hcn := fun W (hs : Safe wz W) => fcount_any gf gfl _ W (HH.out.fw.safe hs)
            rw [osC_count _ _ HR9.out.len1] at hcn
            clear hb hc1 hc1p hl0
            rcases hbn with ⟨h0, rfl⟩ | ⟨h0, rfl⟩
            · rw [if_pos h0] at hEn hcn
              have HEn := Lib.hid hEn
              have HCN := Lib.hid hcn
              clear hEn hcn h0
              go_wp2_with fail
              refine (HEn.out).mono ?_
              rintro _ w6 ⟨rfl, N6, rfl⟩
              have hx4 : (wz.drewN N6).cell? ⟨b4, 0, none⟩ = some (.pointer (some ⟨gf, 0, none⟩)) := (HH.out.move ((But.refl _ wz).drewN N6)).x4.cell' (i := 0) rfl
              go_wp2_with fail
              refine (HCN.out _ ((But.refl _ wz).drewN N6)).mono ?_
              rintro _ w7 ⟨rfl, hs7⟩
              have HS7 := Lib.hid hs7
              clear hs7
              go_wp2
              go_ret
              exact ⟨by simp, (HH.out.move ((But.refl _ wz).drewN N6)).safe.trans HS7.out⟩
            · rw [if_neg (by omega)] at hEn hcn
              have HEn := Lib.hid hEn
              have HCN := Lib.hid hcn
              clear hEn hcn h0
              go_wp2_with fail
              refine (HEn.out).mono ?_
              rintro _ w6 ⟨rfl, N6, rfl⟩
              have hx4 : (wz.drewN N6).cell? ⟨b4, 0, none⟩ = some (.pointer (some ⟨gf, 0, none⟩)) := (HH.out.move ((But.refl _ wz).drewN N6)).x4.cell' (i := 0) rfl
              go_wp2_with fail
              refine (HCN.out _ ((But.refl _ wz).drewN N6)).mono ?_
              rintro _ w7 ⟨rfl, hs7⟩
              have HS7 := Lib.hid hs7
              clear hs7
              go_wp2
              go_ret
              exact ⟨by simp, (HH.out.move ((But.refl _ wz).drewN N6)).safe.trans HS7.out⟩
          · intro x o kl y1 y2 w5 cnt5 hkey hlk hR5 hat hrg5 hlt hg5 hs5 hen
            obtain ⟨x', ex, rfl, hwx⟩ := Maps.keyOf_int_inv Try.underlying3 hkey
            injection ex with _ ex
            subst ex
            try simp only at hat
            obtain ⟨cc, hcc, hcx, hy⟩ := HR9.out.mp.got hat
            subst hy
            have hpv := ptrElem_at hR5
            rw [hpv] at hen ⊢
            have hH5 := HH.out.far (But.of_grown hg5) (iterB_ne HRG.out) HZR hrg5.owns
            have hsw := hH5.all cc hcc
            have hml : w5.rangeLeft bm r < wz.rangeLeft bm r := by rw [hrg5.left_eq, HRG.out.left_eq]; exact hlt
            have hvn : ∀ b' : Int, (b = 1 → b' = 1) → (cc.kw = true → b' = 1) → ∀ d ∈ L, (left (.int .i64 d.pid) && !(Lit.int .i64 d.pid).sameKey (.int .i64 x)) = true ∨ ((1 : Int) = 1 ∧ (d.kw = true → b' = 1)) := fun b' h1 h2 d hd => by
              by_cases hdx : d.pid = x
              · right
                refine ⟨rfl, fun hk => h2 ?_⟩
                obtain ⟨j1, hj1⟩ := List.getElem?_of_mem hd
                obtain ⟨j2, hj2⟩ := List.getElem?_of_mem hcc
                have := HR9.out.ci.inj hj1 hj2 (by rw [hdx, hcx])
                rw [this, hj2] at hj1
                injection hj1 with hj1
                rw [hj1]; exact hk
              · rcases HV.out d hd with h | h
                · left
                  rw [h]
                  simp [Lit.sameKey, hdx]
                · exact .inr ⟨rfl, fun hk => h1 (h.2 hk)⟩
            have hG0 := sget_yes cc.gs cc.gl cc.sp (idsC cc.kw) 0 0 w5 hsw (by cases cc.kw <;> rfl) (by omega)
            have hnw : cc.kw = true → 1 ≤ nW L := fun hk => by
              obtain ⟨j2, hj2⟩ := List.getElem?_of_mem hcc
              exact nW_pos hj2 hk
            have HG0 := Lib.hid hG0
            have HML := Lib.hid hml
            have HVN := Lib.hid hvn
            have HRG5 := Lib.hid hrg5
            have HH5 := Lib.hid hH5
            have HB := Lib.hid hb
            clear hG0 hml hvn hrg5 hH5 hb ha hkey hlk hR5 hat hlt hg5 hs5 hrg hpv hwx
            cases hkw : cc.kw with
            | false =>
              rw [hkw] at hsw
              have HG1 := Lib.hid (sget_no cc.gs cc.gl cc.sp (idsC false) 1 w5 hsw (.inr ⟨1, rfl, by simp [idsC], rfl⟩))
              have HKW := Lib.hid hkw
              clear hkw hsw hnw
              go_wp2_with fail
              refine (HG0.out).mono ?_
              rintro _ _ ⟨rfl, rfl⟩
              go_wp2_with fail
              refine (HG1.out).mono ?_
              rintro _ _ ⟨rfl, rfl⟩
              go_wp2_with fail
              go_roundw
              case rel => exact ⟨1, b, _, cnt5, rfl, rfl, .inr rfl, HB.out, fun d hd => (HVN.out b id (fun h => by rw [HKW.out] at h; cases h) d hd).imp id (fun h => ⟨rfl, h.2⟩), HRG5.out, HH5.out⟩
              case measure => exact HML.out
            | true =>
              rw [hkw] at hsw
              have HG1 := Lib.hid (sget_yes cc.gs cc.gl cc.sp (idsC true) 1 1 w5 hsw rfl (by omega))
              have HNW := Lib.hid (hnw hkw)
              clear hkw hsw hnw
              go_wp2_with fail
              refine (HG0.out).mono ?_
              rintro _ _ ⟨rfl, rfl⟩
              go_wp2_with fail
              refine (HG1.out).mono ?_
              rintro _ _ ⟨rfl, rfl⟩
              go_wp2_with fail
              go_roundw
              case rel => exact ⟨1, 1, _, cnt5, rfl, rfl, .inr rfl, .inr ⟨rfl, HNW.out⟩, fun d hd => (HVN.out 1 (fun _ => rfl) (fun _ => rfl) d hd).imp id (fun h => ⟨rfl, h.2⟩), HRG5.out, HH5.out⟩
              case measure => exact HML.out
end Go.Proofs.Ytlojadpbdbhmiaa
