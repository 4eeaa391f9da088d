/- DrumlinSectors: what holds from part to part. -/
import Derived.Test.YtgbdnghbamaecaaNj
namespace Go.Proofs.Ytgbdnghbamaecaa
open Go.RowKit
set_option linter.unusedSimpArgs false
set_option linter.unusedVariables false

theorem add_split4 (a : Addr) (i j : Nat) : a.add (i * 4 + (j + 1)) = ⟨(a.add (i * 4)).block, (a.add (i * 4)).off + (j + 1), none⟩ := by
  rw [← Go.Deep.add_add]
  simp [Addr.add]
theorem slParts : SlT Try.prog 22 31 (.agg #[I 0, .int .u64 0, .bool false, .slice none 0 0]) 4 48 := ⟨Try.underlying22, by kernel_rfl, rfl, by omega⟩
theorem encV_len (p : PartR) : (encV p).length = 4 := rfl
theorem encV_one (p : PartR) : ∀ u ∈ encV p, u.oneCell' = true := by
  intro u hu
  unfold encV at hu
  simp at hu
  rcases hu with rfl | rfl | rfl | rfl <;> rfl
theorem wnum_part (g : Nat) (B : List Int) (p : PartR) (w : World) (h : WS w g B) (hp : GoodP p) (hr : p.raw = false) (hl : (B.length : Int) + p.wd ≤ 120) :
    Calls Try.prog 6 #[.pointer (some ⟨g, 0, none⟩), I p.wd, .int .u64 p.num] w fun e w' => e = .returned (.tuple #[]) ∧ WS w' g (B ++ encB p) ∧ But (· = g) w w' := by
  obtain ⟨h1, h2, h3⟩ := hp.num hr
  have hN := wnum_yes g B p.wd.toNat p.num w h (by omega) (by omega) (by omega) h3
  rw [Int.toNat_of_nonneg hp.w0] at hN
  have e : encB p = lowL p.wd.toNat p.num := by unfold encB; rw [if_neg (by rw [hr]; simp)]
  rw [e]
  exact hN
theorem wbytes_part (g : Nat) (B : List Int) (p : PartR) (w0 w : World) (h : WS w g B) (hp : GoodP p) (hin : p.In w0) (hs : Safe w0 w) (hr : p.raw = true) (hl : (B.length : Int) + p.wd ≤ 120) :
    Calls Try.prog 5 #[.pointer (some ⟨g, 0, none⟩), I p.wd, .slice p.B p.bs.length p.bc] w fun e w' => e = .returned (.tuple #[]) ∧ WS w' g (B ++ encB p) ∧ But (· = g) w w' := by
  have hw0 := hp.w0
  have hN := wbytes_yes g B p.wd.toNat p.B p.bs p.bc w h (hin.rd.safe hs) (hp.raw hr) (by omega) (by omega)
  rw [Int.toNat_of_nonneg hp.w0, List.append_assoc] at hN
  have e : encB p = p.bs ++ List.replicate (p.wd.toNat - p.bs.length) 0 := by unfold encB; rw [if_pos hr]
  rw [e]
  exact hN
theorem equal_same (A B : Option Addr) (c d : Nat) (xs : List Int) (w : World) (hx : Rd U w A xs) (hy : Rd U w B xs) (hn : xs.length ≤ 9223372036854775807) :
    Calls Try.prog 12 #[.slice A xs.length c, .slice B xs.length d] w fun e w' => e = .returned (.bool true) ∧ Safe w w' := by
  have := equal_any A B c d xs xs w hx hy hn hn
  rw [decide_eq_true rfl] at this
  exact this
theorem own_none {w : World} {q base : Nat} (hB : Blk w q 5 #[]) (hb : base ≤ q) : w.ownsRow base 5 1 (.slice (some ⟨q, 0, none⟩) 0 0) 0 [] :=
  ⟨rfl, .inr ⟨q, 0, #[], rfl, hb, hB, Nat.le_refl _, by simp [maxLen], rfl, rfl⟩⟩
theorem step_pushAllW {P : Program} {w : World} {t e : TypeId} {z : Value} {size bytes : Nat} (T : SlT P t e z size bytes) {ops : Array Oper} {o : Oper} {a : Act} {K : Act → World → Prop} {Q : Exit → Act → World → Prop} {E : Prop} (hw : Region.wanted o (yielded ops a.tmps) = true) (s x : Operand)
    (ho : o.op = .call { callee := .builtin .append, args := #[s, x], argTypes := #[t, t] })
    (base : Nat) (v : Value) (n : Nat) (xs : List Value) (hs : a.eval s = v) (hown : w.ownsRow base e size v n xs)
    (A : Option Addr) (m c : Nat) (ys : List Value) (hx : a.eval x = .slice A m c) (hl : ys.length = m * size)
    (hr : 0 < m → ∃ ad, A = some ad ∧ ∀ j u, ys[j]? = some u → w.cell? (ad.add j) = some u) (h1 : ∀ u ∈ ys, u.oneCell' = true)
    (h63 : n + m ≤ maxLen) (hbytes : (n + m) * bytes ≤ 140737488355328) (hbase : base ≤ w.heap.size)
    (h : ∀ v' w', w'.ownsRow base e size v' (n + m) (xs ++ ys) → w.grownBy w' v.ownBlock → (v'.ownBlock = v.ownBlock ∨ v'.ownBlock = some w.heap.size) → K (a.put o.dst v') w') :
    if Region.wanted o (yielded ops a.tmps) = true then Oper.wp P o a w K Q else E := by
  rw [if_pos hw]
  obtain ⟨v', w', hrun, h2, h3, h4⟩ := run_push T o.type base v n xs hown A m c ys hl hr h1 h63 hbytes hbase
  unfold Oper.wp execOp
  simp only [ho, resolve, invoke, builtin, Sem.run_bind, Sem.run_pure, Result.andThen_ok, List.map_toArray, List.map_cons, List.map_nil, hs, hx, hrun]
  exact h v' w' h2 h3 h4
theorem rd_two {w : World} {base c : Nat} {A : Option Addr} {xs ys zs : List Int} (h : w.ownsRow base 5 1 (.slice A 124 c) 124 (xs.map U ++ ys.map U)) (hT : xs ++ ys = zs) (hl : zs.length = 124) : Rd U w A zs := by
  rw [← List.map_append, hT] at h
  exact Rd.of_own (by rw [hl]; exact h)
/-- Bytes that lie in a sector, from a place on. -/
theorem cells_sect {W : World} {g : Nat} {t : TypeId} {S : List Int} {rest : List Value} (h : Blk W g t (encS S rest)) (o m : Nat) : 0 < m → ∃ ad, some (⟨g, o, none⟩ : Addr) = some ad ∧ ∀ j u, (((S.drop o).take m).map U)[j]? = some u → W.cell? (ad.add j) = some u := fun _ => ⟨_, rfl, fun j u hu => by
    rw [List.getElem?_map] at hu
    cases hq : ((S.drop o).take m)[j]? with
    | none => rw [hq] at hu; cases hu
    | some x =>
      rw [hq] at hu
      simp at hu
      rw [List.getElem?_take] at hq
      split at hq
      · rw [List.getElem?_drop] at hq
        rw [← hu, add_plain]
        exact h.cell' (encS_byte hq)
      · cases hq⟩
/-- A guarded load that is wanted. -/
theorem wpList_load_want {Pr : Program} {ops : Array Oper} {rest : List Oper} {op : Oper} {a : Act} {w : World} {Q : Exit → Act → World → Prop} (hw : Region.wanted op (yielded ops a.tmps) = true) (ty : TypeId) (x : Operand) (ho : op.op = .load ty x)
    (b o : Nat) (hx : a.eval x = .pointer (some ⟨b, o, none⟩)) (cs : List Value) (d : TypeDesc) (hc : w.rangeAt b o cs)
    (hu : Pr.underlying ty = some d) (hd : d.isRow = true) (hi : (Pr.info? ty).map (·.size) = some cs.length)
    (h : wpList Pr ops Q rest (a.put op.dst (.agg cs.toArray)) w) : wpList Pr ops Q (op :: rest) a w :=
  wpList_value hw (v := .agg cs.toArray) (w' := w) (by
    unfold execOp
    simp only [ho, hx, Instr.loadAt, Instr.sureAddr, Sem.run_bind, Sem.run_pure, Result.andThen_ok, run_loadVar_mid w b o ty cs d hc hu hd hi]) h
/-- A sector is laid in a block of its own. -/
theorem new_sect (W : World) (Z : Array Value) (hZ : sectA (padL []) = Z) (S : List Int) (hl : S.length = 128) : (W.alloc (.cells Z 24)).there W.heap.size 0 (sectA S).size ∧
    Blk ((W.alloc (.cells Z 24)).setCells W.heap.size 0 (sectA S).toList) W.heap.size 24 (encS S []) ∧ Safe W ((W.alloc (.cells Z 24)).setCells W.heap.size 0 (sectA S).toList) := by
  subst hZ
  have hb : Blk (W.alloc (.cells (sectA (padL [])) 24)) W.heap.size 24 (sectA (padL [])) := Blk.new _ _ _
  refine ⟨hb.there (by rw [sectA_size, sectA_size, hl, padL_len (by simp)]; omega), ?_, ((But.refl (fun _ => False) W).alloc _).setCells _ _ (.inr (Nat.le_refl _))⟩
  rw [← sectA_enc]
  exact blk_sect hb (by rw [hl, padL_len (by simp)])
theorem sect_info {S : List Int} (hl : S.length = 128) : (Try.prog.info? 24).map (·.size) = some (S.map U).length ∧ (Try.prog.info? 24).map (·.size) = some (sectA S).size ∧ (sectA S).all (·.oneCell') = true :=
  ⟨by rw [sizeSect, List.length_map, hl], by rw [sizeSect, sectA_size, hl], all_oneCell_toArray (sect_one _)⟩
theorem rd_sect {W : World} {g : Nat} {B : List Int} (h : Blk W g 24 (encS (padL B) [])) : Rd U W (some ⟨g, 0, none⟩) B := fun _ => ⟨_, rfl, fun k x hk => by
  rw [add_plain, Nat.zero_add]
  exact h.cell' (encS_byte (by unfold padL; rw [List.getElem?_append_left (List.getElem?_eq_some_iff.1 hk).1]; exact hk))⟩
theorem or_one (k : Nat) (hk : k < 256) : ∃ d : Nat, bits .or .u8 (k : Int) 1 = d ∧ 1 ≤ d ∧ d < 256 := by
  have e2 : ∀ n : Nat, n < 256 → (BitVec.ofInt 8 (n : Int)).toNat = n := fun n h => by
    rw [BitVec.toNat_ofInt]; omega
  have e : bits .or .u8 (k : Int) 1 = IntKind.u8.wrap (((k ||| 1 : Nat)) : Int) := by
    show IntKind.u8.wrap (((BitVec.ofInt 8 (k : Int) ||| BitVec.ofInt 8 ((1 : Nat) : Int)).toNat : Nat) : Int) = _
    rw [BitVec.toNat_or, e2 _ hk, e2 _ (by omega)]
  have h1 : k ||| 1 < 2 ^ 8 := Nat.or_lt_two_pow (by omega) (by omega)
  have h2 : 1 ≤ k ||| 1 := Nat.right_le_or
  refine ⟨k ||| 1, ?_, h2, by omega⟩
  rw [e]
  simp [IntKind.wrap, IntKind.bits, IntKind.signed]
  omega
theorem rnum_part (g : Nat) (S : List Int) (o : Nat) (p : PartR) (w : World) (h : RS w g S o) (hp : GoodP p) (hr : p.raw = false) (hl : o + (encB p).length ≤ 120) (hs : segL S o (encB p).length = encB p) :
    Calls Try.prog 14 #[.pointer (some ⟨g, 0, none⟩), I p.wd] w fun e w' => e = .returned (.int .u64 p.num) ∧ RS w' g S (o + (encB p).length) ∧ But (· = g) w w' := by
  obtain ⟨h1, h2, h3⟩ := hp.num hr
  rw [encB_len hp] at hl hs ⊢
  have hN := rnum_yes g S o p.wd.toNat w h (by omega) (by omega) (by omega)
  have e : encB p = lowL p.wd.toNat p.num := by unfold encB; rw [if_neg (by rw [hr]; simp)]
  rw [Int.toNat_of_nonneg hp.w0, hs, e, leN_low _ _ h3] at hN
  exact hN
theorem rbytes_part (g : Nat) (S : List Int) (o : Nat) (p : PartR) (w : World) (h : RS w g S o) (hp : GoodP p) (hr : p.raw = true) (hl : o + (encB p).length ≤ 120) (hs : segL S o (encB p).length = encB p) :
    Calls Try.prog 13 #[.pointer (some ⟨g, 0, none⟩), I p.wd] w fun e w' => ∃ (A : Option Addr) (n c : Nat), e = .returned (.slice A n c) ∧ p.bs.length ≤ n ∧ n ≤ c ∧ c ≤ c ∧ Rd U w' A p.bs ∧ RS w' g S (o + (encB p).length) ∧ But (· = g) w w' := by
  have hw := hp.w0
  have hb := hp.raw hr
  have hlen := encB_len hp
  rw [hlen] at hl hs ⊢
  have hN := rbytes_yes g S o p.wd.toNat w h (by omega) (by omega)
  have e : encB p = p.bs ++ List.replicate (p.wd.toNat - p.bs.length) 0 := by unfold encB; rw [if_pos hr]
  rw [Int.toNat_of_nonneg hp.w0, hs] at hN
  refine hN.mono ?_
  rintro _ w' ⟨A, c, rfl, h1, h2, h3, h4⟩
  refine ⟨A, _, c, rfl, hb, h1, Nat.le_refl _, ?_, h3, h4⟩
  have h5 : Rd U w' A (encB p) := Rd.of_own (enc := U) (by rw [hlen]; exact h2)
  have h6 := h5.take p.bs.length
  rw [e, List.take_left'] at h6
  · exact h6
  · rfl
/-- What holds ahead of part i. -/
structure LI (w wr : World) (g base : Nat) (vp : Value) (i : Nat) (P : List PartR) (B : List Int) : Prop where
  ws : WS wr g B
  own : wr.ownsRow base 31 4 vp P.length (P.flatMap encV)
  eB : B = P.flatMap encB
  good : ∀ p ∈ P, GoodP p ∧ p.In w
  len : B.length ≤ 120
  pl : P.length ≤ i
  safe : Safe w wr
  gb : g < base
  wg : w.heap.size ≤ g
  bw : base ≤ wr.heap.size
section
variable {w wr w' : World} {g base : Nat} {vp vp' : Value} {i : Nat} {P : List PartR} {B : List Int} {p : PartR}
theorem LI.skip (h : LI w wr g base vp i P B) (hs : Safe wr w') : LI w w' g base vp (i + 1) P B :=
  ⟨h.ws.safe hs, own_safe h.own hs, h.eB, h.good, h.len, by have := h.pl; omega, h.safe.trans hs, h.gb, h.wg, Nat.le_trans h.bw hs.size⟩
theorem LI.acc (h : LI w wr g base vp i P B) (hp : GoodP p) (hin : p.In w) (hl : (B.length : Int) + p.wd ≤ 120) (ho : w'.ownsRow base 31 4 vp' (P.length + 1) (P.flatMap encV ++ encV p)) (hw : WS w' g (B ++ encB p)) (hs : Safe w w') (hz : wr.heap.size ≤ w'.heap.size) :
    LI w w' g base vp' (i + 1) (P ++ [p]) (B ++ encB p) := by
  have hw0 := hp.w0
  refine ⟨hw, by simpa using ho, by rw [h.eB]; simp, fun q hq => ?_, by rw [List.length_append, encB_len hp]; omega, by have := h.pl; simp; omega, hs, h.gb, h.wg, Nat.le_trans h.bw hz⟩
  rw [List.mem_append, List.mem_singleton] at hq
  rcases hq with hq | rfl
  · exact h.good q hq
  · exact ⟨hp, hin⟩
theorem LI.done (h : LI w wr g base vp i P B) {wa w2 w3 : World} (hsa : Safe wr wa) (hb2 : But (fun k => some k = vp.ownBlock) wa w2) (ho2 : w2.ownsRow base 31 4 vp' (P.length + 1) (P.flatMap encV ++ encV p))
    (hp : GoodP p) (hin : p.In w) (hl : (B.length : Int) + p.wd ≤ 120) (hw3 : WS w3 g (B ++ encB p)) (hb3 : But (· = g) w2 w3) : LI w w3 g base vp' (i + 1) (P ++ [p]) (B ++ encB p) := by
  have h1 : Safe w w2 := (h.safe.trans hsa).step hb2 (fun k hk => .inr (by have := (h.own.lt k hk.symm).1; have := h.gb; have := h.wg; omega))
  have h2 : Safe w w3 := h1.step hb3 (fun k hk => .inr (by have : k = g := hk; have := h.wg; omega))
  exact h.acc hp hin hl (own_but_kept ho2 hb3 (fun k hk e => by have := (ho2.lt k hk).1; have : k = g := e; have := h.gb; omega)) hw3 h2 (Nat.le_trans hsa.size (Nat.le_trans hb2.size hb3.size))
theorem LI.ws2 (h : LI w wr g base vp i P B) {wa w2 : World} (hsa : Safe wr wa) (hb2 : But (fun k => some k = vp.ownBlock) wa w2) : WS w2 g B :=
  (h.ws.safe hsa).but hb2 (fun e => by have := (h.own.lt g e.symm).1; have := h.gb; omega)
theorem LI.safe2 (h : LI w wr g base vp i P B) {wa w2 : World} (hsa : Safe wr wa) (hb2 : But (fun k => some k = vp.ownBlock) wa w2) : Safe w w2 :=
  (h.safe.trans hsa).step hb2 (fun k hk => .inr (by have := (h.own.lt k hk.symm).1; have := h.gb; have := h.wg; omega))
theorem acc_len (hp : GoodP p) : ((B ++ encB p).length : Int) = (B.length : Int) + p.wd := by
  have := hp.w0
  rw [List.length_append, encB_len hp]; omega
theorem LI.seg (h : LI w wr g base vp i P B) {j : Nat} (hj : P[j]? = some p) : segL (padL B) ((P.take j).flatMap encB).length (encB p).length = encB p ∧ ((P.take j).flatMap encB).length + (encB p).length = ((P.take (j + 1)).flatMap encB).length ∧ ((P.take (j + 1)).flatMap encB).length ≤ B.length := by
  have hlt := (List.getElem?_eq_some_iff.1 hj).1
  have e1 : P.take (j + 1) = P.take j ++ [p] := by rw [List.take_add_one, hj]; rfl
  have e2 : P = P.take (j + 1) ++ P.drop (j + 1) := (List.take_append_drop ..).symm
  have e3 : B = (P.take j).flatMap encB ++ (encB p ++ (P.drop (j + 1)).flatMap encB) := by
    rw [h.eB]
    conv => lhs; rw [e2, e1]
    simp
  refine ⟨?_, by rw [e1]; simp, by rw [e1, e3]; simp⟩
  unfold segL padL
  rw [e3]
  simp
theorem LI.u8 (h : LI w wr g base vp i P B) : ∀ x ∈ B, 0 ≤ x ∧ x < 256 := by
  intro x hx
  rw [h.eB, List.mem_flatMap] at hx
  obtain ⟨p, hp, hx⟩ := hx
  exact encB_u8 (h.good p hp).2 x hx
end
end Go.Proofs.Ytgbdnghbamaecaa
