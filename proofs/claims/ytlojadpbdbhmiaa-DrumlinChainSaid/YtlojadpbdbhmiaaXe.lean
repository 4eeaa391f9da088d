/- Processes: clear, DeleteFunc. -/
import Derived.Test.YtlojadpbdbhmiaaXd
namespace Go.Proofs.Ytlojadpbdbhmiaa
open Go.RowKit
set_option linter.unusedSimpArgs false
set_option linter.unusedVariables false

theorem mem_zeroCells {z : Array Value} {n : Nat} {u : Value} (h : u ∈ (Builtin.zeroCells z n).toList) : u ∈ z.toList := by
  unfold Builtin.zeroCells at h
  simp only [Array.toList_map, List.mem_map, Array.mem_toList_iff, Array.mem_range] at h
  obtain ⟨i, hi, rfl⟩ := h
  have hp : 0 < z.size := by
    rcases Nat.eq_zero_or_pos z.size with e | e
    · rw [e] at hi; omega
    · exact e
  have hlt : i % z.size < z.size := Nat.mod_lt _ hp
  rw [getElem!_pos z (i % z.size) hlt]
  exact Array.mem_toList_iff.2 (Array.getElem_mem hlt)
/-- clear, on a part of a row. -/
theorem run_clear {P : Program} {t e : TypeId} {z : Value} {size bytes : Nat} (T : SlT P t e z size bytes) (h1 : ∀ u ∈ z.cells.toList, u.oneCell' = true) (ty : TypeId) (w : World) (g o n c : Nat) (hn : 0 < n) (ht : w.there g o (n * size)) :
    (Builtin.clear_ #[t] ty #[.slice (some ⟨g, o, none⟩) n c]).run P w = .ok (.tuple #[]) (w.setCells g o (Builtin.zeroCells z.cells n).toList) := by
  obtain ⟨i, hi, hz0, hz1, hz2⟩ := info_parts T.info
  have hs : (Builtin.zeroCells z.cells n).toList.length = n * size := by rw [Array.length_toList, size_zeroCells, T.zs]
  have := run_storeCells_cells (P := P) g o (Builtin.zeroCells z.cells n).toList 0 w (fun j hj => by simpa using (ht j (by rw [hs] at hj; exact hj)).1) (fun j hj => by simpa using (ht j (by rw [hs] at hj; exact hj)).2) (fun v hv => h1 v (mem_zeroCells hv))
  simp only [Nat.add_zero] at this
  obtain ⟨k, rfl⟩ : ∃ k, n = k + 1 := ⟨n - 1, by omega⟩
  simp [Builtin.clear_, run_underlying T.ht, zeroValue, typeInfo, hi, hz0, this]
/-- The first m elements of a row of one's own, whatever is laid behind them. -/
theorem ownf_tail {α : Type} {f : α → List Value} {s : Nat} {w : World} {base c g : Nat} {e : TypeId} {l : List α} (hf : ∀ x, (f x).length = s) (h : w.ownsRow base e s (.slice (some ⟨g, 0, none⟩) l.length c) l.length (l.flatMap f)) {m : Nat} (hm : m ≤ l.length) (hl : 0 < l.length) :
    w.there g (m * s) ((l.length - m) * s) ∧ ∀ vs : List Value, vs.length = (l.length - m) * s → (w.setCells g (m * s) vs).ownsRow base e s (.slice (some ⟨g, 0, none⟩) m c) m ((l.take m).flatMap f) := by
  obtain ⟨g', c', cur, hv, hb, hB, hn, hm', hs, ht⟩ := ownf_open hf h hl
  injection hv with e1 e2 e3
  injection e1 with e1
  injection e1 with e1
  subst e1 e3
  have h5 : m * s + (l.length - m) * s = l.length * s := by rw [← Nat.add_mul]; congr 1; omega
  have h5c : l.length * s ≤ c * s := Nat.mul_le_mul_right s hn
  refine ⟨hB.there (by omega), fun vs hvs => ⟨?_, .inr ⟨g, c, setAt cur (m * s) vs, rfl, hb, hB.setAll _ _, by omega, hm', by rw [setAt_size]; exact hs, ?_⟩⟩⟩
  · rw [fm_len hf, List.length_take, Nat.min_eq_left hm]
  · rw [setAt_list _ _ _ (by omega)]
    have hcl : cur.toList.length = c * s := by simpa using hs
    have hlt : (cur.toList.take (m * s)).length = m * s := by rw [List.length_take, hcl]; omega
    rw [List.append_assoc, List.take_append_of_le_length (by omega), List.take_take, Nat.min_self]
    have h6 : (l.flatMap f).take (m * s) = (l.take m).flatMap f := by
      have e0 : l.flatMap f = (l.take m).flatMap f ++ (l.drop m).flatMap f := by rw [← List.flatMap_append, List.take_append_drop]
      rw [e0, List.take_append_of_le_length (by rw [fm_len hf, List.length_take, Nat.min_eq_left hm]; exact Nat.le_refl _), List.take_of_length_le (by rw [fm_len hf, List.length_take, Nat.min_eq_left hm]; exact Nat.le_refl _)]
    rw [← h6, ← ht, List.take_take]
    congr 1
    have : m * s ≤ l.length * s := Nat.mul_le_mul_right s hm
    omega
def bad1 (p : PR) : Bool := p.state == 3 && p.parent == 1
set_option maxRecDepth 100000 in
set_option maxHeartbeats 1000000 in
theorem exit1_any (p : PR) (w : World) : Calls Try.prog 81 #[aggR p] w fun e w' => e = .returned (.bool (bad1 p)) ∧ Safe w w' := by
  by_cases h2 : p.state = 3
  · have hb : (p.state == 3) = true := by simpa using h2
    cases h3 : (p.parent == 1)
    all_goals
      have e : bad1 p = (p.parent == 1) := by unfold bad1; rw [hb]; rfl
      rw [e, h3]
      clear e h2
      go_enter Try.func81, Try.ntmps81
      go_wp2_with fail
      go_ret
      exact ⟨rfl, (But.refl _ _).alloc _⟩
  · have hb : (p.state == 3) = false := by simpa using h2
    have e : bad1 p = false := by unfold bad1; rw [hb]; rfl
    rw [e]
    clear e h2
    go_enter Try.func81, Try.ntmps81
    go_wp2_with fail
    go_ret
    exact ⟨rfl, (But.refl _ _).alloc _⟩
/-- What DeleteFunc's loop keeps: m elements kept of the first j, the rest as it was. -/
structure DF (f : PR → Bool) (ps qs : List PR) (m j : Nat) : Prop where
  len : qs.length = ps.length
  lt : m < j
  le : j ≤ ps.length
  kept : qs.take m = (ps.take j).filter (fun p => !f p)
  rest : ∀ k, j ≤ k → qs[k]? = ps[k]?
theorem DF.start {f : PR → Bool} {ps : List PR} {k : Nat} (h : ps.findIdx? f = some k) : DF f ps ps k (k + 1) := by
  obtain ⟨o, h1, h2, h3, h4⟩ := findP_get h
  refine ⟨rfl, by omega, h3, ?_, fun _ _ => rfl⟩
  have e : ps[k] = o := by rw [List.getElem?_eq_getElem h3] at h1; injection h1
  rw [List.take_succ_eq_append_getElem h3, e, List.filter_append]
  have : (ps.take k).filter (fun p => !f p) = ps.take k := by
    rw [List.filter_eq_self]
    intro q hq
    obtain ⟨i, hi⟩ := List.getElem?_of_mem hq
    have hik : i < k := by have := (List.getElem?_eq_some_iff.1 hi).1; rw [List.length_take] at this; omega
    rw [List.getElem?_take_of_lt hik] at hi
    rw [h4 i q hik hi]; rfl
  rw [this]
  simp [h2]
theorem DF.keep {f : PR → Bool} {ps qs : List PR} {m j : Nat} {p : PR} (h : DF f ps qs m j) (hp : ps[j]? = some p) (hf : f p = false) : DF f ps (qs.set m p) (m + 1) (j + 1) := by
  have hj := (List.getElem?_eq_some_iff.1 hp).1
  have e : ps[j] = p := by rw [List.getElem?_eq_getElem hj] at hp; injection hp
  have hl := h.len
  have hlt := h.lt
  refine ⟨by rw [List.length_set]; exact h.len, by omega, hj, ?_, fun k hk => by rw [List.getElem?_set_ne (by omega)]; exact h.rest k (by omega)⟩
  rw [List.take_succ_eq_append_getElem hj, e, List.filter_append, ← h.kept, List.take_succ_eq_append_getElem (by rw [List.length_set]; omega), List.getElem_set_self, List.take_set_of_le (Nat.le_refl m)]
  simp [hf]
theorem DF.drop {f : PR → Bool} {ps qs : List PR} {m j : Nat} {p : PR} (h : DF f ps qs m j) (hp : ps[j]? = some p) (hf : f p = true) : DF f ps qs m (j + 1) := by
  have hj := (List.getElem?_eq_some_iff.1 hp).1
  have e : ps[j] = p := by rw [List.getElem?_eq_getElem hj] at hp; injection hp
  have hlt := h.lt
  refine ⟨h.len, by omega, hj, ?_, fun k hk => h.rest k (by omega)⟩
  rw [List.take_succ_eq_append_getElem hj, e, List.filter_append, ← h.kept]
  simp [hf]
theorem DF.done {f : PR → Bool} {ps qs : List PR} {m : Nat} (h : DF f ps qs m ps.length) : qs.take m = ps.filter (fun p => !f p) := by
  have := h.kept
  rwa [List.take_length] at this
theorem filter_none {f : PR → Bool} {ps : List PR} (h : ps.findIdx? f = none) : ps.filter (fun p => !f p) = ps := by
  rw [List.findIdx?_eq_none_iff] at h
  rw [List.filter_eq_self]
  intro q hq
  rw [h q hq]; rfl
set_option maxRecDepth 100000 in
set_option maxHeartbeats 600000 in
theorem pdelf_any (F : FuncId) (f : PR → Bool) (B g c : Nat) (ps : List PR) (w : World) (ho : w.ownsRow B 33 6 (.slice (some ⟨g, 0, none⟩) ps.length c) ps.length (ps.flatMap encR)) (hlen : ps.length ≤ 16) (h0 : 0 < ps.length) (hc : c ≤ maxLen) (hpc : ps.length ≤ c)
    (hE : ∀ (args : Array Value) (W : World), (callFunc F args).run Try.prog W = .ok (.enter F args) W)
    (hF : ∀ p W, Calls Try.prog F #[aggR p] W fun e w' => e = .returned (.bool (f p)) ∧ Safe W w') :
    Calls Try.prog 80 #[.slice (some ⟨g, 0, none⟩) ps.length c, .func (.func F) #[] #[]] w fun e w' => e = .returned (.slice (some ⟨g, 0, none⟩) (ps.filter (fun p => !f p)).length c) ∧
      w'.ownsRow B 33 6 (.slice (some ⟨g, 0, none⟩) (ps.filter (fun p => !f p)).length c) (ps.filter (fun p => !f p)).length ((ps.filter (fun p => !f p)).flatMap encR) ∧ But (· = g) w w' := by
  have HX := Lib.hid (pidx0_any F f B g c ps w ho hlen hE (fun p W _ => hF p W))
  have HF := Lib.hid hF
  have HO := Lib.hid ho
  have hgl : g < w.heap.size := (own_blk6 ho rfl).2.1
  clear hF ho
  cases hi : ps.findIdx? f with
  | none =>
    rw [hi, show ixP none = -1 from rfl] at HX
    rw [filter_none hi]
    clear hi
    go_enter Try.func80, Try.ntmps80
    go_wp2_with fail
    refine (HX.out).mono ?_
    rintro _ w1 ⟨rfl, hs1⟩
    have HS1 := Lib.hid hs1
    clear hs1
    go_wp2_with fail
    go_ret
    exact ⟨rfl, own_safe HO.out HS1.out, Safe.but HS1.out⟩
  | some k =>
    have HD := Lib.hid (DF.start hi)
    obtain ⟨_, _, _, hkl, _⟩ := findP_get hi
    rw [hi, show ixP (some k) = (k : Int) from rfl] at HX
    clear hi
    go_enter Try.func80, Try.ntmps80
    go_wp2_with fail
    refine (HX.out).mono ?_
    rintro _ w1 ⟨rfl, hs1⟩
    have HS1 := Lib.hid hs1
    clear hs1
    go_wp2_with fail
    go_loopw [5, 6] (fun a b wr => ∃ (m j : Nat) (qs : List PR), a = .int .i64 m ∧ b = .int .i64 j ∧ DF f ps qs m j ∧ wr.ownsRow B 33 6 (.slice (some ⟨g, 0, none⟩) qs.length c) qs.length (qs.flatMap encR) ∧ But (· = g) w wr) (fun _ b _ => ps.length - (intOf b).toNat)
    case atStart => exact ⟨k, k + 1, ps, rfl, by go_num, HD.out, own_safe HO.out HS1.out, Safe.but HS1.out⟩
    case round =>
      obtain ⟨m, j, qs, rfl, rfl, hD, hown, hS⟩ := hrel
      obtain ⟨wo, rfl⟩ : ∃ wo : World, wo = wr := ⟨_, rfl⟩
      have hl := hD.len
      have hmj := hD.lt
      have hjl := hD.le
      by_cases hlt : j < ps.length
      · obtain ⟨p, hp⟩ : ∃ p, ps[j]? = some p := ⟨_, List.getElem?_eq_getElem hlt⟩
        have hq : qs[j]? = some p := (hD.rest j (Nat.le_refl _)).trans hp
        obtain ⟨d0, d1, d2, d3, d4, d5⟩ := own6 hown hq
        have hcl := HF.out p (wo.alloc (.cells #[I p.pid, I p.parent, I p.state, I p.code, I p.until_, .bool p.killed] 33))
        have hk1 := hD.keep hp
        have hk2 := hD.drop hp
        have HK1 := Lib.hid hk1
        have HK2 := Lib.hid hk2
        have HCL := Lib.hid hcl
        have HOW := Lib.hid hown
        have HSS := Lib.hid hS
        clear hp hq hcl hk1 hk2 hown hS hD
        go_wp2_with fail
        refine (HCL.out).mono ?_
        rintro _ w2 ⟨rfl, hs2⟩
        obtain ⟨n0, n1, n2, n3, n4, n5⟩ := new6 wo w2 p hs2
        have hS2 : Safe wo w2 := ((But.refl _ wo).alloc (.cells (encR p).toArray 33)).trans hs2
        have HS2 := Lib.hid hS2
        clear hs2 hS2
        cases hf : f p
        · have hput := ownf_put encR_len (own_safe HOW.out HS2.out) (k := m) (by omega) p
          have hth : w2.there g (m * 6) (#[I p.pid, I p.parent, I p.state, I p.code, I p.until_, .bool p.killed] : Array Value).size := hput.1
          have HTH := Lib.hid hth
          clear hth
          have hsz : (Try.prog.info? 33).map (·.size) = some (#[I p.pid, I p.parent, I p.state, I p.code, I p.until_, .bool p.killed] : Array Value).size := by kernel_rfl
          have HSZ := Lib.hid hsz
          clear hsz
          have hon : (#[I p.pid, I p.parent, I p.state, I p.code, I p.until_, .bool p.killed] : Array Value).all (·.oneCell') = true := all_oneCell_toArray (encR_one p)
          have HON := Lib.hid hon
          clear hon
          have hpu := hput.2
          rw [show encR p = (encR p).toArray.toList from rfl] at hpu
          have HPU := Lib.hid hpu
          clear hpu
          have hbu : But (· = g) w (w2.setCells g (m * 6) (encR p).toArray.toList) := (HSS.out.trans (Safe.but HS2.out)).setCells _ _ (.inl rfl)
          have HBU := Lib.hid hbu
          have hk3 := HK1.out hf
          have HK3 := Lib.hid hk3
          clear hput hbu hk3
          go_wp2_with (refine wpList_store_mid rfl 33 (.tmp 33) (.tmp 32) rfl g (m * 6) #[I p.pid, I p.parent, I p.state, I p.code, I p.until_, .bool p.killed] rfl rfl (by with_reducible exact HTH.out) (by with_reducible exact HSZ.out) (by with_reducible exact HON.out) ?_)
          go_roundw
          case rel => refine ⟨_, _, _, _, _, _, _, _, _, _, _, _, _, _, _, _, _, _, _, _, _, _, _, ?_, rfl⟩; exact ⟨m + 1, j + 1, qs.set m p, by go_num, by go_num, HK3.out, by rw [List.length_set]; exact HPU.out, HBU.out⟩
          case measure => simp [intOf]; omega
        · go_wp2_with fail
          go_roundw
          case rel => refine ⟨_, _, _, _, _, _, _, _, _, _, _, _, _, _, _, _, _, _, _, _, _, _, _, ?_, rfl⟩; exact ⟨m, j + 1, qs, rfl, by go_num, HK2.out hf, own_safe HOW.out HS2.out, HSS.out.trans (Safe.but HS2.out)⟩
          case measure => simp [intOf]; omega
      · obtain rfl : j = ps.length := by omega
        obtain ⟨ht1, ht2⟩ := ownf_tail encR_len hown (m := m) (by omega) (by omega)
        have hcle := run_clear (P := Try.prog) slProcs (by intro u hu; exact encR_one _ u (by simpa [Value.cells] using hu))
        have hcl2 := fun ty => hcle ty wo g (m * 6) (qs.length - m) (c - m) (by omega) ht1
        rw [hl] at hcl2
        have hcl3 := hcl2 0
        clear hcle hcl2 ht1
        have HOW := Lib.hid hown
        have HT2 := Lib.hid ht2
        have HDN := Lib.hid hD.done
        have HSS := Lib.hid hS
        clear hown ht2 hS hD
        have hm : (ps.filter (fun p => !f p)).length = m := by rw [← HDN.out, List.length_take]; omega
        have HM := Lib.hid hm
        clear hm
        go_wp2_with fail
        go_ret
        refine ⟨by rw [HM.out]; rfl, ?_, HSS.out.setCells _ _ (.inl rfl)⟩
        rw [HM.out, ← HDN.out]
        exact HT2.out _ (by rw [Array.length_toList, size_zeroCells, hl]; rfl)
end Go.Proofs.Ytlojadpbdbhmiaa
