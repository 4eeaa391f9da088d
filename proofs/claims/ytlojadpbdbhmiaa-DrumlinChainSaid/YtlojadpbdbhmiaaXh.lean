/- Processes: Delete, Wait. -/
import Derived.Test.YtlojadpbdbhmiaaXg
namespace Go.Proofs.Ytlojadpbdbhmiaa
open Go.RowKit
set_option linter.unusedSimpArgs false
set_option linter.unusedVariables false

def gone (pid : Int) (p : PR) : Bool := p.parent == pid && p.state == 3
set_option maxRecDepth 100000 in
set_option maxHeartbeats 1000000 in
theorem wait1_any (a : Nat) (pid : Int) (p : PR) (w : World) (hc : Blk w a 3 #[I pid]) :
    Calls Try.prog 94 #[aggR p, .pointer (some ⟨a, 0, none⟩)] w fun e w' => e = .returned (.bool (gone pid p)) ∧ Safe w w' := by
  have c0 := hc.cell' (i := 0) rfl
  have hlt := hc.lt
  clear hc
  cases h2 : (p.parent == pid)
  · have e : gone pid p = false := by unfold gone; rw [h2]; rfl
    rw [e]
    clear e
    go_enter Try.func94, Try.ntmps94
    go_wp2_with fail
    go_ret
    exact ⟨rfl, (But.refl _ _).alloc _⟩
  · cases h3 : (p.state == 3)
    all_goals
      have e : gone pid p = (p.state == 3) := by unfold gone; rw [h2]; rfl
      rw [e, h3]
      clear e
      go_enter Try.func94, Try.ntmps94
      go_wp2_with fail
      go_ret
      exact ⟨rfl, (But.refl _ _).alloc _⟩
/-- One element is taken out: append(s[:i], s[i+1:]...), then the last one is cleared. -/
theorem own_del {w : World} {B g c : Nat} {ps : List PR} (h : w.ownsRow B 33 6 (.slice (some ⟨g, 0, none⟩) ps.length c) ps.length (ps.flatMap encR)) {i : Nat} (hi : i < ps.length) (ty : TypeId) (A : Nat) (a0 : Addr) (ha0 : 0 < ps.length - (i + 1) → a0 = ⟨g, (i + 1) * 6, none⟩) :
    ∃ W1 : World, (Builtin.append_ #[102, 102] ty #[.slice (some ⟨g, 0, none⟩) i c, .slice (some a0) (ps.length - (i + 1)) A]).run Try.prog w = .ok (.slice (some ⟨g, 0, none⟩) (i + (ps.length - (i + 1))) c) W1 ∧
      But (· = g) w W1 ∧ W1.there g ((ps.length - 1) * 6) 6 ∧ ∀ vs : List Value, vs.length = 6 → (W1.setCells g ((ps.length - 1) * 6) vs).ownsRow B 33 6 (.slice (some ⟨g, 0, none⟩) (ps.length - 1) c) (ps.length - 1) ((ps.eraseIdx i).flatMap encR) := by
  obtain ⟨g', c', cur, hv, hb, hB, hn, hm', hs, ht⟩ := ownf_open encR_len h (by omega)
  injection hv with e1 e2 e3
  injection e1 with e1
  injection e1 with e1
  subst e1 e3
  obtain ⟨inf, hinf, hz0, hz1, hz2⟩ := info_parts slProcs.info
  have hfl : (ps.flatMap encR).length = ps.length * 6 := fm_len encR_len ps
  have hnl : ((ps.drop (i + 1)).flatMap encR).length = (ps.length - (i + 1)) * 6 := by rw [fm_len encR_len, List.length_drop]
  have hcl : cur.toList.length = c * 6 := by simpa using hs
  have hcells : ∀ j u, ((ps.drop (i + 1)).flatMap encR)[j]? = some u → w.cell? (a0.add j) = some u := by
    intro j u hj
    have hjl := (List.getElem?_eq_some_iff.1 hj).1
    rw [ha0 (by omega)]
    rw [add_plain]
    refine hB.cell' ?_
    have e0 : ps.flatMap encR = (ps.take (i + 1)).flatMap encR ++ (ps.drop (i + 1)).flatMap encR := by rw [← List.flatMap_append, List.take_append_drop]
    have e1 : ((ps.take (i + 1)).flatMap encR).length = (i + 1) * 6 := by rw [fm_len encR_len, List.length_take, Nat.min_eq_left (by omega)]
    have e2 : (ps.flatMap encR)[(i + 1) * 6 + j]? = some u := by rw [e0, List.getElem?_append_right (by omega), e1, Nat.add_sub_cancel_left]; exact hj
    rw [← ht, List.getElem?_take, if_pos (by omega)] at e2
    simpa using e2
  have hone : ∀ u ∈ (ps.drop (i + 1)).flatMap encR, u.oneCell' = true := by
    intro u hu
    rw [List.mem_flatMap] at hu
    obtain ⟨x, _, hx⟩ := hu
    exact encR_one x u hx
  have hr := run_append_room (P := Try.prog) w 102 ty 33 inf slProcs.ht hinf g i c cur hB a0 (ps.length - (i + 1)) A _ (by rw [hz1]; exact hnl) hcells hone (by omega) (by rw [hz1, hnl]; omega)
  rw [hz1] at hr
  have hB1 := setRow_heap w g cur (cur.toList.take (i * 6) ++ (ps.drop (i + 1)).flatMap encR ++ cur.toList.drop (i * 6 + ((ps.drop (i + 1)).flatMap encR).length)).toArray 33 (0, 0) hB
  have hpre : cur.toList.take (i * 6) = (ps.take i).flatMap encR := by
    have e0 : ps.flatMap encR = (ps.take i).flatMap encR ++ (ps.drop i).flatMap encR := by rw [← List.flatMap_append, List.take_append_drop]
    have e1 : ((ps.take i).flatMap encR).length = i * 6 := by rw [fm_len encR_len, List.length_take, Nat.min_eq_left (by omega)]
    have e2 : (ps.flatMap encR).take (i * 6) = (ps.take i).flatMap encR := by rw [e0, ← e1]; exact List.take_left
    rw [← e2, ← ht, List.take_take, Nat.min_eq_left (by omega)]
  have her : (ps.take i).flatMap encR ++ (ps.drop (i + 1)).flatMap encR = (ps.eraseIdx i).flatMap encR := by rw [← List.flatMap_append, List.eraseIdx_eq_take_drop_succ]
  have hel : (ps.eraseIdx i).length = ps.length - 1 := List.length_eraseIdx_of_lt hi
  have hefl : ((ps.eraseIdx i).flatMap encR).length = (ps.length - 1) * 6 := by rw [fm_len encR_len, hel]
  have hsz : (cur.toList.take (i * 6) ++ (ps.drop (i + 1)).flatMap encR ++ cur.toList.drop (i * 6 + ((ps.drop (i + 1)).flatMap encR).length)).toArray.size = c * 6 := by
    simp only [List.size_toArray, List.length_append, List.length_take, List.length_drop, hnl, hcl]
    omega
  rw [hpre, her] at hB1 hsz hr
  refine ⟨_, hr, ⟨rfl, rfl, rfl, by simp [World.setRow], fun k _ hk => setRow_other w g k _ hk⟩, Blk.there hB1 (by rw [hsz]; omega), fun vs hvs => ⟨hefl, .inr ⟨g, c, _, rfl, hb, Blk.setAll vs _ hB1, by omega, hm', by rw [setAt_size]; exact hsz, ?_⟩⟩⟩
  rw [setAt_list _ _ _ (by rw [hsz]; omega), List.append_assoc, List.take_append_of_le_length (by rw [List.length_take]; simp only [List.length_append, hefl]; omega), List.take_take, Nat.min_self]
  rw [← hefl]
  exact List.take_left
/-- append, by the equation of its run. -/
theorem step_run {P : Program} {w w' : World} {t : TypeId} {ops : Array Oper} {o : Oper} {a : Act} {K : Act → World → Prop} {Q : Exit → Act → World → Prop} {E : Prop} (hgd : o.guard = none) (s x : Operand)
    (ho : o.op = .call { callee := .builtin .append, args := #[s, x], argTypes := #[t, t] }) (v u v' : Value) (hs : a.eval s = v) (hx : a.eval x = u)
    (hrun : (Builtin.append_ #[t, t] o.type #[v, u]).run P w = .ok v' w') (h : K (a.put o.dst v') w') :
    if Region.wanted o (yielded ops a.tmps) = true then Oper.wp P o a w K Q else E := by
  have hw : Region.wanted o (yielded ops a.tmps) = true := by simp [Region.wanted, hgd]
  rw [if_pos hw]
  unfold Oper.wp execOp
  simp only [ho, resolve, invoke, builtin, Sem.run_bind, Sem.run_pure, Result.andThen_ok, List.map_toArray, List.map_cons, List.map_nil, hs, hx, hrun]
  exact h
set_option maxRecDepth 100000 in
set_option maxHeartbeats 400000 in
theorem pdel_any (B g c : Nat) (ps : List PR) (i : Nat) (w : World) (h : w.ownsRow B 33 6 (.slice (some ⟨g, 0, none⟩) ps.length c) ps.length (ps.flatMap encR)) (hi : i < ps.length) (hlen : ps.length ≤ 16) (hpc : ps.length ≤ c) (hcm : c ≤ maxLen) :
    Calls Try.prog 95 #[.slice (some ⟨g, 0, none⟩) ps.length c, .int .i64 i, .int .i64 (i + 1)] w fun e w' => e = .returned (.slice (some ⟨g, 0, none⟩) (ps.length - 1) c) ∧ w'.ownsRow B 33 6 (.slice (some ⟨g, 0, none⟩) (ps.length - 1) c) (ps.length - 1) ((ps.eraseIdx i).flatMap encR) ∧ But (· = g) w w' := by
  have hic : i ≤ c := by omega
  have key : ∀ a0 : Addr, (if c = i + 1 then some (⟨g, 0, none⟩ : Addr) else some ⟨g, (i + 1) * 6, none⟩) = some a0 → (0 < ps.length - (i + 1) → a0 = ⟨g, (i + 1) * 6, none⟩) → Calls Try.prog 95 #[.slice (some ⟨g, 0, none⟩) ps.length c, .int .i64 i, .int .i64 (i + 1)] w fun e w' => e = .returned (.slice (some ⟨g, 0, none⟩) (ps.length - 1) c) ∧ w'.ownsRow B 33 6 (.slice (some ⟨g, 0, none⟩) (ps.length - 1) c) (ps.length - 1) ((ps.eraseIdx i).flatMap encR) ∧ But (· = g) w w' := by
    intro a0 ha ha0
    obtain ⟨W1, hr, hB1, hth, hfin⟩ := own_del (w := w.drew) (own_safe h (But.refl _ w).drew) hi 102 (c - (i + 1)) a0 ha0
    rw [show i + (ps.length - (i + 1)) = ps.length - 1 from by omega] at hr
    have hcle := run_clear (P := Try.prog) slProcs (by intro u hu; exact encR_one _ u (by simpa [Value.cells] using hu)) 0 W1 g ((ps.length - 1) * 6) (ps.length - (ps.length - 1)) (c - (ps.length - 1)) (by omega) (by rw [show ps.length - (ps.length - 1) = 1 from by omega, Nat.one_mul]; exact hth)
    have HB := Lib.hid hB1
    have HF := Lib.hid hfin
    have HR := Lib.hid hr
    clear hr hB1 hfin hth h ha0
    go_enter Try.func95, Try.ntmps95
    go_wp2_with fail
    have q1 : (0 : Int) ≤ (i : Int) + 1 := by omega
    have q2 : (i : Int) + 1 ≤ (ps.length : Int) := by omega
    go_region_law ((refine step_run (by rfl) (.tmp 22) (.tmp 25) (by rfl) _ _ _ (by rfl) (by rfl) HR.out ?_))
    go_wp2_with fail
    go_ret
    refine ⟨rfl, HF.out _ ?_, ((But.refl (· = g) w).drew.trans HB.out).setCells _ _ (.inl rfl)⟩
    rw [Array.length_toList, size_zeroCells, show ps.length - (ps.length - 1) = 1 from by omega]
    rfl
  by_cases hce : c = i + 1
  · exact key _ (if_pos hce) (fun hh => by omega)
  · exact key _ (if_neg hce) (fun _ => rfl)
end Go.Proofs.Ytlojadpbdbhmiaa
