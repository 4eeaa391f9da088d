/- Processes: Exit. -/
import Derived.Test.YtlojadpbdbhmiaaXf
import Derived.Test.YtlojadpbdbhmiaaXk
namespace Go.Proofs.Ytlojadpbdbhmiaa
open Go.RowKit
set_option linter.unusedSimpArgs false
set_option linter.unusedVariables false

def deadR (pid code : Int) (p : PR) : PR := ⟨pid, p.parent, 3, code % 256, 0, false⟩
def adopt (pid : Int) (q : PR) : PR := if q.parent = pid then { q with parent := 1 } else q
theorem pre_step {α : Type} (f : α → α) {qs rs : List α} {j : Nat} {q : α} (h : rs = (qs.take j).map f ++ qs.drop j) (hq : qs[j]? = some q) : rs[j]? = some q ∧ rs.set j (f q) = (qs.take (j + 1)).map f ++ qs.drop (j + 1) ∧ rs.length = qs.length := by
  have hj := (List.getElem?_eq_some_iff.1 hq).1
  have e : qs[j] = q := by rw [List.getElem?_eq_getElem hj] at hq; injection hq
  have hl : ((qs.take j).map f).length = j := by rw [List.length_map, List.length_take]; omega
  subst h
  rw [List.drop_eq_getElem_cons hj, e]
  refine ⟨?_, ?_, ?_⟩
  · rw [List.getElem?_append_right (by omega), hl, Nat.sub_self]; rfl
  · rw [List.set_append_right _ _ (by omega), hl, Nat.sub_self, List.take_succ_eq_append_getElem hj, e, List.map_append, List.append_assoc]; rfl
  · rw [List.length_append, hl, List.length_cons, List.length_drop]; omega
def exitM (ps : List PR) (pid code : Int) : List PR × Int :=
  if otherP ps pid ≠ 0 then (ps, otherP ps pid) else match oneP ps pid with
  | some k => (((ps.set k (deadR pid code (ps.getD k zeroR))).map (adopt pid)).filter (fun p => !bad1 p), 0)
  | none => (ps, 18)
set_option maxRecDepth 100000 in
set_option maxHeartbeats 400000 in
theorem pexit_any (gt B : Nat) (v : Value) (ps : List PR) (most last now pid code : Int) (w : World) (h : TW w gt B v ps most last now) (hn : 0 < ps.length) (hc1 : code ≤ 9223372036854775807) (hc2 : -9223372036854775808 ≤ code) :
    Calls Try.prog 46 #[.pointer (some ⟨gt, 0, none⟩), .int .i64 pid, .int .i64 code] w fun e w' => e = .returned (I (exitM ps pid code).2) ∧ TRet w w' gt B v (exitM ps pid code).1 most last now := by
  obtain ⟨g, c, rfl, hgl, hBg⟩ := h.form hn
  have hoth := pother_any gt B g c ps most last now pid w h
  by_cases hl : otherP ps pid ≠ 0
  · have e : exitM ps pid code = (ps, otherP ps pid) := by unfold exitM; rw [if_pos hl]
    rw [e]
    have hb : (otherP ps pid != 0) = true := by simpa using hl
    have H := Lib.hid h
    generalize otherP ps pid = L at *
    have HL := Lib.hid hoth
    clear e hl h hoth
    go_enter Try.func46, Try.ntmps46
    go_wp2_with fail
    refine (HL.out).mono ?_
    rintro _ w1 ⟨rfl, hs1⟩
    go_wp2
    go_ret
    exact ⟨rfl, TRet.same H.out hs1⟩
  · have hl0 : otherP ps pid = 0 := by omega
    rw [hl0] at hoth
    obtain ⟨k, p, hk, hp, hpid, hlt, hst, h1, hgd⟩ := otherP_one hl0
    have e : exitM ps pid code = (((ps.set k (deadR pid code p)).map (adopt pid)).filter (fun p => !bad1 p), 0) := by unfold exitM; rw [if_neg hl, hk]; simp only [hgd]
    rw [e]
    have hone := fun W (hW : Safe w W) => one_yes gt B g c ps most last now pid k W (h.safe hW) hk
    have hcs := fun W (hW : Safe w W) => (h.safe hW).cells hp
    have hfr := fun W (hW : Safe w W) => (h.safe hW).frz hp
    have HL := Lib.hid hoth
    have HO := Lib.hid hone
    have HCS := Lib.hid hcs
    have HFR := Lib.hid hfr
    have htt := fun W (hW : Safe w W) => h.safe hW
    have HTT := Lib.hid htt
    clear htt e hl h hoth hl0 hk hp hpid hgd hone hcs hfr h1 hst
    go_enter Try.func46, Try.ntmps46
    go_wp2_with fail
    refine (HL.out).mono ?_
    rintro _ w1 ⟨rfl, hs1⟩
    go_wp2_with fail
    refine (HO.out _ hs1).mono ?_
    rintro _ w2 ⟨rfl, hs2⟩
    obtain ⟨d0, d1, d2, d3, d4, d5⟩ := HCS.out _ (hs1.trans hs2)
    have HS := Lib.hid (hs1.trans hs2)
    have hput := ownf_put encR_len (HTT.out _ (hs1.trans hs2)).ho hlt (deadR pid code p)
    have hth : w2.there g (k * 6) (#[I pid, I p.parent, I 3, I (code % 256), I 0, .bool false] : Array Value).size := hput.1
    have hsz : (Try.prog.info? 33).map (·.size) = some (#[I pid, I p.parent, I 3, I (code % 256), I 0, .bool false] : Array Value).size := by kernel_rfl
    have hon : (#[I pid, I p.parent, I 3, I (code % 256), I 0, .bool false] : Array Value).all (·.oneCell') = true := all_oneCell_toArray (encR_one (deadR pid code p))
    have HTH := Lib.hid hth
    have HSZ := Lib.hid hsz
    have HON := Lib.hid hon
    have hmask := mask255 code
    have hT2 := HTT.out _ (hs1.trans hs2)
    obtain ⟨W3, hW3⟩ : ∃ W3, W3 = w2.setCells g (k * 6) (#[I pid, I p.parent, I 3, I (code % 256), I 0, .bool false] : Array Value).toList := ⟨_, rfl⟩
    obtain ⟨qs, hqs⟩ : ∃ qs, qs = ps.set k (deadR pid code p) := ⟨_, rfl⟩
    have hql : qs.length = ps.length := by rw [hqs, List.length_set]
    have hgg := hT2.ne (k := g) rfl
    have hT3 : TW W3 gt B (.slice (some ⟨g, 0, none⟩) qs.length c) qs most last now := by
      refine ⟨?_, ?_, by rw [hql]; exact hT2.len⟩
      · rw [hql, hW3]; exact hT2.hp.farAll _ (fun e => hgg e.symm) _
      · rw [hql, hW3, hqs]; exact hput.2
    have hB3 : But (· = g) w W3 := by rw [hW3]; exact (Safe.but (hs1.trans hs2)).setCells _ _ (.inl rfl)
    have e0 : W3.cell? ⟨gt, 0, none⟩ = some (.slice (some ⟨g, 0, none⟩) qs.length c) := hT3.hp.cell' (i := 0) rfl
    have HW3 := Lib.hid hW3
    have HT3 := Lib.hid hT3
    have HB3 := Lib.hid hB3
    have HQS := Lib.hid hqs
    have hq16 := hT3.len
    clear hs1 hs2 HL HO HCS HFR hput hth hsz hon hT2 hW3 hT3 hB3 hgg hqs HTT
    go_wp2_with (refine wpList_store_mid rfl 33 (.tmp 28) (.tmp 27) rfl g (k * 6) _ rfl rfl ?h1 ?h2 ?h3 ?hk; (case h1 => with_reducible exact HTH.out); (case h2 => with_reducible exact HSZ.out); (case h3 => with_reducible exact HON.out); (rw [← HW3.out]))
    go_loopw [34] (fun x wr => ∃ (j : Nat) (rs : List PR), j ≤ qs.length ∧ x = .int .i64 j ∧ rs = (qs.take j).map (adopt pid) ++ qs.drop j ∧ TW wr gt B (.slice (some ⟨g, 0, none⟩) rs.length c) rs most last now ∧ But (· = g) w wr) (fun x _ => qs.length - (intOf x).toNat)
    case atStart => exact ⟨0, qs, by omega, rfl, by simp, HT3.out, HB3.out⟩
    case round =>
      obtain ⟨j, rs, hj, rfl, hrs, hTj, hSj⟩ := hrel
      obtain ⟨wj, rfl⟩ : ∃ wj : World, wj = wr := ⟨_, rfl⟩
      by_cases hlt2 : j < qs.length
      · obtain ⟨q, hq⟩ : ∃ q, qs[j]? = some q := ⟨_, List.getElem?_eq_getElem hlt2⟩
        obtain ⟨hr1, hr2, hr3⟩ := pre_step (adopt pid) hrs hq
        obtain ⟨x0, x1, x2, x3, x4, x5⟩ := hTj.cells hr1
        have f1 := hTj.frz hr1 (j * 6 + 1)
        have y0 : wj.cell? ⟨gt, 0, none⟩ = some (.slice (some ⟨g, 0, none⟩) rs.length c) := hTj.hp.cell' (i := 0) rfl
        by_cases hpar : q.parent = pid
        · have hb : (q.parent == pid) = true := by simpa using hpar
          have ea : adopt pid q = { q with parent := 1 } := by unfold adopt; rw [if_pos hpar]
          have hT4 := hTj.setc (p' := { q with parent := 1 }) (u := I 1) hr1 (j := 1) (by omega) rfl
          rw [ea] at hr2
          have hB4 := hSj.setCell (p := ⟨g, j * 6 + 1, none⟩) (.inl rfl) (I 1)
          have HT4 := Lib.hid hT4
          have HB4 := Lib.hid hB4
          have HR2 := Lib.hid hr2
          clear hT4 hB4 hr2 hTj hSj hrs hq hr1 ea hpar
          go_wp2_with fail
          go_roundw
          case rel => exact ⟨j + 1, rs.set j { q with parent := 1 }, by omega, by go_num, HR2.out, HT4.out, HB4.out⟩
          case measure => simp [intOf]; omega
        · have hb : (q.parent == pid) = false := by simpa using hpar
          have ea : adopt pid q = q := by unfold adopt; rw [if_neg hpar]
          rw [ea, set_same' hr1] at hr2
          have HT4 := Lib.hid hTj
          have HB4 := Lib.hid hSj
          have HR2 := Lib.hid hr2
          clear hr2 hTj hSj hrs hq hr1 ea hpar
          go_wp2_with fail
          go_roundw
          case rel => exact ⟨j + 1, rs, by omega, by go_num, HR2.out, HT4.out, HB4.out⟩
          case measure => simp [intOf]; omega
      · obtain rfl : j = qs.length := by omega
        have hrr : rs = qs.map (adopt pid) := by rw [hrs, List.take_length, List.drop_length, List.append_nil]
        have hrl : rs.length = qs.length := by rw [hrr, List.length_map]
        have y0 : wj.cell? ⟨gt, 0, none⟩ = some (.slice (some ⟨g, 0, none⟩) rs.length c) := hTj.hp.cell' (i := 0) rfl
        obtain ⟨g', c', cur, hv, hbb, hBB, hnn, hmm, hss, htt⟩ := ownf_open encR_len hTj.ho (by omega)
        injection hv with e1 e2 e3
        injection e1 with e1
        injection e1 with e1
        subst e1 e3
        have hdel := pdelf_any 81 bad1 B g c rs wj hTj.ho hTj.len (by omega) hmm hnn (fun args W => by go_simp) (fun p W => exit1_any p W)
        have HDEL := Lib.hid hdel
        have HTJ := Lib.hid hTj
        have HSJ := Lib.hid hSj
        have HRR := Lib.hid hrr
        have hne := hTj.ne (k := g) rfl
        clear hdel hTj hSj hrr hrs hBB hss htt hrl
        go_wp2_with fail
        refine (HDEL.out).mono ?_
        rintro _ w5 ⟨rfl, ho5, hs5⟩
        have hp5 := HTJ.out.hp.but hs5 (fun e => hne e.symm)
        have z0 : w5.frozen? ⟨gt, 0, none⟩ = false := hp5.frozen 0
        have z1 : w5.cell? ⟨gt, 0, none⟩ = some (.slice (some ⟨g, 0, none⟩) rs.length c) := hp5.cell' (i := 0) rfl
        have hlf : (rs.filter (fun p => !bad1 p)).length ≤ 16 := Nat.le_trans (List.length_filter_le _ _) HTJ.out.len
        rw [HQS.out] at HRR
        generalize hos : rs.filter (fun p => !bad1 p) = os at *
        have HOS := Lib.hid hos
        clear hos
        have HO5 := Lib.hid ho5
        have HP5 := Lib.hid hp5
        have HS5 := Lib.hid (HSJ.out.trans hs5)
        clear ho5 hp5 hs5
        go_wp2_with fail
        go_ret
        rw [← HRR.out, HOS.out]
        refine ⟨rfl, .slice (some ⟨g, 0, none⟩) os.length c, ⟨HP5.out.set 0 _, own_but_kept HO5.out ((But.refl (· = gt) _).setCell (p := ⟨gt, 0, none⟩) (.inl rfl) _) (fun k hk e => ?_), hlf⟩, ?_, fun k hk => .inl hk⟩
        · have : g = k := by simpa [Value.ownBlock] using hk
          exact hne (this.trans e)
        · exact ((HS5.out.mono (fun k _ e => (Or.inr (by rw [show k = g from e]; rfl) : k = gt ∨ _))).setCell (p := ⟨gt, 0, none⟩) (.inl (.inl rfl)) _)
end Go.Proofs.Ytlojadpbdbhmiaa
