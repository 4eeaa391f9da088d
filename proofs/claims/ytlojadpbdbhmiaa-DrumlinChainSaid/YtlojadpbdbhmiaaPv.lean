/- Pipes: bytes go in and come out. -/
import Derived.Test.YtlojadpbdbhmiaaPx
namespace Go.Proofs.Ytlojadpbdbhmiaa.Pip
open Go.RowKit
set_option linter.unusedSimpArgs false
set_option linter.unusedVariables false

theorem PW.drew {w : World} {gp gl : Nat} {ps : List Pp} (h : PW w gp gl ps) : PW w.drew gp gl ps := ⟨h.hp.drew, h.hl.drew, h.ok, h.len⟩
theorem set_same {α : Type} {l : List α} {k : Nat} {x : α} (h : l[k]? = some x) : l.set k x = l := by
  apply List.ext_getElem?
  intro j
  rw [List.getElem?_set]
  split
  · rename_i e
    subst e
    rw [if_pos (List.getElem?_eq_some_iff.1 h).1, h]
  · rfl
theorem PW.byte {w : World} {gp gl : Nat} {ps : List Pp} (h : PW w gp gl ps) {k : Nat} {p : Pp} (hk : ps[k]? = some p) {i : Nat} (hi : i < 64) : w.cell? ⟨gl, k * 69 + i, none⟩ = some (U (p.rb.getD i 0)) :=
  h.hl.cell' (encs_get hk (h.c hk).1.rb (encP_byte (h.c hk).1.rb hi))
/-- A pipe turns. -/
theorem PW.set {w : World} {gp gl : Nat} {ps : List Pp} (h : PW w gp gl ps) {k j : Nat} {p p' : Pp} {v : Value} (hk : ps[k]? = some p) (hp' : p'.Ok) (hj : j < 69) (he : encP p' = (encP p).set j v) :
    PW (w.setCell ⟨gl, k * 69 + j, none⟩ v) gp gl (ps.set k p') := by
  have ho := (h.c hk).1
  refine ⟨?_, ?_, fun q hq => ?_, by simpa using h.len⟩
  · rw [List.length_set]; exact h.hp.far h.ne _
  · rw [← encs_set hk ho.rb hp'.rb hj he]; exact h.hl.set _ _
  · rcases List.mem_or_eq_of_mem_set hq with h2 | h2
    · exact h.ok q h2
    · rw [h2]; exact hp'
set_option maxRecDepth 100000 in
set_option maxHeartbeats 2000000 in
theorem put_any (gp gl : Nat) (ps : List Pp) (k : Nat) (p : Pp) (w : World) (h : PW w gp gl ps) (hk : ps[k]? = some p) (A : Option Addr) (c : Nat) (bs : List Int) (hr : Rd U w A bs) (hA : 0 < bs.length → ∀ ad, A = some ad → ad.block ≠ gl) (hb : bs.length ≤ 1000000)
    (hb0 : ∀ x ∈ bs, 0 ≤ x ∧ x < 256) (hc : bs.length ≤ c) :
    Calls Try.prog 82 #[.pointer (some ⟨gl, k * 69, none⟩), .slice A bs.length c] w fun e w' => e = .returned (I (min bs.length (64 - p.pn) : Nat)) ∧ PW w' gp gl (ps.set k (putAll p (bs.take (64 - p.pn)))) ∧ But (· = gl) w w' := by
  have hlen := h.len
  obtain ⟨ho, _, c65, _, _, _⟩ := h.c hk
  have hpn := ho.pn
  obtain ⟨n, hn⟩ : ∃ n : Nat, n = min bs.length (64 - p.pn) := ⟨_, rfl⟩
  rw [← hn]
  have hnl : n ≤ bs.length := by omega
  have hnc : n ≤ c := by omega
  have hn64 : p.pn + n ≤ 64 := by omega
  have hsp : ((bs.length : Int) ≤ 64 - (p.pn : Int) ∧ (bs.length : Int) = n) ∨ (¬ (bs.length : Int) ≤ 64 - (p.pn : Int) ∧ 64 - (p.pn : Int) = n) := by omega
  have H := Lib.hid hk
  clear hk
  have HN := Lib.hid hn
  clear hn
  rcases hsp with ⟨h1, e⟩ | ⟨h1, e⟩
  all_goals
    have E := Lib.hid e
    clear e
    go_enter Try.func82, Try.ntmps82
    go_wp2
    rw [E.out]
    go_loopw [20] (fun v wr => ∃ i : Nat, i ≤ n ∧ v = .int .i64 i ∧ PW wr gp gl (ps.set k (putAll p (bs.take i))) ∧ But (· = gl) w wr) (fun v _ => n - (intOf v).toNat)
    case atStart => exact ⟨0, by omega, rfl, by simpa [putAll, set_same H.out] using h, But.refl _ _⟩
    case round =>
      obtain ⟨i, hi, rfl, hP, hS⟩ := hrel
      obtain ⟨wo, rfl⟩ : ∃ wo : World, wo = wr := ⟨_, rfl⟩
      have HR := Lib.hid hr
      clear hr
      by_cases hlt : i < n
      · obtain ⟨ad, hAd, hcell⟩ := HR.out.at (k := i) (by omega)
        subst hAd
        have hcell := hS.cell hcell (by rw [block_add]; exact hA (by omega) ad rfl)
        obtain ⟨x, hx⟩ : ∃ x, x = bs[i]'(by omega) := ⟨_, rfl⟩
        rw [← hx] at hcell
        obtain ⟨q, hq⟩ : ∃ q, q = putAll p (bs.take i) := ⟨_, rfl⟩
        have hqp : q.pn = p.pn + i := by rw [hq, putAll_pn, List.length_take]; omega
        have hsn : putAll p (bs.take (i + 1)) = putB q x := by rw [hq, hx, List.take_succ_eq_append_getElem (by omega), putAll_snoc]
        rw [← hq] at hP
        have hqk : (ps.set k q)[k]? = some q := by rw [List.getElem?_set_self (List.getElem?_eq_some_iff.1 H.out).1]
        obtain ⟨hqo, d64, d65, _, _, _⟩ := hP.c hqk
        have hm64 : (q.pat + q.pn) % 64 < 64 := Nat.mod_lt _ (by omega)
        have hqpat := hqo.pat
        have d0 := hP.byte hqk hm64
        have f0 := hP.hl.frozen (k * 69 + (q.pat + q.pn) % 64)
        have hP2 := hP.set hqk (p' := { q with rb := q.rb.set ((q.pat + q.pn) % 64) x }) ⟨by simp [hqo.rb], hqo.pat, hqo.pn, hqo.r0, hqo.r1, hqo.w0, hqo.w1⟩ (by omega) (encP_set_byte hqo.rb hm64 x)
        rw [List.set_set] at hP2
        have hS2 := hS.setCell (p := ⟨gl, k * 69 + (q.pat + q.pn) % 64, none⟩) (.inl rfl) (U x)
        have hmod : ((q.pat : Int) + (q.pn : Int)).tmod 64 = (((q.pat + q.pn) % 64 : Nat) : Int) := by
          rw [Int.tmod_eq_emod_of_nonneg (by omega)]; omega
        have hq64 : q.pn < 64 := by omega
        have HQP := Lib.hid hqp
        clear hqp
        generalize hmm : (q.pat + q.pn) % 64 = m at *
        have hm64' : (m : Int) < 64 := by omega
        have HP2 := Lib.hid hP2
        have HS2 := Lib.hid hS2
        have HSN := Lib.hid hsn
        have HQK := Lib.hid hqk
        have HQ := Lib.hid hq
        have HM := Lib.hid hmm
        clear hP2 hS2 hsn hqk hq hmm hx hP hS h
        go_wp2
        go_region
        have hP3 := HP2.out.drew
        have hS3 := HS2.out.drew
        clear d0 f0 d64 d65 hcell
        generalize (wo.setCell ⟨gl, k * 69 + m, none⟩ (U x)).drew = w2 at *
        obtain ⟨q1, hq1⟩ : ∃ q1 : Pp, q1 = { q with rb := q.rb.set m x } := ⟨_, rfl⟩
        rw [← hq1] at hP3
        have hqk1 : (ps.set k q1)[k]? = some q1 := by rw [List.getElem?_set_self (List.getElem?_eq_some_iff.1 H.out).1]
        obtain ⟨hqo1, _, d65, _, _, _⟩ := hP3.c hqk1
        have f65 := hP3.hl.frozen (k * 69 + 65)
        have hqe : q1.pn = q.pn := by rw [hq1]
        rw [hqe] at d65
        have hput : putB q x = { q1 with pn := q.pn + 1 } := by rw [hq1, ← HM.out]; rfl
        have hP4 := hP3.set hqk1 (p' := { q1 with pn := q.pn + 1 }) (v := I (q.pn + 1 : Nat)) ⟨hqo1.rb, hqo1.pat, by show q.pn + 1 ≤ 64; omega, hqo1.r0, hqo1.r1, hqo1.w0, hqo1.w1⟩ (by omega) (encP_set_pn hqo1.rb (q.pn + 1))
        rw [List.set_set, ← hput, ← HSN.out] at hP4
        have hS4 := hS3.setCell (p := ⟨gl, k * 69 + 65, none⟩) (.inl rfl) (I (q.pn + 1 : Nat))
        rw [show ((q.pn + 1 : Nat) : Int) = (q.pn : Int) + 1 from by omega] at hP4 hS4
        have HP4 := Lib.hid hP4
        have HS4 := Lib.hid hS4
        clear hP4 hS4 hP3 hS3 hqk1 hq1 hqe hput
        go_wp2
        go_roundw
        case rel => exact ⟨i + 1, by omega, by go_num, HP4.out, HS4.out⟩
        case measure => simp [intOf]; omega
      · obtain rfl : i = n := by omega
        try (have h9 : ¬ (i < 64 - p.pn) := by have := E.out; omega)
        go_wp2
        go_ret
        have e : bs.take i = bs.take (64 - p.pn) := by
          have := HN.out
          apply List.ext_getElem?
          intro j
          rw [List.getElem?_take, List.getElem?_take]
          by_cases h2 : j < i
          · rw [if_pos h2, if_pos (by omega)]
          · rw [if_neg h2]
            split
            · rw [List.getElem?_eq_none (by omega)]
            · rfl
        exact ⟨rfl, by rw [← e]; exact hP, hS⟩
end Go.Proofs.Ytlojadpbdbhmiaa.Pip
