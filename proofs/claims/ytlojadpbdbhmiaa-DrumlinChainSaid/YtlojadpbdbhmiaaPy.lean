/- Pipes: Make. -/
import Derived.Test.YtlojadpbdbhmiaaPx
namespace Go.Proofs.Ytlojadpbdbhmiaa.Pip
open Go.RowKit
set_option linter.unusedSimpArgs false
set_option linter.unusedVariables false

def newP : Pp := ⟨List.replicate 64 0, 0, 0, true, 1, 1⟩
theorem newP_ok : newP.Ok := ⟨rfl, by decide, by decide, by decide, by decide, by decide, by decide⟩
def freeIx (ps : List Pp) : Int := match ps.findIdx? (fun p => !p.there) with | some k => k | none => -1

theorem freeIx_hit {ps : List Pp} {k : Nat} {p : Pp} (hp : ps[k]? = some p) (ht : p.there = false) (h : ∀ j q, j < k → ps[j]? = some q → q.there = true) : freeIx ps = k := by
  unfold freeIx
  have : ps.findIdx? (fun p => !p.there) = some k := by
    rw [List.findIdx?_eq_some_iff_getElem]
    obtain ⟨hlt, he⟩ := List.getElem?_eq_some_iff.1 hp
    refine ⟨hlt, by rw [he, ht]; rfl, fun j hj => ?_⟩
    have := h j ps[j] hj (List.getElem?_eq_getElem (by omega))
    simp [this]
  rw [this]
theorem freeIx_none {ps : List Pp} (h : ∀ j q, j < ps.length → ps[j]? = some q → q.there = true) : freeIx ps = -1 := by
  unfold freeIx
  have : ps.findIdx? (fun p => !p.there) = none := by
    rw [List.findIdx?_eq_none_iff]
    intro q hq
    obtain ⟨j, hj⟩ := List.getElem?_of_mem hq
    simp [h j q (List.getElem?_eq_some_iff.1 hj).1 hj]
  rw [this]

set_option maxRecDepth 100000 in
set_option maxHeartbeats 2000000 in
theorem idx_any (gp gl : Nat) (ps : List Pp) (w : World) (h : PW w gp gl ps) :
    Calls Try.prog 74 #[.slice (some ⟨gl, 0, none⟩) ps.length ps.length, .func (.func 75) #[] #[]] w fun e w' => e = .returned (I (freeIx ps)) ∧ Safe w w' := by
  have hlen := h.len
  go_enter Try.func74, Try.ntmps74
  go_wp2
  go_loopw [8] (fun i wr => ∃ k : Nat, k ≤ ps.length ∧ i = .int .i64 k ∧ (∀ j q, j < k → ps[j]? = some q → q.there = true) ∧ Safe w wr) (fun i _ => ps.length - (intOf i).toNat)
  case atStart => exact ⟨0, by omega, rfl, fun j q hj => absurd hj (by omega), But.refl _ _⟩
  case round =>
    obtain ⟨k, hk, rfl, hall, hS⟩ := hrel
    obtain ⟨wo, rfl⟩ : ∃ wo : World, wo = wr := ⟨_, rfl⟩
    by_cases hlt : k < ps.length
    · obtain ⟨p, hp⟩ : ∃ p, ps[k]? = some p := ⟨_, List.getElem?_eq_getElem hlt⟩
      have hP := h.safe hS
      have hrng := hP.range hp
      have ho := (hP.c hp).1.rb
      have hsz : (Try.prog.info? 136).map (·.size) = some (encP p).length := by rw [sizePipe, encP_len ho]
      have HS := Lib.hid hsz
      have HH := Lib.hid hrng
      have HP := Lib.hid hp
      have HA := Lib.hid hall
      clear hsz hrng hP hp hall
      go_wp2_with (refine wpList_load_mid rfl 136 (.tmp 14) rfl gl (k * 69) rfl (encP p) _ HH.out Try.underlying136 rfl HS.out ?_)
      refine (free_any p ho _).mono ?_
      rintro _ w1 ⟨rfl, hs1⟩
      cases ht : p.there
      · go_wp2
        go_ret
        exact ⟨by rw [freeIx_hit HP.out ht HA.out]; rfl, hS.trans hs1⟩
      · go_wp2
        go_roundw
        case rel =>
          refine ⟨k + 1, by omega, by go_num, fun j q hj hq => ?_, hS.trans hs1⟩
          by_cases e : j = k
          · subst e
            have := hq.symm.trans HP.out
            injection this with this
            rw [this]; exact ht
          · exact HA.out j q (by omega) hq
        case measure => simp [intOf]; omega
    · obtain rfl : k = ps.length := by omega
      have HA := Lib.hid hall
      clear hall
      go_wp2
      go_ret
      exact ⟨by rw [freeIx_none HA.out]; rfl, hS⟩
set_option maxRecDepth 100000 in
set_option maxHeartbeats 2000000 in
theorem make_no (gp gl : Nat) (ps : List Pp) (w : World) (h : PW w gp gl ps) (hf : freeIx ps = -1) :
    Calls Try.prog 40 #[.pointer (some ⟨gp, 0, none⟩)] w fun e w' => e = .returned (.tuple #[I 0, I 14]) ∧ Safe w w' := by
  have c0 := h.hp.cell' (i := 0) rfl
  go_enter Try.func40, Try.ntmps40
  go_wp2_with fail
  refine (idx_any gp gl ps _ h).mono ?_
  rintro _ w1 ⟨rfl, hs1⟩
  rw [hf]
  go_wp2
  go_ret2
  exact ⟨rfl, hs1⟩
set_option maxRecDepth 100000 in
set_option maxHeartbeats 2000000 in
theorem make_yes (gp gl : Nat) (ps : List Pp) (k : Nat) (w : World) (h : PW w gp gl ps) (hf : freeIx ps = k) (hk : k < ps.length) :
    Calls Try.prog 40 #[.pointer (some ⟨gp, 0, none⟩)] w fun e w' => e = .returned (.tuple #[I (k + 1), I 0]) ∧ PW w' gp gl (ps.set k newP) ∧ But (· = gl) w w' := by
  have c0 := h.hp.cell' (i := 0) rfl
  have hlen := h.len
  go_enter Try.func40, Try.ntmps40
  go_wp2_with fail
  refine (idx_any gp gl ps _ h).mono ?_
  rintro _ w1 ⟨rfl, hs1⟩
  rw [hf]
  have h1 := h.safe hs1
  have c0 := h1.hp.cell' (i := 0) rfl
  have hk' : (k : Int) < ps.length := by omega
  obtain ⟨Z, hZ⟩ : ∃ Z, Z = (encP zeroP).toArray := ⟨_, rfl⟩
  obtain ⟨N, hN⟩ : ∃ N, N = (encP newP).toArray := ⟨_, rfl⟩
  have hz : (zeroValue 136).run Try.prog w1 = .ok (.agg Z) w1 := by rw [hZ]; exact zero_pipe w1
  have hzs : Z.size = 69 := by rw [hZ]; rfl
  have hset : ((Z.setIfInBounds 66 (.bool true)).setIfInBounds 67 (I 1)).setIfInBounds 68 (I 1) = N := by rw [hZ, hN]; rfl
  have hns : N.size = 69 := by rw [hN]; rfl
  have HT : Hid (w1.there gl (k * 69) N.size) := Lib.hid (h1.hl.there (by rw [encs_size, hns]; omega))
  have HS : Hid ((Try.prog.info? 136).map (·.size) = some N.size) := Lib.hid (by rw [hns, sizePipe])
  have HO : Hid (N.all (·.oneCell') = true) := Lib.hid (by rw [hN]; exact all_oneCell_toArray (pipe_one newP))
  have hfin : PW (w1.setCells gl (k * 69) N.toList) gp gl (ps.set k newP) ∧ But (· = gl) w (w1.setCells gl (k * 69) N.toList) := by
    refine ⟨⟨?_, ?_, fun q hq => ?_, by simpa using hlen⟩, (Safe.but hs1).setCells _ _ (.inl rfl)⟩
    · rw [List.length_set]; exact h1.hp.farAll _ h1.ne _
    · have := h1.hl.setAll N.toList (k * 69)
      rw [hN] at this ⊢
      rwa [show (encP newP).toArray.toList = encP newP from rfl, encs_put rfl hk] at this
    · rcases List.mem_or_eq_of_mem_set hq with h2 | h2
      · exact h.ok q h2
      · rw [h2]; exact newP_ok
  have HF := Lib.hid hfin
  have H1 := Lib.hid h1
  have H0 := Lib.hid h
  clear hfin h1 h hZ hN
  go_wp2_with (refine wpList_store_mid rfl 136 (.tmp 18) (.tmp 17) rfl gl (k * 69) N rfl rfl HT.out HS.out HO.out ?_)
  go_ret2
  exact ⟨rfl, HF.out⟩
end Go.Proofs.Ytlojadpbdbhmiaa.Pip
