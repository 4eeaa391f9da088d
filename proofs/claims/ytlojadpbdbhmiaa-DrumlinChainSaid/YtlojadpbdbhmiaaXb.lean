/- Processes: New, Fork, other, wake, Kill, Now. -/
import Derived.Test.YtlojadpbdbhmiaaXa
import Derived.Test.YtlojadpbdbhmiaaSt
import Derived.Deep.DeepMust
import Derived.Deep.RegionLaw
namespace Go.Proofs.Ytlojadpbdbhmiaa
open Go.RowKit
set_option linter.unusedSimpArgs false
set_option linter.unusedVariables false

theorem slProcs : SlT Try.prog 102 33 (.agg (encR zeroR).toArray) 6 48 := ⟨Try.underlying102, by kernel_rfl, rfl, by omega⟩
theorem own_low {w : World} {base base' n size : Nat} {e : TypeId} {v : Value} {xs : List Value} (h : w.ownsRow base e size v n xs) (hb : base' ≤ base) : w.ownsRow base' e size v n xs := by
  obtain ⟨h1, h2⟩ := h
  refine ⟨h1, ?_⟩
  rcases h2 with h2 | ⟨g, cap, cur, a, b, r⟩
  · exact .inl h2
  · exact .inr ⟨g, cap, cur, a, Nat.le_trans hb b, r⟩
/-- What a call leaves: a table that has turned, and nothing else but what is new. -/
def TRet (w w' : World) (gt B : Nat) (v : Value) (ps : List PR) (most last now : Int) : Prop :=
  ∃ v', TW w' gt B v' ps most last now ∧ But (fun k => k = gt ∨ v.ownBlock = some k) w w' ∧ ∀ k, v'.ownBlock = some k → v.ownBlock = some k ∨ w.heap.size ≤ k
theorem TRet.same {w w' : World} {gt B : Nat} {v : Value} {ps : List PR} {most last now : Int} (h : TW w gt B v ps most last now) (hs : Safe w w') : TRet w w' gt B v ps most last now :=
  ⟨v, h.safe hs, hs.but, fun k hk => .inl hk⟩
def initR : PR := ⟨1, 0, 1, 0, 0, false⟩
def mostP (m : Int) : Int := max 1 (min m 16)
set_option maxRecDepth 100000 in
set_option maxHeartbeats 1000000 in
theorem pnew_any (m : Int) (w : World) : Calls Try.prog 11 #[.int .i64 m] w fun e w' => ∃ v, e = .returned (.pointer (some ⟨w.heap.size + 1, 0, none⟩)) ∧ TW w' (w.heap.size + 1) w.heap.size v [initR] (mostP m) 1 0 ∧ Safe w w' := by
  obtain ⟨n, hn⟩ : ∃ n, n = mostP m := ⟨_, rfl⟩
  rw [← hn]
  have hcs : (¬ m ≤ 16 ∧ n = 16) ∨ (m ≤ 16 ∧ ¬ 1 < m ∧ m ≤ 1 ∧ n = 1) ∨ (m ≤ 16 ∧ ¬ m ≤ 1 ∧ 1 < m ∧ m = n) := by unfold mostP at hn; omega
  clear hn
  have hfin : TW ((w.alloc (.cells (encR initR).toArray 33)).alloc (.cells #[.slice (some ⟨w.heap.size, 0, none⟩) 1 1, I n, I 1, I 0] 104)) (w.heap.size + 1) w.heap.size (.slice (some ⟨w.heap.size, 0, none⟩) 1 1) [initR] n 1 0 ∧
      Safe w ((w.alloc (.cells (encR initR).toArray 33)).alloc (.cells #[.slice (some ⟨w.heap.size, 0, none⟩) 1 1, I n, I 1, I 0] 104)) := by
    refine ⟨⟨Blk.new' _ _ (by simp), ?_, by decide⟩, ((But.refl _ _).alloc _).alloc _⟩
    exact own_safe (World.ownsRow_lit w (encR initR).toArray 1 (Nat.le_refl _) (by simp [maxLen]) rfl) ((But.refl _ _).alloc _)
  have HF := Lib.hid hfin
  clear hfin
  rcases hcs with ⟨h1, rfl⟩ | ⟨h1, h2, h3, rfl⟩ | ⟨h1, h2, h3, rfl⟩
  all_goals
    go_enter Try.func11, Try.ntmps11
    go_wp2
    go_ret
    exact ⟨rfl, ⟨_, HF.out.1⟩, HF.out.2⟩
def forkM (ps : List PR) (most last pid : Int) : List PR × Int × Int × Int :=
  if liveP ps pid ≠ 0 then (ps, last, 0, liveP ps pid) else if (ps.length : Int) = most then (ps, last, 0, 15) else (ps ++ [⟨last + 1, pid, 1, 0, 0, false⟩], last + 1, last + 1, 0)
theorem fork_fin {w W2 w5 : World} {gt B : Nat} {v v1 : Value} {ps : List PR} {most last now : Int} {o : Obj} (hs2 : But (fun k => k = gt ∨ v.ownBlock = some k) w W2) (hb2 : Blk W2 gt 104 #[v, I most, I last, I now])
    (hne : ∀ k, v.ownBlock = some k → k ≠ gt) (x : PR) (ho : w5.ownsRow B 33 6 v1 (ps.length + 1) (ps.flatMap encR ++ encR x)) (hg : ((W2.alloc o).drew).grownBy w5 v.ownBlock)
    (hd : v1.ownBlock = v.ownBlock ∨ v1.ownBlock = some ((W2.alloc o).drew).heap.size) (hlt : ps.length < 16) : TRet w (w5.setCell ⟨gt, 0, none⟩ v1) gt B v (ps ++ [x]) most last now := by
  have hgb := But.of_grown hg
  have hb5 : Blk w5 gt 104 #[v, I most, I last, I now] := ((hb2.alloc o).drew).but hgb (fun e => hne _ e.symm rfl)
  have hne1 : ∀ k, v1.ownBlock = some k → k ≠ gt := fun k hk => by
    obtain ⟨_, _, cs, hB⟩ := own_blk6 ho hk
    exact hB.ne hb5 (by decide)
  have hsz := hs2.size
  refine ⟨v1, ⟨hb5.set 0 v1, ?_, by simp; omega⟩, ?_, fun k hk => ?_⟩
  · rw [List.length_append, List.flatMap_append]
    simp only [List.flatMap_cons, List.flatMap_nil, List.append_nil, List.length_cons, List.length_nil]
    exact own_but_kept (S := (· = gt)) ho ((But.refl (· = gt) _).setCell (p := ⟨gt, 0, none⟩) (.inl rfl) _) (fun k hk e => hne1 k hk e)
  · exact (((hs2.alloc o).drew).step hgb (fun k hk => .inl (.inr hk.symm))).setCell (p := ⟨gt, 0, none⟩) (.inl (.inl rfl)) _
  · rcases hd with hd | hd
    · exact .inl (hd ▸ hk)
    · rw [hd] at hk
      injection hk with hk
      right
      have : k = (W2.heap.push o).size := hk.symm
      rw [Array.size_push] at this
      omega
set_option maxRecDepth 100000 in
set_option maxHeartbeats 2000000 in
theorem pfork_any (gt B : Nat) (v : Value) (ps : List PR) (most last now pid : Int) (w : World) (h : TW w gt B v ps most last now) (hn : 0 < ps.length) (hm1 : (ps.length : Int) ≤ most) (hm2 : most ≤ 16) (hl0 : 0 ≤ last) (hl1 : last ≤ 1000000) :
    Calls Try.prog 12 #[.pointer (some ⟨gt, 0, none⟩), .int .i64 pid] w fun e w' => e = .returned (.tuple #[I (forkM ps most last pid).2.2.1, I (forkM ps most last pid).2.2.2]) ∧ TRet w w' gt B v (forkM ps most last pid).1 most (forkM ps most last pid).2.1 now := by
  obtain ⟨g, c, rfl, hgl, hBg⟩ := h.form hn
  have hlive := plive_any gt B g c ps most last now pid w h
  have H := Lib.hid h
  have HL := Lib.hid hlive
  have hlen := h.len
  have hgt := h.hp.lt
  by_cases hl : liveP ps pid ≠ 0
  · have e : forkM ps most last pid = (ps, last, 0, liveP ps pid) := by unfold forkM; rw [if_pos hl]
    rw [e]
    have hb : (liveP ps pid != 0) = true := by simpa using hl
    generalize liveP ps pid = L at *
    clear e hl h hlive
    go_enter Try.func12, Try.ntmps12
    go_wp2_with fail
    refine (HL.out).mono ?_
    rintro _ w1 ⟨rfl, hs1⟩
    go_wp2
    go_ret2
    exact ⟨rfl, TRet.same H.out hs1⟩
  · have hl0' : liveP ps pid = 0 := by omega
    by_cases hf : (ps.length : Int) = most
    · have e : forkM ps most last pid = (ps, last, 0, 15) := by unfold forkM; rw [if_neg hl, if_pos hf]
      rw [e]
      rw [hl0'] at hlive
      have HL := Lib.hid hlive
      have hbf : ((ps.length : Int) == most) = true := by simpa using hf
      have hc0 := fun W (hW : Safe w W) => (h.safe hW).hp.cell' (i := 0) rfl
      have hc1 := fun W (hW : Safe w W) => (h.safe hW).hp.cell' (i := 1) rfl
      have HC0 := Lib.hid hc0
      have HC1 := Lib.hid hc1
      clear e hl h hlive hl0' hf hc0 hc1
      go_enter Try.func12, Try.ntmps12
      go_wp2_with fail
      refine (HL.out).mono ?_
      rintro _ w1 ⟨rfl, hs1⟩
      have d0 := HC0.out _ hs1
      have d1 := HC1.out _ hs1
      go_wp2_with fail
      go_quiet (fail)
      go_wp2
      go_ret2
      exact ⟨rfl, TRet.same H.out (hs1.drewN _)⟩
    · have e : forkM ps most last pid = (ps ++ [⟨last + 1, pid, 1, 0, 0, false⟩], last + 1, last + 1, 0) := by unfold forkM; rw [if_neg hl, if_neg hf]
      rw [e]
      rw [hl0'] at hlive
      have HL := Lib.hid hlive
      have hbf : ((ps.length : Int) == most) = false := by simpa using hf
      have hlt16 : ps.length < 16 := by omega
      have hcell := fun W (hW : Safe w W) => (h.safe hW).hp
      have HC := Lib.hid hcell
      clear e hl h hlive hl0' hf hcell
      go_enter Try.func12, Try.ntmps12
      go_wp2_with fail
      refine (HL.out).mono ?_
      rintro _ w1 ⟨rfl, hs1⟩
      have hB := HC.out _ hs1
      have d0 := hB.cell' (i := 0) rfl
      have d1 := hB.cell' (i := 1) rfl
      have d2 := hB.cell' (i := 2) rfl
      have f2 := hB.frozen 2
      have HB := Lib.hid hB
      have HS1 := Lib.hid hs1
      clear hB hs1
      go_wp2_with fail
      go_quiet (fail)
      go_wp2_with fail
      obtain ⟨W2, hW2⟩ : ∃ W2, W2 = (w1.drewN nq).setCell ⟨gt, 2, none⟩ (I (last + 1)) := ⟨_, rfl⟩
      have hne := fun k hk => H.out.ne (k := k) hk
      have hsz1 := HS1.out.size
      have hb2 : Blk W2 gt 104 #[.slice (some ⟨g, 0, none⟩) ps.length c, I most, I (last + 1), I now] := by rw [hW2]; exact (HB.out.drewN nq).set 2 _
      have hs2 : But (fun k => k = gt ∨ (Value.slice (some ⟨g, 0, none⟩) ps.length c).ownBlock = some k) w W2 := by
        rw [hW2]; exact (Safe.but (HS1.out.drewN nq)).setCell (p := ⟨gt, 2, none⟩) (.inl (.inl rfl)) _
      have ho2 : W2.ownsRow B 33 6 (.slice (some ⟨g, 0, none⟩) ps.length c) ps.length (ps.flatMap encR) := by
        rw [hW2]
        exact own_but_kept (S := (· = gt)) (own_safe H.out.ho (HS1.out.drewN nq)) ((But.refl (· = gt) _).setCell (p := ⟨gt, 2, none⟩) (.inl rfl) _) (fun k hk e => hne k hk e)
      have HW2 := Lib.hid hW2
      rw [← hW2]
      have HO2 := Lib.hid ho2
      have HS2 := Lib.hid hs2
      have HB2 := Lib.hid hb2
      have HNE := Lib.hid hne
      have hgt2 : gt < W2.heap.size := hb2.lt
      have hBg2 : B ≤ W2.heap.size := by have := hs2.size; omega
      clear d0 d1 d2 f2
      have d0 : W2.cell? ⟨gt, 0, none⟩ = some (.slice (some ⟨g, 0, none⟩) ps.length c) := hb2.cell' (i := 0) rfl
      have d2 : W2.cell? ⟨gt, 2, none⟩ = some (I (last + 1)) := hb2.cell' (i := 2) rfl
      have f0 := hb2.frozen 0
      have h63 : ps.length + 1 ≤ maxLen := by simp [maxLen]; omega
      have hby : (ps.length + 1) * 48 ≤ 140737488355328 := by omega
      have hba : B ≤ (W2.alloc (.cells (encR ⟨last + 1, pid, 1, 0, 0, false⟩).toArray 33)).drew.heap.size := by
        show _ ≤ (W2.heap.push _).size
        rw [Array.size_push]; omega
      have hone : ∀ u ∈ (encR ⟨last + 1, pid, 1, 0, 0, false⟩), u.oneCell' = true := encR_one _
      have HN1 := Lib.hid hone
      have hno : ¬ (some gt = (Value.slice (some ⟨g, 0, none⟩) ps.length c).ownBlock) := fun e => hne _ e.symm rfl
      have HNO := Lib.hid hno
      have hdc : ((W2.alloc (.cells (encR ⟨last + 1, pid, 1, 0, 0, false⟩).toArray 33)).drew).cell? ⟨gt, 0, none⟩ = some (.slice (some ⟨g, 0, none⟩) ps.length c) := cell_alloc d0 _
      have hdf : ((W2.alloc (.cells (encR ⟨last + 1, pid, 1, 0, 0, false⟩).toArray 33)).drew).frozen? ⟨gt, 0, none⟩ = false := ((hb2.alloc _).drew).frozen 0
      have HDC := Lib.hid hdc
      have HDF := Lib.hid hdf
      clear hW2 hb2 hs2 ho2 hne hone hno hdc hdf
      go_region_law ((refine step_push slProcs (by rfl) (.tmp 36) (.tmp 43) (by rfl) B (.slice (some ⟨g, 0, none⟩) ps.length c) ps.length (ps.flatMap encR) (by rfl) (own_safe HO2.out (((But.refl _ _).alloc _).drew)) W2.heap.size 33 (encR ⟨last + 1, pid, 1, 0, 0, false⟩).toArray (by rfl) (Blk.new _ _ _).drew (by rfl) HN1.out h63 hby hba ?_; intro v1 w5 ho hg hd; obtain ⟨A1, c1', rfl, hc1'⟩ := own_form ho; have c5 := (But.of_grown hg).cell HDC.out HNO.out; have f5 := ((But.of_grown hg).frozen (cell_lt HDC.out) HNO.out).trans HDF.out))
      all_goals
        have hfin := fork_fin HS2.out HB2.out HNE.out ⟨last + 1, pid, 1, 0, 0, false⟩ ho hg hd hlt16
        have hlast : (w5.setCell ⟨gt, 0, none⟩ (.slice A1 (ps.length + 1) c1')).cell? ⟨gt, 2, none⟩ = some (I (last + 1)) := by
          obtain ⟨v', hT, _⟩ := hfin
          exact hT.hp.cell' (i := 2) rfl
        have HF := Lib.hid hfin
        clear hfin ho hg hd c5 f5 d0 d2 f0
        go_wp2
        go_ret2
        exact ⟨rfl, HF.out⟩
end Go.Proofs.Ytlojadpbdbhmiaa
