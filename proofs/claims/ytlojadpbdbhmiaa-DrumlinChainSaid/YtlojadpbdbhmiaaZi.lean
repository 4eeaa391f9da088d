/- The reference's processes: Tick. -/
import Derived.Test.YtlojadpbdbhmiaaZc
import Derived.Test.YtlojadpbdbhmiaaXl
import Derived.Deep.Cut
namespace Go.Proofs.Ytlojadpbdbhmiaa
open Go.RowKit
set_option linter.unusedSimpArgs false
set_option linter.unusedVariables false

def tkR (T : Int) (p : PR) : PR := if due T p then { p with state := 1, until_ := 0 } else p
theorem tkR_pid (T : Int) (p : PR) : (tkR T p).pid = p.pid := by unfold tkR; split <;> rfl
theorem wakeOne_map {ps : List PR} (ha : Asc ps) (y : Int) : wakeOne ps y = ps.map (fun p => if p.pid = y then wakeR p else p) := by
  apply List.ext_getElem?
  intro j
  rw [List.getElem?_map]
  unfold wakeOne
  cases hk : oneP ps y with
  | none =>
    simp only
    cases hj : ps[j]? with
    | none => rfl
    | some p =>
      have hne : p.pid ≠ y := by
        intro e
        rw [← e, oneP_at ha hj] at hk
        cases hk
      simp [hne]
  | some k =>
    obtain ⟨p, hp, hpid, hlt⟩ := oneP_get hk
    simp only
    rw [List.getD_eq_getElem?_getD, hp]
    by_cases e : k = j
    · subst e
      rw [List.getElem?_set_self hlt, hp]
      simp [hpid]
    · rw [List.getElem?_set_ne e]
      cases hj : ps[j]? with
      | none => rfl
      | some q =>
        have hne : q.pid ≠ y := fun e2 => e (ha.inj hp hj (by rw [hpid, e2]))
        simp [hne]
theorem wakeR_idem (p : PR) : wakeR (wakeR p) = wakeR p := by
  unfold wakeR
  split
  · simp
  · rfl
theorem wakeAll_map (out : List Int) : ∀ {ps : List PR}, Asc ps → wakeAll ps out = ps.map (fun p => if p.pid ∈ out then wakeR p else p) := by
  induction out with
  | nil => intro ps _; simp [wakeAll]
  | cons y r ih =>
    intro ps ha
    show wakeAll (wakeOne ps y) r = _
    rw [ih (wakeOne_asc ha y), wakeOne_map ha y, List.map_map]
    apply List.map_congr_left
    intro p _
    simp only [Function.comp]
    by_cases h1 : p.pid = y
    · rw [if_pos h1, wakeR_pid]
      by_cases h2 : p.pid ∈ r
      · rw [if_pos h2, wakeR_idem, if_pos (List.mem_cons_of_mem _ h2)]
      · rw [if_neg h2, if_pos (by rw [h1]; exact List.mem_cons_self ..)]
    · rw [if_neg h1]
      by_cases h2 : p.pid ∈ r
      · rw [if_pos h2, if_pos (List.mem_cons_of_mem _ h2)]
      · rw [if_neg h2, if_neg (by simp [h1, h2])]
theorem wake_tk {ps : List PR} (ha : Asc ps) (T : Int) : wakeAll ps (whichP (due T) ps) = ps.map (tkR T) := by
  rw [wakeAll_map _ ha]
  apply List.map_congr_left
  intro p hp
  unfold tkR
  by_cases hd : due T p = true
  · have hm : p.pid ∈ whichP (due T) ps := List.mem_map.2 ⟨p, List.mem_filter.2 ⟨hp, hd⟩, rfl⟩
    rw [if_pos hm, if_pos hd]
    have h2 : p.state = 2 := by
      unfold due at hd
      simp only [Bool.and_eq_true, beq_iff_eq] at hd
      exact hd.1
    unfold wakeR
    rw [if_pos h2]
  · have hm : p.pid ∉ whichP (due T) ps := by
      intro hm
      obtain ⟨q, hq, e⟩ := List.mem_map.1 hm
      obtain ⟨h1, h2⟩ := List.mem_filter.1 hq
      obtain ⟨i, hi⟩ := List.getElem?_of_mem h1
      obtain ⟨j, hj⟩ := List.getElem?_of_mem hp
      have := ha.inj hi hj e
      subst this
      rw [hi] at hj
      injection hj with hj
      exact hd (hj ▸ h2)
    rw [if_neg hm, if_neg hd]
/-- After k of them. -/
def tkL (T : Int) (ps : List PR) (k : Nat) : List PR := (ps.take k).map (tkR T) ++ ps.drop k
theorem tkL_pids (T : Int) (ps : List PR) (k : Nat) : (tkL T ps k).map (·.pid) = ps.map (·.pid) := by
  unfold tkL
  rw [List.map_append, List.map_map]
  conv => rhs; rw [← List.take_append_drop k ps, List.map_append]
  congr 1
  apply List.map_congr_left
  intro p _
  exact tkR_pid T p
theorem tkL_len (T : Int) (ps : List PR) (k : Nat) : (tkL T ps k).length = ps.length := by simpa using congrArg List.length (tkL_pids T ps k)
theorem tkL_step {T : Int} {ps : List PR} {k : Nat} {p : PR} (h : ps[k]? = some p) : (tkL T ps k)[k]? = some p ∧ tkL T ps (k + 1) = (tkL T ps k).set k (tkR T p) := by
  obtain ⟨h1, h2, _⟩ := pre_step (tkR T) (rs := tkL T ps k) rfl h
  exact ⟨h1, h2.symm⟩
theorem tkL_all (T : Int) (ps : List PR) : tkL T ps ps.length = ps.map (tkR T) := by simp [tkL]
/-- What stands in memory from round to round. -/
structure Tk (w wr : World) (b base : Nat) (v u : Value) (rs : List PR) (out : List Int) (most last T : Int) : Prop where
  tb : Blk wr b 91 #[v, I most, I last, I T]
  rb : Blk wr (b + 1) 91 #[.slice none 0 0, I 0, I 0, I 0]
  lp : LP wr base v rs
  ow : wr.ownsRow w.heap.size 3 1 u out.length (out.map I)
  sf : Safe w wr
section
variable {w wr w' : World} {b base : Nat} {v u : Value} {rs : List PR} {out : List Int} {most last T : Int}
theorem Tk.safe (h : Tk w wr b base v u rs out most last T) (hs : Safe wr w') : Tk w w' b base v u rs out most last T :=
  ⟨h.tb.but hs id, h.rb.but hs id, h.lp.safe hs, own_safe h.ow hs, h.sf.trans hs⟩
theorem own_blkI {w : World} {base n size : Nat} {e : TypeId} {v : Value} {xs : List Value} {k : Nat} (h : w.ownsRow base e size v n xs) (hk : v.ownBlock = some k) : base ≤ k ∧ ∃ cs, Blk w k e cs := by
  obtain ⟨a, _, c⟩ := own_blk6 h hk
  exact ⟨a, c⟩
theorem Tk.push (h : Tk w wr b base v u rs out most last T) {x : Int} {u' : Value} (ho : w'.ownsRow w.heap.size 3 1 u' (out.length + 1) (out.map I ++ [I x])) (hg : wr.grownBy w' u.ownBlock) : Tk w w' b base v u' rs (out ++ [x]) most last T := by
  have hb := But.of_grown hg
  have hn : ∀ g t cs, Blk wr g t cs → 3 ≠ t → ¬ (some g = u.ownBlock) := fun g t cs hB ht e => by
    obtain ⟨_, cs', hB'⟩ := own_blkI h.ow e.symm
    exact hB'.ne hB ht rfl
  refine ⟨h.tb.but hb (hn _ _ _ h.tb (by decide)), h.rb.but hb (hn _ _ _ h.rb (by decide)), h.lp.but hb (fun k hk e => ?_), ?_, h.sf.step hb (fun k hk => .inr (own_blkI h.ow hk.symm).1)⟩
  · obtain ⟨_, cs', hB'⟩ := own_blkI h.ow e.symm
    exact h.lp.ne hk hB' (by decide) rfl
  · rw [List.length_append, List.map_append]; simpa using ho
theorem Tk.put (h : Tk w wr b base v u rs out most last T) {v' : Value} {rs' : List PR} (hl : LP wr base v' rs') (hb : w.heap.size ≤ b) : Tk w (wr.setCells b 0 [v', I most, I last, I T]) b base v' u rs' out most last T := by
  have hbt := (But.refl (· = b) wr).setCells [v', I most, I last, I T] 0 (.inl rfl)
  have h1 := h.tb.setAll [v', I most, I last, I T] 0
  rw [setAt_whole _ _ (by rfl)] at h1
  refine ⟨h1, h.rb.farAll _ (by omega) 0, hl.but hbt (fun k hk e => hl.ne hk h.tb (by decide) e), own_but_kept h.ow hbt (fun k hk e => ?_), h.sf.setCells _ _ (.inr hb)⟩
  obtain ⟨_, cs', hB'⟩ := own_blkI h.ow hk
  exact hB'.ne h.tb (by decide) e
end
def RTickRet (w w' : World) (base : Nat) (e : Ending) (rs : List PR) (out : List Int) (most last T : Int) : Prop :=
  ∃ v u, e = .returned (.tuple #[aggT v most last T, u]) ∧ LP w' base v rs ∧ w'.ownsRow w.heap.size 3 1 u out.length (out.map I) ∧ Safe w w'
set_option maxRecDepth 100000 in
set_option maxHeartbeats 4000000 in
theorem rtick_any (base : Nat) (v : Value) (ps : List PR) (most last now n : Int) (w : World) (h : LP w base v ps) (h16 : ps.length ≤ 16) (hb : base ≤ w.heap.size) (ha : Asc ps) (hn0 : 0 ≤ now) (hn1 : now ≤ 1099511627776) (hr : Ranged64 n) :
    Calls Try.prog 90 #[aggT v most last now, .int .i64 n] w fun e w' => RTickRet w w' base e (ps.map (tkR (tickN now n))) (whichP (due (tickN now n)) ps) most last (tickN now n) := by
  obtain ⟨T, hT⟩ : ∃ T, T = tickN now n := ⟨_, rfl⟩
  rw [← hT]
  have hcs : (¬ 0 < n ∧ now = T) ∨ (0 < n ∧ n < 1099511627776 - now ∧ now + n = T) ∨ (0 < n ∧ ¬ n < 1099511627776 - now ∧ T = 1099511627776) := by
    unfold tickN longest at hT; omega
  obtain ⟨A, c, rfl, hc, hcm, hrd, hbd⟩ := h
  have H : LP w base (.slice A ps.length c) ps := ⟨A, c, rfl, hc, hcm, hrd, hbd⟩
  obtain ⟨W, hW⟩ : ∃ W, W = (w.alloc (.cells #[.slice A ps.length c, I most, I last, I T] 91)).alloc (.cells #[.slice none 0 0, I 0, I 0, I 0] 91) := ⟨_, rfl⟩
  have hsW : Safe w W := by rw [hW]; exact ((But.refl _ w).alloc _).alloc _
  have h0 : Tk w W w.heap.size base (.slice A ps.length c) (.slice none 0 0) (tkL T ps 0) (whichP (due T) (ps.take 0)) most last T :=
    ⟨by rw [hW]; exact (Blk.new _ _ _).alloc _, by rw [hW]; exact Blk.new' _ _ (by simp), by simpa [tkL] using H.safe hsW, World.ownsRow_nil _ _ _ _, hsW⟩
  have H0 := Lib.hid h0
  have HA := Lib.hid ha
  have HW := Lib.hid hW
  clear hT h0 hW hsW H hrd hbd ha
  have key : ∀ K : Prop, K → K := fun _ h => h
  rcases hcs with ⟨h1, h2⟩ | ⟨h1, h2, h3⟩ | ⟨h1, h2, rfl⟩
  · have HTT := Lib.hid h2
    clear h2
    go_enter Try.func90, Try.ntmps90
    go_wp2_with fail
    rw [HTT.out, ← HW.out]
    go_loopw [6, 7] (fun u i wr => ∃ (k : Nat) (v : Value), k ≤ ps.length ∧ i = .int .i64 k ∧ Tk w wr w.heap.size base v u (tkL T ps k) (whichP (due T) (ps.take k)) most last T) (fun _ i _ => ps.length - (intOf i).toNat)
    case atStart => exact ⟨0, _, by omega, rfl, H0.out⟩
    case round =>
      obtain ⟨k, v, hk, rfl, hK⟩ := hrel
      obtain ⟨wo, rfl⟩ : ∃ wo : World, wo = wr := ⟨_, rfl⟩
      have hlen := tkL_len T ps k
      have HK := Lib.hid hK
      obtain ⟨d0, d1, d2, d3⟩ := cells4 hK.tb
      obtain ⟨A2, c2, hv, hc2, hcm2, hrd2, -⟩ := hK.lp
      subst hv
      rw [hlen] at HK hc2 d0
      have HL := Lib.hid hlen
      clear hK hlen
      by_cases hlt : k < ps.length
      · obtain ⟨p, hp⟩ : ∃ p, ps[k]? = some p := ⟨_, List.getElem?_eq_getElem hlt⟩
        obtain ⟨hpk, hnx⟩ := tkL_step (T := T) hp
        have hsn := whichP_snoc (due T) hp
        have hl := whichP_len (due T) ps k
        have hascL : Asc (tkL T ps k) := by unfold Asc; rw [tkL_pids]; exact HA.out
        obtain ⟨ad, rfl, hat⟩ := hrd2.at hpk
        obtain ⟨a0, a1, a2, a3, a4, a5⟩ := hat
        have hone := oneP_at hascL hpk
        have e33 : (wo.alloc (.cells #[I p.pid, I p.parent, I p.state, I p.code, I p.until_, .bool p.killed] 145)).cell? ⟨w.heap.size, 3, none⟩ = some (I T) := cell_alloc d3 _
        have hki : (k : Int) < ps.length := by omega
        have HN := Lib.hid hsn
        have HX := Lib.hid hnx
        cases hd : due T p
        · have hdc : ((p.state == 2) = false) ∨ ((p.state == 2) = true ∧ decide (p.until_ ≤ T) = false) := by
            unfold due at hd
            cases e1 : (p.state == 2) <;> simp_all
          have hstay : (tkL T ps k).set k (tkR T p) = tkL T ps k := by
            unfold tkR
            rw [hd]
            exact set_same' hpk
          have HST := Lib.hid (hnx.trans hstay)
          rw [hd] at HN
          clear hd hone hascL hpk hnx hsn hp hrd2 hstay
          rcases hdc with e1 | ⟨e1, e2⟩
          all_goals
            go_wp2_with fail
            go_roundw
            case rel => exact ⟨k + 1, _, by omega, by go_num, by rw [HST.out, HN.out]; exact HK.out.safe ((But.refl _ _).alloc _)⟩
            case measure => simp [intOf]; omega
        · have hdc : (p.state == 2) = true ∧ decide (p.until_ ≤ T) = true := by
            unfold due at hd
            cases e1 : (p.state == 2) <;> simp_all
          obtain ⟨e1, e2⟩ := hdc
          have hpp : tkR T p = { p with state := 1, until_ := 0 } := by unfold tkR; rw [hd]; rfl
          rw [hpp] at HX
          rw [hd, if_pos rfl] at HN
          have hone' : oneP (tkL T ps k) (PR.pid { p with state := 1, until_ := 0 }) = some k := hone
          have hP := fun W' (hs : Safe wo W') => rput_any base (.slice (some ad) ps.length c2) (tkL T ps k) most last T k { p with state := 1, until_ := 0 } W' (HK.out.lp.safe hs) (by rw [HL.out]; exact h16) hone'
          have HP := Lib.hid hP
          obtain ⟨rs2, hrs2⟩ : ∃ rs2, rs2 = (tkL T ps k).set k { p with state := 1, until_ := 0 } := ⟨_, rfl⟩
          rw [← hrs2] at HP HX
          have hl2 : rs2.length = ps.length := by rw [hrs2, List.length_set]; exact HL.out
          have HL2 := Lib.hid hl2
          generalize whichP (due T) (ps.take k) = L at *
          have hbw : base ≤ wo.heap.size := Nat.le_trans hb HK.out.sf.size
          have hbx : w.heap.size < wo.heap.size := HK.out.tb.lt
          clear hd hone hone' hascL hpk hnx hsn hp hrd2 hpp hP hrs2 hl2
          go_wp2_with fail
          refine (HP.out _ ((But.refl _ _).alloc _)).mono ?_
          rintro e w7 ⟨v7, rfl, hlp7, hs7⟩
          have hs9 : Safe wo w7 := ((But.refl (fun _ => False) wo).alloc (.cells (encR { p with state := 1, until_ := 0 }).toArray 145)).trans hs7
          have hb5 : Blk w7 wo.heap.size 145 (encR { p with state := 1, until_ := 0 }).toArray := (Blk.new wo 145 (encR { p with state := 1, until_ := 0 }).toArray).but hs7 id
          have hK7 := (HK.out.safe hs9).put (hlp7.lower (Nat.le_trans hbw (((But.refl (fun _ => False) wo).alloc (.cells (encR { p with state := 1, until_ := 0 }).toArray 145)).size))) (Nat.le_refl _)
          obtain ⟨A7, c7, hv7, -⟩ := hlp7
          subst hv7
          rw [HL2.out] at hK7
          have hT7 := HK.out.tb.but hs9 id
          obtain ⟨x0, x1, x2, x3⟩ := cells4 hT7
          obtain ⟨f0, f1, f2, f3⟩ := frz4 hT7
          obtain ⟨y0, y1, y2, y3, y4, y5⟩ := cells6 hb5
          have HK7 := Lib.hid hK7
          have h63 : L.length + 1 ≤ maxLen := by simp [maxLen]; omega
          have hby : (L.length + 1) * 8 ≤ 140737488355328 := by omega
          have hone : ∀ u ∈ (#[I p.pid] : Array Value).toList, u.oneCell' = true := by simp [Value.oneCell']
          have hnn : ¬ wo.heap.size = w.heap.size := by omega
          have hnn2 : ¬ w.heap.size = wo.heap.size := by omega
          rw [HL2.out]
          clear hs7 hs9 hb5 hK7 hT7
          obtain ⟨W8, hW8⟩ : ∃ W8, W8 = w7.setCells w.heap.size 0 [.slice A7 ps.length c7, I most, I last, I T] := ⟨_, rfl⟩
          have HW8 := Lib.hid hW8
          rw [← hW8] at HK7
          have z0 : W8.cell? ⟨wo.heap.size, 0, none⟩ = some (I p.pid) := by
            rw [hW8]
            exact ((But.refl (· = w.heap.size) w7).setCells _ _ (.inl rfl)).cell y0 (fun e => hnn e)
          have hszw : w.heap.size ≤ (W8.alloc (.cells #[I p.pid] 3)).heap.size := Nat.le_trans HK7.out.sf.size ((But.refl (fun _ => False) W8).alloc (.cells #[I p.pid] 3)).size
          clear hW8
          go_upto_region 14 with fail
          rw [show (((w7.setCell ⟨w.heap.size, 0, none⟩ (.slice A7 ps.length c7)).setCell ⟨w.heap.size, 1, none⟩ (.int .i64 most)).setCell ⟨w.heap.size, 2, none⟩ (.int .i64 last)).setCell ⟨w.heap.size, 3, none⟩ (.int .i64 T) = W8 from HW8.out.symm]
          go_wp2_with (at_builtin; (refine wpList_push slIntsP rfl (.tmp 53) (.tmp 56) rfl w.heap.size u6 L.length _ rfl (own_safe HK7.out.ow ((But.refl _ _).alloc _)) W8.heap.size 3 #[I p.pid] rfl (Blk.new _ _ _) rfl hone h63 hby hszw ?_); intro v1 w5 ho hg hd; have hK5 := (HK7.out.safe ((But.refl _ _).alloc _)).push ho hg; have HK5 := Lib.hid hK5; clear ho hg hd hK5)
          go_roundw
          case rel => exact ⟨k + 1, _, by omega, by go_num, by rw [HX.out, HN.out]; exact HK5.out⟩
          case measure => simp [intOf]; omega
      · obtain rfl : k = ps.length := by omega
        have hK := HK.out
        rw [tkL_all, List.take_length] at hK
        obtain ⟨r0, r1, r2, r3⟩ := cells4 hK.rb
        obtain ⟨f0, f1, f2, f3⟩ := frz4 hK.rb
        have hf4 := fin4 hK.sf (show w.heap.size ≤ w.heap.size + 1 by omega) hK.lp hK.rb [.slice A2 ps.length c2, I most, I last, I T]
        have ho4 := own_but_kept hK.ow ((But.refl (· = w.heap.size + 1) wo).setCells [.slice A2 ps.length c2, I most, I last, I T] 0 (.inl rfl)) (fun k hk e => by
          obtain ⟨_, cs', hB'⟩ := own_blkI hK.ow hk
          exact hB'.ne hK.rb (by decide) e)
        obtain ⟨Au, cu, hu, -⟩ := own_form hK.ow
        subst hu
        have HF := Lib.hid hf4
        have HO := Lib.hid ho4
        clear hK hf4 ho4 hrd2
        go_wp2
        exact bodyPost_ret (v := .tuple #[aggT (.slice A2 ps.length c2) most last T, .slice Au _ cu]) (by simp [results, Try.results90, go_sem, r0, r1, r2, r3]) rfl ⟨_, _, rfl, HF.out.1, HO.out, HF.out.2⟩
  · have HTT := Lib.hid h3
    clear h3
    go_enter Try.func90, Try.ntmps90
    go_wp2_with fail
    rw [HTT.out, ← HW.out]
    go_loopw [6, 7] (fun u i wr => ∃ (k : Nat) (v : Value), k ≤ ps.length ∧ i = .int .i64 k ∧ Tk w wr w.heap.size base v u (tkL T ps k) (whichP (due T) (ps.take k)) most last T) (fun _ i _ => ps.length - (intOf i).toNat)
    case atStart => exact ⟨0, _, by omega, rfl, H0.out⟩
    case round =>
      obtain ⟨k, v, hk, rfl, hK⟩ := hrel
      obtain ⟨wo, rfl⟩ : ∃ wo : World, wo = wr := ⟨_, rfl⟩
      have hlen := tkL_len T ps k
      have HK := Lib.hid hK
      obtain ⟨d0, d1, d2, d3⟩ := cells4 hK.tb
      obtain ⟨A2, c2, hv, hc2, hcm2, hrd2, -⟩ := hK.lp
      subst hv
      rw [hlen] at HK hc2 d0
      have HL := Lib.hid hlen
      clear hK hlen
      by_cases hlt : k < ps.length
      · obtain ⟨p, hp⟩ : ∃ p, ps[k]? = some p := ⟨_, List.getElem?_eq_getElem hlt⟩
        obtain ⟨hpk, hnx⟩ := tkL_step (T := T) hp
        have hsn := whichP_snoc (due T) hp
        have hl := whichP_len (due T) ps k
        have hascL : Asc (tkL T ps k) := by unfold Asc; rw [tkL_pids]; exact HA.out
        obtain ⟨ad, rfl, hat⟩ := hrd2.at hpk
        obtain ⟨a0, a1, a2, a3, a4, a5⟩ := hat
        have hone := oneP_at hascL hpk
        have e33 : (wo.alloc (.cells #[I p.pid, I p.parent, I p.state, I p.code, I p.until_, .bool p.killed] 145)).cell? ⟨w.heap.size, 3, none⟩ = some (I T) := cell_alloc d3 _
        have hki : (k : Int) < ps.length := by omega
        have HN := Lib.hid hsn
        have HX := Lib.hid hnx
        cases hd : due T p
        · have hdc : ((p.state == 2) = false) ∨ ((p.state == 2) = true ∧ decide (p.until_ ≤ T) = false) := by
            unfold due at hd
            cases e1 : (p.state == 2) <;> simp_all
          have hstay : (tkL T ps k).set k (tkR T p) = tkL T ps k := by
            unfold tkR
            rw [hd]
            exact set_same' hpk
          have HST := Lib.hid (hnx.trans hstay)
          rw [hd] at HN
          clear hd hone hascL hpk hnx hsn hp hrd2 hstay
          rcases hdc with e1 | ⟨e1, e2⟩
          all_goals
            go_wp2_with fail
            go_roundw
            case rel => exact ⟨k + 1, _, by omega, by go_num, by rw [HST.out, HN.out]; exact HK.out.safe ((But.refl _ _).alloc _)⟩
            case measure => simp [intOf]; omega
        · have hdc : (p.state == 2) = true ∧ decide (p.until_ ≤ T) = true := by
            unfold due at hd
            cases e1 : (p.state == 2) <;> simp_all
          obtain ⟨e1, e2⟩ := hdc
          have hpp : tkR T p = { p with state := 1, until_ := 0 } := by unfold tkR; rw [hd]; rfl
          rw [hpp] at HX
          rw [hd, if_pos rfl] at HN
          have hone' : oneP (tkL T ps k) (PR.pid { p with state := 1, until_ := 0 }) = some k := hone
          have hP := fun W' (hs : Safe wo W') => rput_any base (.slice (some ad) ps.length c2) (tkL T ps k) most last T k { p with state := 1, until_ := 0 } W' (HK.out.lp.safe hs) (by rw [HL.out]; exact h16) hone'
          have HP := Lib.hid hP
          obtain ⟨rs2, hrs2⟩ : ∃ rs2, rs2 = (tkL T ps k).set k { p with state := 1, until_ := 0 } := ⟨_, rfl⟩
          rw [← hrs2] at HP HX
          have hl2 : rs2.length = ps.length := by rw [hrs2, List.length_set]; exact HL.out
          have HL2 := Lib.hid hl2
          generalize whichP (due T) (ps.take k) = L at *
          have hbw : base ≤ wo.heap.size := Nat.le_trans hb HK.out.sf.size
          have hbx : w.heap.size < wo.heap.size := HK.out.tb.lt
          clear hd hone hone' hascL hpk hnx hsn hp hrd2 hpp hP hrs2 hl2
          go_wp2_with fail
          refine (HP.out _ ((But.refl _ _).alloc _)).mono ?_
          rintro e w7 ⟨v7, rfl, hlp7, hs7⟩
          have hs9 : Safe wo w7 := ((But.refl (fun _ => False) wo).alloc (.cells (encR { p with state := 1, until_ := 0 }).toArray 145)).trans hs7
          have hb5 : Blk w7 wo.heap.size 145 (encR { p with state := 1, until_ := 0 }).toArray := (Blk.new wo 145 (encR { p with state := 1, until_ := 0 }).toArray).but hs7 id
          have hK7 := (HK.out.safe hs9).put (hlp7.lower (Nat.le_trans hbw (((But.refl (fun _ => False) wo).alloc (.cells (encR { p with state := 1, until_ := 0 }).toArray 145)).size))) (Nat.le_refl _)
          obtain ⟨A7, c7, hv7, -⟩ := hlp7
          subst hv7
          rw [HL2.out] at hK7
          have hT7 := HK.out.tb.but hs9 id
          obtain ⟨x0, x1, x2, x3⟩ := cells4 hT7
          obtain ⟨f0, f1, f2, f3⟩ := frz4 hT7
          obtain ⟨y0, y1, y2, y3, y4, y5⟩ := cells6 hb5
          have HK7 := Lib.hid hK7
          have h63 : L.length + 1 ≤ maxLen := by simp [maxLen]; omega
          have hby : (L.length + 1) * 8 ≤ 140737488355328 := by omega
          have hone : ∀ u ∈ (#[I p.pid] : Array Value).toList, u.oneCell' = true := by simp [Value.oneCell']
          have hnn : ¬ wo.heap.size = w.heap.size := by omega
          have hnn2 : ¬ w.heap.size = wo.heap.size := by omega
          rw [HL2.out]
          clear hs7 hs9 hb5 hK7 hT7
          obtain ⟨W8, hW8⟩ : ∃ W8, W8 = w7.setCells w.heap.size 0 [.slice A7 ps.length c7, I most, I last, I T] := ⟨_, rfl⟩
          have HW8 := Lib.hid hW8
          rw [← hW8] at HK7
          have z0 : W8.cell? ⟨wo.heap.size, 0, none⟩ = some (I p.pid) := by
            rw [hW8]
            exact ((But.refl (· = w.heap.size) w7).setCells _ _ (.inl rfl)).cell y0 (fun e => hnn e)
          have hszw : w.heap.size ≤ (W8.alloc (.cells #[I p.pid] 3)).heap.size := Nat.le_trans HK7.out.sf.size ((But.refl (fun _ => False) W8).alloc (.cells #[I p.pid] 3)).size
          clear hW8
          go_upto_region 14 with fail
          rw [show (((w7.setCell ⟨w.heap.size, 0, none⟩ (.slice A7 ps.length c7)).setCell ⟨w.heap.size, 1, none⟩ (.int .i64 most)).setCell ⟨w.heap.size, 2, none⟩ (.int .i64 last)).setCell ⟨w.heap.size, 3, none⟩ (.int .i64 T) = W8 from HW8.out.symm]
          go_wp2_with (at_builtin; (refine wpList_push slIntsP rfl (.tmp 53) (.tmp 56) rfl w.heap.size u6 L.length _ rfl (own_safe HK7.out.ow ((But.refl _ _).alloc _)) W8.heap.size 3 #[I p.pid] rfl (Blk.new _ _ _) rfl hone h63 hby hszw ?_); intro v1 w5 ho hg hd; have hK5 := (HK7.out.safe ((But.refl _ _).alloc _)).push ho hg; have HK5 := Lib.hid hK5; clear ho hg hd hK5)
          go_roundw
          case rel => exact ⟨k + 1, _, by omega, by go_num, by rw [HX.out, HN.out]; exact HK5.out⟩
          case measure => simp [intOf]; omega
      · obtain rfl : k = ps.length := by omega
        have hK := HK.out
        rw [tkL_all, List.take_length] at hK
        obtain ⟨r0, r1, r2, r3⟩ := cells4 hK.rb
        obtain ⟨f0, f1, f2, f3⟩ := frz4 hK.rb
        have hf4 := fin4 hK.sf (show w.heap.size ≤ w.heap.size + 1 by omega) hK.lp hK.rb [.slice A2 ps.length c2, I most, I last, I T]
        have ho4 := own_but_kept hK.ow ((But.refl (· = w.heap.size + 1) wo).setCells [.slice A2 ps.length c2, I most, I last, I T] 0 (.inl rfl)) (fun k hk e => by
          obtain ⟨_, cs', hB'⟩ := own_blkI hK.ow hk
          exact hB'.ne hK.rb (by decide) e)
        obtain ⟨Au, cu, hu, -⟩ := own_form hK.ow
        subst hu
        have HF := Lib.hid hf4
        have HO := Lib.hid ho4
        clear hK hf4 ho4 hrd2
        go_wp2
        exact bodyPost_ret (v := .tuple #[aggT (.slice A2 ps.length c2) most last T, .slice Au _ cu]) (by simp [results, Try.results90, go_sem, r0, r1, r2, r3]) rfl ⟨_, _, rfl, HF.out.1, HO.out, HF.out.2⟩
  · go_enter Try.func90, Try.ntmps90
    go_wp2_with fail
    rw [← HW.out]
    go_loopw [6, 7] (fun u i wr => ∃ (k : Nat) (v : Value), k ≤ ps.length ∧ i = .int .i64 k ∧ Tk w wr w.heap.size base v u (tkL 1099511627776 ps k) (whichP (due 1099511627776) (ps.take k)) most last 1099511627776) (fun _ i _ => ps.length - (intOf i).toNat)
    case atStart => exact ⟨0, _, by omega, rfl, H0.out⟩
    case round =>
      obtain ⟨k, v, hk, rfl, hK⟩ := hrel
      obtain ⟨wo, rfl⟩ : ∃ wo : World, wo = wr := ⟨_, rfl⟩
      have hlen := tkL_len 1099511627776 ps k
      have HK := Lib.hid hK
      obtain ⟨d0, d1, d2, d3⟩ := cells4 hK.tb
      obtain ⟨A2, c2, hv, hc2, hcm2, hrd2, -⟩ := hK.lp
      subst hv
      rw [hlen] at HK hc2 d0
      have HL := Lib.hid hlen
      clear hK hlen
      by_cases hlt : k < ps.length
      · obtain ⟨p, hp⟩ : ∃ p, ps[k]? = some p := ⟨_, List.getElem?_eq_getElem hlt⟩
        obtain ⟨hpk, hnx⟩ := tkL_step (T := 1099511627776) hp
        have hsn := whichP_snoc (due 1099511627776) hp
        have hl := whichP_len (due 1099511627776) ps k
        have hascL : Asc (tkL 1099511627776 ps k) := by unfold Asc; rw [tkL_pids]; exact HA.out
        obtain ⟨ad, rfl, hat⟩ := hrd2.at hpk
        obtain ⟨a0, a1, a2, a3, a4, a5⟩ := hat
        have hone := oneP_at hascL hpk
        have e33 : (wo.alloc (.cells #[I p.pid, I p.parent, I p.state, I p.code, I p.until_, .bool p.killed] 145)).cell? ⟨w.heap.size, 3, none⟩ = some (I 1099511627776) := cell_alloc d3 _
        have hki : (k : Int) < ps.length := by omega
        have HN := Lib.hid hsn
        have HX := Lib.hid hnx
        cases hd : due 1099511627776 p
        · have hdc : ((p.state == 2) = false) ∨ ((p.state == 2) = true ∧ decide (p.until_ ≤ 1099511627776) = false) := by
            unfold due at hd
            cases e1 : (p.state == 2) <;> simp_all
          have hstay : (tkL 1099511627776 ps k).set k (tkR 1099511627776 p) = tkL 1099511627776 ps k := by
            unfold tkR
            rw [hd]
            exact set_same' hpk
          have HST := Lib.hid (hnx.trans hstay)
          rw [hd] at HN
          clear hd hone hascL hpk hnx hsn hp hrd2 hstay
          rcases hdc with e1 | ⟨e1, e2⟩
          all_goals
            go_wp2_with fail
            go_roundw
            case rel => exact ⟨k + 1, _, by omega, by go_num, by rw [HST.out, HN.out]; exact HK.out.safe ((But.refl _ _).alloc _)⟩
            case measure => simp [intOf]; omega
        · have hdc : (p.state == 2) = true ∧ decide (p.until_ ≤ 1099511627776) = true := by
            unfold due at hd
            cases e1 : (p.state == 2) <;> simp_all
          obtain ⟨e1, e2⟩ := hdc
          have hpp : tkR 1099511627776 p = { p with state := 1, until_ := 0 } := by unfold tkR; rw [hd]; rfl
          rw [hpp] at HX
          rw [hd, if_pos rfl] at HN
          have hone' : oneP (tkL 1099511627776 ps k) (PR.pid { p with state := 1, until_ := 0 }) = some k := hone
          have hP := fun W' (hs : Safe wo W') => rput_any base (.slice (some ad) ps.length c2) (tkL 1099511627776 ps k) most last 1099511627776 k { p with state := 1, until_ := 0 } W' (HK.out.lp.safe hs) (by rw [HL.out]; exact h16) hone'
          have HP := Lib.hid hP
          obtain ⟨rs2, hrs2⟩ : ∃ rs2, rs2 = (tkL 1099511627776 ps k).set k { p with state := 1, until_ := 0 } := ⟨_, rfl⟩
          rw [← hrs2] at HP HX
          have hl2 : rs2.length = ps.length := by rw [hrs2, List.length_set]; exact HL.out
          have HL2 := Lib.hid hl2
          generalize whichP (due 1099511627776) (ps.take k) = L at *
          have hbw : base ≤ wo.heap.size := Nat.le_trans hb HK.out.sf.size
          have hbx : w.heap.size < wo.heap.size := HK.out.tb.lt
          clear hd hone hone' hascL hpk hnx hsn hp hrd2 hpp hP hrs2 hl2
          go_wp2_with fail
          refine (HP.out _ ((But.refl _ _).alloc _)).mono ?_
          rintro e w7 ⟨v7, rfl, hlp7, hs7⟩
          have hs9 : Safe wo w7 := ((But.refl (fun _ => False) wo).alloc (.cells (encR { p with state := 1, until_ := 0 }).toArray 145)).trans hs7
          have hb5 : Blk w7 wo.heap.size 145 (encR { p with state := 1, until_ := 0 }).toArray := (Blk.new wo 145 (encR { p with state := 1, until_ := 0 }).toArray).but hs7 id
          have hK7 := (HK.out.safe hs9).put (hlp7.lower (Nat.le_trans hbw (((But.refl (fun _ => False) wo).alloc (.cells (encR { p with state := 1, until_ := 0 }).toArray 145)).size))) (Nat.le_refl _)
          obtain ⟨A7, c7, hv7, -⟩ := hlp7
          subst hv7
          rw [HL2.out] at hK7
          have hT7 := HK.out.tb.but hs9 id
          obtain ⟨x0, x1, x2, x3⟩ := cells4 hT7
          obtain ⟨f0, f1, f2, f3⟩ := frz4 hT7
          obtain ⟨y0, y1, y2, y3, y4, y5⟩ := cells6 hb5
          have HK7 := Lib.hid hK7
          have h63 : L.length + 1 ≤ maxLen := by simp [maxLen]; omega
          have hby : (L.length + 1) * 8 ≤ 140737488355328 := by omega
          have hone : ∀ u ∈ (#[I p.pid] : Array Value).toList, u.oneCell' = true := by simp [Value.oneCell']
          have hnn : ¬ wo.heap.size = w.heap.size := by omega
          have hnn2 : ¬ w.heap.size = wo.heap.size := by omega
          rw [HL2.out]
          clear hs7 hs9 hb5 hK7 hT7
          obtain ⟨W8, hW8⟩ : ∃ W8, W8 = w7.setCells w.heap.size 0 [.slice A7 ps.length c7, I most, I last, I 1099511627776] := ⟨_, rfl⟩
          have HW8 := Lib.hid hW8
          rw [← hW8] at HK7
          have z0 : W8.cell? ⟨wo.heap.size, 0, none⟩ = some (I p.pid) := by
            rw [hW8]
            exact ((But.refl (· = w.heap.size) w7).setCells _ _ (.inl rfl)).cell y0 (fun e => hnn e)
          have hszw : w.heap.size ≤ (W8.alloc (.cells #[I p.pid] 3)).heap.size := Nat.le_trans HK7.out.sf.size ((But.refl (fun _ => False) W8).alloc (.cells #[I p.pid] 3)).size
          clear hW8
          go_upto_region 14 with fail
          rw [show (((w7.setCell ⟨w.heap.size, 0, none⟩ (.slice A7 ps.length c7)).setCell ⟨w.heap.size, 1, none⟩ (.int .i64 most)).setCell ⟨w.heap.size, 2, none⟩ (.int .i64 last)).setCell ⟨w.heap.size, 3, none⟩ (.int .i64 1099511627776) = W8 from HW8.out.symm]
          go_wp2_with (at_builtin; (refine wpList_push slIntsP rfl (.tmp 53) (.tmp 56) rfl w.heap.size u6 L.length _ rfl (own_safe HK7.out.ow ((But.refl _ _).alloc _)) W8.heap.size 3 #[I p.pid] rfl (Blk.new _ _ _) rfl hone h63 hby hszw ?_); intro v1 w5 ho hg hd; have hK5 := (HK7.out.safe ((But.refl _ _).alloc _)).push ho hg; have HK5 := Lib.hid hK5; clear ho hg hd hK5)
          go_roundw
          case rel => exact ⟨k + 1, _, by omega, by go_num, by rw [HX.out, HN.out]; exact HK5.out⟩
          case measure => simp [intOf]; omega
      · obtain rfl : k = ps.length := by omega
        have hK := HK.out
        rw [tkL_all, List.take_length] at hK
        obtain ⟨r0, r1, r2, r3⟩ := cells4 hK.rb
        obtain ⟨f0, f1, f2, f3⟩ := frz4 hK.rb
        have hf4 := fin4 hK.sf (show w.heap.size ≤ w.heap.size + 1 by omega) hK.lp hK.rb [.slice A2 ps.length c2, I most, I last, I 1099511627776]
        have ho4 := own_but_kept hK.ow ((But.refl (· = w.heap.size + 1) wo).setCells [.slice A2 ps.length c2, I most, I last, I 1099511627776] 0 (.inl rfl)) (fun k hk e => by
          obtain ⟨_, cs', hB'⟩ := own_blkI hK.ow hk
          exact hB'.ne hK.rb (by decide) e)
        obtain ⟨Au, cu, hu, -⟩ := own_form hK.ow
        subst hu
        have HF := Lib.hid hf4
        have HO := Lib.hid ho4
        clear hK hf4 ho4 hrd2
        go_wp2
        exact bodyPost_ret (v := .tuple #[aggT (.slice A2 ps.length c2) most last 1099511627776, .slice Au _ cu]) (by simp [results, Try.results90, go_sem, r0, r1, r2, r3]) rfl ⟨_, _, rfl, HF.out.1, HO.out, HF.out.2⟩
end Go.Proofs.Ytlojadpbdbhmiaa
