/- Processes: Tick. -/
import Derived.Test.YtlojadpbdbhmiaaXc
namespace Go.Proofs.Ytlojadpbdbhmiaa
open Go.RowKit
set_option linter.unusedSimpArgs false
set_option linter.unusedVariables false

def due (now : Int) (p : PR) : Bool := p.state == 2 && decide (p.until_ ≤ now)
set_option maxRecDepth 100000 in
set_option maxHeartbeats 1000000 in
theorem tick1_any (a gt : Nat) (v : Value) (most last now : Int) (p : PR) (w : World) (ha : Blk w a 24 #[.pointer (some ⟨gt, 0, none⟩)]) (ht : Blk w gt 104 #[v, I most, I last, I now]) :
    Calls Try.prog 59 #[aggR p, .pointer (some ⟨a, 0, none⟩)] w fun e w' => e = .returned (.bool (due now p)) ∧ Safe w w' := by
  have c0 : w.cell? ⟨a, 0, none⟩ = some (.pointer (some ⟨gt, 0, none⟩)) := ha.cell' (i := 0) rfl
  have c3 : w.cell? ⟨gt, 3, none⟩ = some (I now) := ht.cell' (i := 3) rfl
  have hla := ha.lt
  have hlt := ht.lt
  clear ha ht
  by_cases h2 : p.state = 2
  · have hb : (p.state == 2) = true := by simpa using h2
    by_cases h3 : p.until_ ≤ now
    · have e : due now p = true := by unfold due; rw [hb]; simp [h3]
      rw [e]
      clear e h2
      go_enter Try.func59, Try.ntmps59
      go_wp2_with fail
      go_quiet (fail)
      go_wp2
      go_ret
      exact ⟨rfl, ((But.refl _ _).alloc _).drewN _⟩
    · have e : due now p = false := by unfold due; simp [h3]
      rw [e]
      have h3b : decide (p.until_ ≤ now) = false := by simpa using h3
      clear e h2
      go_enter Try.func59, Try.ntmps59
      go_wp2_with fail
      go_quiet (fail)
      go_wp2
      go_ret
      exact ⟨rfl, ((But.refl _ _).alloc _).drewN _⟩
  · have hb : (p.state == 2) = false := by simpa using h2
    have e : due now p = false := by unfold due; rw [hb]; rfl
    rw [e]
    clear e h2
    go_enter Try.func59, Try.ntmps59
    go_wp2_with fail
    go_quiet (fail)
    go_wp2
    go_ret
    exact ⟨rfl, ((But.refl _ _).alloc _).drewN _⟩
def wakeOne (ps : List PR) (pid : Int) : List PR := match oneP ps pid with
  | some k => ps.set k (wakeR (ps.getD k zeroR))
  | none => ps
def wakeAll (ps : List PR) (out : List Int) : List PR := out.foldl wakeOne ps
theorem wakeR_pid (p : PR) : (wakeR p).pid = p.pid := by unfold wakeR; split <;> rfl
theorem set_pids {ps : List PR} {k : Nat} {p q : PR} (hk : ps[k]? = some p) (hq : q.pid = p.pid) : (ps.set k q).map (·.pid) = ps.map (·.pid) := by
  rw [List.map_set, hq]
  exact set_same' (by rw [List.getElem?_map, hk]; rfl)
theorem wakeOne_pids (ps : List PR) (pid : Int) : (wakeOne ps pid).map (·.pid) = ps.map (·.pid) := by
  unfold wakeOne
  cases hk : oneP ps pid with
  | none => rfl
  | some k =>
    obtain ⟨p, hp, _, _⟩ := oneP_get hk
    exact set_pids hp (by rw [List.getD_eq_getElem?_getD, hp]; exact wakeR_pid p)
theorem wakeAll_pids (out : List Int) : ∀ ps : List PR, (wakeAll ps out).map (·.pid) = ps.map (·.pid) := by
  induction out with
  | nil => intro ps; rfl
  | cons x r ih => intro ps; show (wakeAll (wakeOne ps x) r).map _ = _; rw [ih, wakeOne_pids]
theorem wakeAll_snoc (ps : List PR) (out : List Int) (x : Int) : wakeAll ps (out ++ [x]) = wakeOne (wakeAll ps out) x := by simp [wakeAll, List.foldl_append]
theorem oneP_of_mem {ps : List PR} {pid : Int} (h : pid ∈ ps.map (·.pid)) : ∃ k, oneP ps pid = some k := by
  rw [List.mem_map] at h
  obtain ⟨p, hp, e⟩ := h
  cases hk : oneP ps pid with
  | some k => exact ⟨k, rfl⟩
  | none =>
    unfold oneP at hk
    rw [List.findIdx?_eq_none_iff] at hk
    have := hk p hp
    simp [e] at this
theorem whichP_mem {f : PR → Bool} {ps : List PR} {x : Int} (h : x ∈ whichP f ps) : x ∈ ps.map (·.pid) := by
  unfold whichP at h
  rw [List.mem_map] at h ⊢
  obtain ⟨p, hp, e⟩ := h
  exact ⟨p, (List.mem_filter.1 hp).1, e⟩
def tickN (now n : Int) : Int := now + max 0 (min n (longest - now))
/-- What Tick answers. -/
def TickRet (w w' : World) (gt B : Nat) (v : Value) (e : Ending) (ps : List PR) (most last now : Int) (out : List Int) : Prop :=
  ∃ u, e = .returned u ∧ w'.ownsRow w.heap.size 3 1 u out.length (out.map I) ∧ TRet w w' gt B v ps most last now
set_option maxRecDepth 100000 in
set_option maxHeartbeats 2000000 in
theorem ptick_any (gt B : Nat) (v : Value) (ps : List PR) (most last now n : Int) (w : World) (h : TW w gt B v ps most last now) (hn : 0 < ps.length) (h0 : 0 ≤ now) (h1 : now ≤ longest) (hn1 : n ≤ 9223372036854775807) (hn2 : -9223372036854775808 ≤ n) :
    Calls Try.prog 14 #[.pointer (some ⟨gt, 0, none⟩), .int .i64 n] w fun e w' => TickRet w w' gt B v e (wakeAll ps (whichP (due (tickN now n)) ps)) most last (tickN now n) (whichP (due (tickN now n)) ps) := by
  obtain ⟨g, c, rfl, hgl, hBg⟩ := h.form hn
  obtain ⟨T, hT⟩ : ∃ T, T = tickN now n := ⟨_, rfl⟩
  rw [← hT]
  have hmc : (n ≤ 1099511627776 - now ∧ n ≤ 0 ∧ T = now) ∨ (n ≤ 1099511627776 - now ∧ ¬ n ≤ 0 ∧ 0 < n ∧ T = now + n) ∨ (¬ n ≤ 1099511627776 - now ∧ ¬ 1099511627776 - now ≤ 0 ∧ 0 < 1099511627776 - now ∧ T = now + (1099511627776 - now)) ∨ (¬ n ≤ 1099511627776 - now ∧ 1099511627776 - now ≤ 0 ∧ T = now) := by
    unfold tickN longest at hT; unfold longest at h1; omega
  unfold longest at h1
  have H := Lib.hid h
  have hne := h.ne (k := g) rfl
  have hgt := h.hp.lt
  obtain ⟨W1, hW1⟩ : ∃ W1, W1 = w.alloc (.cells #[.pointer (some ⟨gt, 0, none⟩)] 24) := ⟨_, rfl⟩
  have hsW : Safe w W1 := by rw [hW1]; exact (But.refl _ w).alloc _
  have hba : Blk W1 w.heap.size 24 #[.pointer (some ⟨gt, 0, none⟩)] := by rw [hW1]; exact Blk.new _ _ _
  have hTW := h.safe hsW
  have a0 : W1.cell? ⟨w.heap.size, 0, none⟩ = some (.pointer (some ⟨gt, 0, none⟩)) := hba.cell' (i := 0) rfl
  have n3 : W1.cell? ⟨gt, 3, none⟩ = some (I now) := hTW.hp.cell' (i := 3) rfl
  have f3 := hTW.hp.frozen 3
  have HW1 := Lib.hid hW1
  have HSW := Lib.hid hsW
  have HBA := Lib.hid hba
  have HTW := Lib.hid hTW
  have HTT := Lib.hid hT
  clear hW1 hsW hba hTW h hT
  rcases hmc with ⟨m1, m2, m3⟩ | ⟨m1, m2, m4, m3⟩ | ⟨m1, m2, m4, m3⟩ | ⟨m1, m2, m3⟩
  all_goals
    have HT := Lib.hid m3
    clear m3
    go_enter Try.func14, Try.ntmps14
    go_wp2_with fail
    rw [← HW1.out]
    go_region
    rw [← HT.out]
    obtain ⟨W2, hW2⟩ : ∃ W2, W2 = (W1.setCell ⟨gt, 3, none⟩ (.int .i64 T)).drew := ⟨_, rfl⟩
    have hs2 : But (· = gt) W1 W2 := by rw [hW2]; exact ((But.refl (· = gt) W1).setCell (p := ⟨gt, 3, none⟩) (.inl rfl) _).drew
    have hp2 : Blk W2 gt 104 #[.slice (some ⟨g, 0, none⟩) ps.length c, I most, I last, I T] := by rw [hW2]; exact (HTW.out.hp.set 3 _).drew
    have hT2 : TW W2 gt B (.slice (some ⟨g, 0, none⟩) ps.length c) ps most last T := ⟨hp2, own_but_kept HTW.out.ho hs2 (fun k hk e => HTW.out.ne hk e), HTW.out.len⟩
    have ha2 : Blk W2 w.heap.size 24 #[.pointer (some ⟨gt, 0, none⟩)] := HBA.out.but hs2 (fun e => by have : w.heap.size = gt := e; omega)
    have hsw2 : But (fun k => k = gt ∨ k = g) w W2 := (Safe.but HSW.out).trans (hs2.mono (fun k _ e => .inl e))
    rw [← hW2]
    have hwh := pwhich_any 59 (.pointer (some ⟨w.heap.size, 0, none⟩)) (due T) gt B g c ps most last T W2 hT2 (fun args W => by go_simp) (fun p W hW => tick1_any w.heap.size gt _ most last T p W (ha2.but hW id) (hp2.but hW id))
    have b0 : W2.cell? ⟨w.heap.size, 0, none⟩ = some (.pointer (some ⟨gt, 0, none⟩)) := ha2.cell' (i := 0) rfl
    have hmem : ∀ x ∈ whichP (due T) ps, x ∈ ps.map (·.pid) := fun x hx => whichP_mem hx
    have hlw : (whichP (due T) ps).length ≤ 16 := by
      have := whichP_len (due T) ps ps.length
      rw [List.take_length] at this
      have := HTW.out.len
      omega
    generalize hOUT : whichP (due T) ps = out at *
    have HWH := Lib.hid hwh
    have HW2 := Lib.hid hW2
    have HS2 := Lib.hid hsw2
    have HP2 := Lib.hid hp2
    have HT2 := Lib.hid hT2
    have HA2 := Lib.hid ha2
    have HM := Lib.hid hmem
    have HOO := Lib.hid hOUT
    clear hwh hW2 hs2 hp2 hT2 ha2 hmem hOUT hsw2 a0 n3 f3
    go_wp2_with fail
    refine (HWH.out).mono ?_
    rintro e w3 ⟨u, rfl, ho3, hs3⟩
    obtain ⟨Au, cu, rfl, hcu⟩ := own_form ho3
    have h3 := HT2.out.safe hs3
    have ha3 := HA2.out.but hs3 id
    have hlo3 := own_low ho3 (show w.heap.size ≤ _ from HS2.out.size)
    have hsw3 := HS2.out.trans (Safe.but (S := fun k => k = gt ∨ k = g) hs3)
    have H3 := Lib.hid h3
    have HA3 := Lib.hid ha3
    have HO3 := Lib.hid hlo3
    have HS3 := Lib.hid hsw3
    clear h3 ha3 hlo3 hsw3 ho3 hs3
    go_wp2_with fail
    go_loopw [28] (fun x wr => ∃ j : Nat, j ≤ out.length ∧ x = .int .i64 j ∧ TW wr gt B (.slice (some ⟨g, 0, none⟩) (wakeAll ps (out.take j)).length c) (wakeAll ps (out.take j)) most last T ∧ But (· = g) w3 wr) (fun x _ => out.length - (intOf x).toNat)
    case atStart => exact ⟨0, by omega, rfl, H3.out, But.refl _ _⟩
    case round =>
      obtain ⟨j, hj, rfl, hTj, hSj⟩ := hrel
      obtain ⟨wj, rfl⟩ : ∃ wj : World, wj = wr := ⟨_, rfl⟩
      have hgB := own_blk6 (k := g) H3.out.ho rfl
      obtain ⟨_, _, cs3, hB3⟩ := hgB
      have haj := HA3.out.but hSj (fun e => HA3.out.ne hB3 (by decide) e)
      have hoj := own_but_kept HO3.out hSj (fun k hk e => by
        obtain ⟨_, _, cs4, hB4⟩ := own_blk6 HO3.out hk
        exact hB4.ne hB3 (by decide) e)
      have e0 : wj.cell? ⟨w.heap.size, 0, none⟩ = some (.pointer (some ⟨gt, 0, none⟩)) := haj.cell' (i := 0) rfl
      by_cases hlt : j < out.length
      · obtain ⟨x, hx⟩ : ∃ x, out[j]? = some x := ⟨_, List.getElem?_eq_getElem hlt⟩
        obtain ⟨ad, hA, hcell⟩ := (Rd.of_own (enc := I) hoj).at hlt
        subst hA
        have ex : out[j] = x := by rw [List.getElem?_eq_getElem hlt] at hx; injection hx
        rw [ex] at hcell
        have hxm := HM.out x (by rw [← ex]; exact List.getElem_mem hlt)
        obtain ⟨k, hk⟩ := oneP_of_mem (ps := wakeAll ps (out.take j)) (pid := x) (by rw [wakeAll_pids]; exact hxm)
        obtain ⟨p, hp, hpid, hkl⟩ := oneP_get hk
        have hsn : wakeAll ps (out.take (j + 1)) = (wakeAll ps (out.take j)).set k (wakeR p) := by
          rw [List.take_succ_eq_append_getElem hlt, ex, wakeAll_snoc]
          unfold wakeOne
          rw [hk]
          simp only
          rw [List.getD_eq_getElem?_getD, hp]
          rfl
        have hone := one_yes gt B g c _ most last T x k wj hTj hk
        have hwk := fun W (hW : Safe wj W) => pwake_any gt B g c _ most last T k p W (hTj.safe hW) hp
        rw [← hsn] at hwk
        generalize wakeAll ps (out.take j) = psj at *
        generalize hpn : wakeAll ps (out.take (j + 1)) = psn at *
        have hji : (j : Int) < out.length := by omega
        have HON := Lib.hid hone
        have HWK := Lib.hid hwk
        have HSJ := Lib.hid hSj
        have HPN := Lib.hid hpn
        clear hone hwk hTj hSj haj hoj hx ex hxm hk hp hpid hsn hB3 hpn
        go_wp2_with fail
        refine (HON.out).mono ?_
        rintro _ w4 ⟨rfl, hs4⟩
        have HS4 := Lib.hid hs4
        clear hs4
        go_wp2_with fail
        refine (HWK.out _ HS4.out).mono ?_
        rintro _ w5 ⟨rfl, hT5, hs5⟩
        have hS5 := (HSJ.out.trans (Safe.but HS4.out)).trans hs5
        have HT5 := Lib.hid hT5
        have HS5 := Lib.hid hS5
        clear hT5 hS5 hs5
        go_wp2_with fail
        go_roundw
        case rel => exact ⟨j + 1, by omega, by go_num, by rw [HPN.out]; exact HT5.out, HS5.out⟩
        case measure => simp [intOf]; omega
      · obtain rfl : j = out.length := by omega
        rw [List.take_length] at hTj
        have HTJ := Lib.hid hTj
        have HOJ := Lib.hid hoj
        have HSJ := Lib.hid hSj
        clear hTj hoj hSj haj hB3
        go_wp2
        go_ret
        rw [HOO.out]
        refine ⟨_, rfl, HOJ.out, .slice (some ⟨g, 0, none⟩) (wakeAll ps out).length c, HTJ.out, ?_, fun k hk => .inl hk⟩
        exact (HS3.out.trans (HSJ.out.mono (fun k _ e => .inr e))).mono (fun k _ e => by
          rcases e with e | e
          · exact .inl e
          · right; rw [e]; rfl)
end Go.Proofs.Ytlojadpbdbhmiaa
