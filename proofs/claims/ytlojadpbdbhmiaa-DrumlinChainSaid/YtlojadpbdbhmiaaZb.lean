/- The reference's processes: put. -/
import Derived.Test.YtlojadpbdbhmiaaZa
namespace Go.Proofs.Ytlojadpbdbhmiaa
open Go.RowKit
set_option linter.unusedSimpArgs false
set_option linter.unusedVariables false

def PRet (w w' : World) (base : Nat) (e : Ending) (f : Value → Value) (ps : List PR) : Prop := ∃ v, e = .returned (f v) ∧ LP w' base v ps ∧ Safe w w'
theorem flatR_one (ps : List PR) : ∀ u ∈ ps.flatMap encR, u.oneCell' = true := by
  intro u hu
  rw [List.mem_flatMap] at hu
  obtain ⟨x, _, hx⟩ := hu
  exact encR_one x u hx
theorem box6 {W w1 : World} {S : Nat → Prop} {t : TypeId} {g : Nat} {p : PR} (hb : Blk W g t (encR p).toArray) (hg : But S W w1) (hn : ¬ S g) : Blk w1 g t (encR p).toArray := hb.but hg hn
theorem cells6 {W : World} {t : TypeId} {g : Nat} {p : PR} (h : Blk W g t (encR p).toArray) :
    W.cell? ⟨g, 0, none⟩ = some (I p.pid) ∧ W.cell? ⟨g, 1, none⟩ = some (I p.parent) ∧ W.cell? ⟨g, 2, none⟩ = some (I p.state) ∧ W.cell? ⟨g, 3, none⟩ = some (I p.code) ∧ W.cell? ⟨g, 4, none⟩ = some (I p.until_) ∧ W.cell? ⟨g, 5, none⟩ = some (.bool p.killed) :=
  ⟨h.cell' rfl, h.cell' rfl, h.cell' rfl, h.cell' rfl, h.cell' rfl, h.cell' rfl⟩
theorem cells4 {W : World} {t : TypeId} {g : Nat} {v a b c : Value} (h : Blk W g t #[v, a, b, c]) :
    W.cell? ⟨g, 0, none⟩ = some v ∧ W.cell? ⟨g, 1, none⟩ = some a ∧ W.cell? ⟨g, 2, none⟩ = some b ∧ W.cell? ⟨g, 3, none⟩ = some c :=
  ⟨h.cell' rfl, h.cell' rfl, h.cell' rfl, h.cell' rfl⟩
theorem frz4 {W : World} {t : TypeId} {g : Nat} {cs : Array Value} (h : Blk W g t cs) :
    W.frozen? ⟨g, 0, none⟩ = false ∧ W.frozen? ⟨g, 1, none⟩ = false ∧ W.frozen? ⟨g, 2, none⟩ = false ∧ W.frozen? ⟨g, 3, none⟩ = false :=
  ⟨h.frozen _, h.frozen _, h.frozen _, h.frozen _⟩
theorem own6c {w : World} {B g c : Nat} {ps : List PR} (h : w.ownsRow B 145 6 (.slice (some ⟨g, 0, none⟩) ps.length c) ps.length (ps.flatMap encR)) {k : Nat} (hk : k < ps.length) :
    ∃ q : PR, (w.cell? ⟨g, k * 6, none⟩ = some (I q.pid) ∧ w.cell? ⟨g, k * 6 + 1, none⟩ = some (I q.parent) ∧ w.cell? ⟨g, k * 6 + 2, none⟩ = some (I q.state) ∧ w.cell? ⟨g, k * 6 + 3, none⟩ = some (I q.code) ∧ w.cell? ⟨g, k * 6 + 4, none⟩ = some (I q.until_) ∧ w.cell? ⟨g, k * 6 + 5, none⟩ = some (.bool q.killed)) ∧
    w.frozen? ⟨g, k * 6, none⟩ = false ∧ w.frozen? ⟨g, k * 6 + 1, none⟩ = false ∧ w.frozen? ⟨g, k * 6 + 2, none⟩ = false ∧ w.frozen? ⟨g, k * 6 + 3, none⟩ = false ∧ w.frozen? ⟨g, k * 6 + 4, none⟩ = false ∧ w.frozen? ⟨g, k * 6 + 5, none⟩ = false := by
  obtain ⟨q, hq⟩ : ∃ q, ps[k]? = some q := ⟨_, List.getElem?_eq_getElem hk⟩
  have hf := (ownf_at encR_len h hq (j := 0) rfl).2
  exact ⟨q, ⟨(ownf_at encR_len h hq (j := 0) rfl).1, (ownf_at encR_len h hq (j := 1) rfl).1, (ownf_at encR_len h hq (j := 2) rfl).1, (ownf_at encR_len h hq (j := 3) rfl).1, (ownf_at encR_len h hq (j := 4) rfl).1, (ownf_at encR_len h hq (j := 5) rfl).1⟩, hf _, hf _, hf _, hf _, hf _, hf _⟩
theorem fin4 {w W : World} {base b : Nat} {v : Value} {ps : List PR} {cs : Array Value} (hs : Safe w W) (hb : w.heap.size ≤ b) (hlp : LP W base v ps) (hB : Blk W b 91 cs) (l : List Value) :
    LP (W.setCells b 0 l) base v ps ∧ Safe w (W.setCells b 0 l) :=
  ⟨hlp.but ((But.refl (· = b) W).setCells l 0 (.inl rfl)) (fun k hk e => hlp.ne hk hB (by decide) e), hs.setCells l 0 (.inr hb)⟩
theorem pushP_ready {w1 : World} {base : Nat} {v1 : Value} {ps : List PR} (ho : w1.ownsRow base 145 6 v1 (0 + ps.length) ([] ++ ps.flatMap encR)) (hl : 0 < ps.length) :
    ∃ g c1, v1 = .slice (some ⟨g, 0, none⟩) ps.length c1 ∧ base ≤ g ∧ Hid (w1.ownsRow base 145 6 (.slice (some ⟨g, 0, none⟩) ps.length c1) ps.length (ps.flatMap encR)) := by
  rw [Nat.zero_add, List.nil_append] at ho
  obtain ⟨g, c, cur, rfl, hb, _⟩ := ownf_open encR_len ho hl
  exact ⟨g, c, rfl, hb, Lib.hid ho⟩
set_option maxRecDepth 100000 in
set_option maxHeartbeats 2000000 in
theorem rput_any (base : Nat) (v : Value) (ps : List PR) (most last now : Int) (k : Nat) (p : PR) (w : World) (h : LP w base v ps) (h16 : ps.length ≤ 16) (hk : oneP ps p.pid = some k) :
    Calls Try.prog 101 #[aggT v most last now, aggR p] w fun e w' => PRet w w' w.heap.size e (fun v => aggT v most last now) (ps.set k p) := by
  obtain ⟨p0, hp0, _, hlt⟩ := oneP_get hk
  obtain ⟨A, c, rfl, hc, hcm, hrd, -⟩ := h
  obtain ⟨W, hW⟩ : ∃ W, W = (((w.alloc (.cells #[.slice A ps.length c, I most, I last, I now] 91)).alloc (.cells #[I p.pid, I p.parent, I p.state, I p.code, I p.until_, .bool p.killed] 145)).alloc (.cells #[.slice none 0 0, I 0, I 0, I 0] 91)).alloc (.cells #[] 145) := ⟨_, rfl⟩
  have h1 : Safe w W := by rw [hW]; exact ((((But.refl _ w).alloc _).alloc _).alloc _).alloc _
  have b0 : Blk W w.heap.size 91 #[.slice A ps.length c, I most, I last, I now] := by rw [hW]; exact (((Blk.new _ _ _).alloc _).alloc _).alloc _
  have b1 : Blk W (w.heap.size + 1) 145 (encR p).toArray := by rw [hW]; exact ((Blk.new' _ _ (by simp)).alloc _).alloc _
  have b2 : Blk W (w.heap.size + 2) 91 #[.slice none 0 0, I 0, I 0, I 0] := by rw [hW]; exact (Blk.new' _ _ (by simp)).alloc _
  have ho0 : W.ownsRow w.heap.size 145 6 (.slice (some ⟨w.heap.size + 3, 0, none⟩) 0 0) 0 [] := by
    rw [hW]
    have := World.ownsRow_lit (base := w.heap.size) (e := 145) (size := 6) (((w.alloc (.cells #[.slice A ps.length c, I most, I last, I now] 91)).alloc (.cells #[I p.pid, I p.parent, I p.state, I p.code, I p.until_, .bool p.killed] 145)).alloc (.cells #[.slice none 0 0, I 0, I 0, I 0] 91)) #[] 0 (by simp; omega) (by simp [maxLen]) rfl
    simpa using this
  have hcells : 0 < ps.length → ∃ ad, A = some ad ∧ ∀ j u, (ps.flatMap encR)[j]? = some u → W.cell? (ad.add j) = some u := fun hn => (hrd.but h1 (fun _ _ => id)) (by rw [flatR_len]; omega)
  have hml : (ps.flatMap encR).length = ps.length * 6 := flatR_len ps
  have hone := flatR_one ps
  have h63 : 0 + ps.length ≤ maxLen := by simp [maxLen]; omega
  have hby : (0 + ps.length) * 48 ≤ 140737488355328 := by omega
  have hba : w.heap.size ≤ W.heap.size := h1.size
  have HC := Lib.hid hcells
  have HO := Lib.hid ho0
  have HM := Lib.hid hml
  have HN := Lib.hid hone
  have H1 := Lib.hid h1
  have HB0 := Lib.hid b0
  have HB1 := Lib.hid b1
  have HB2 := Lib.hid b2
  have HWW := Lib.hid hW
  have HK := Lib.hid hk
  have HSZW : Hid (W.heap.size = w.heap.size + 4) := Lib.hid (by rw [hW]; simp)
  clear hcells ho0 hml hone hrd h1 b0 b1 b2 hW hk hp0
  go_enter Try.func101, Try.ntmps101
  go_wp2_with (at_builtin; rw [← HWW.out]; (refine wpList_pushAll slRP rfl (.tmp 5) (.tmp 7) rfl w.heap.size (.slice (some ⟨w.heap.size + 3, 0, none⟩) 0 0) 0 [] rfl HO.out A ps.length c (ps.flatMap encR) rfl HM.out HC.out HN.out h63 hby hba ?_); intro v1 w1 ho hg hd; (have hs1 := safe_own H1.out HO.out hg (Nat.le_refl _)); (have HS1 := Lib.hid hs1); (have hB0 := HB0.out.but (But.of_grown hg) (by simp [Value.ownBlock])); (have HB1' := Lib.hid (HB1.out.but (But.of_grown hg) (by simp [Value.ownBlock]))); (have HB2' := Lib.hid (HB2.out.but (But.of_grown hg) (by simp [Value.ownBlock]))); (obtain ⟨d0, d1, d2, d3⟩ := cells4 hB0); (obtain ⟨f0, f1, f2, f3⟩ := frz4 hB0); (obtain ⟨g, c1, rfl, hge, HOW⟩ := pushP_ready ho (by omega)); (have hgn : w.heap.size + 3 ≤ g := (by rcases hd with hd | hd <;> (simp [Value.ownBlock] at hd; have := HSZW.out; omega))); (have HB0' := Lib.hid hB0); clear hB0 ho hg hd hs1)
  obtain ⟨W3, hW3⟩ : ∃ W3, W3 = w1.setCell ⟨w.heap.size, 0, none⟩ (.slice (some ⟨g, 0, none⟩) ps.length c1) := ⟨_, rfl⟩
  rw [← hW3]
  have e0 : Blk W3 w.heap.size 91 #[.slice (some ⟨g, 0, none⟩) ps.length c1, I most, I last, I now] := by rw [hW3]; exact HB0'.out.set 0 _
  have e1 : Blk W3 (w.heap.size + 1) 145 (encR p).toArray := by rw [hW3]; exact HB1'.out.far (by simp) _
  have e2 : Blk W3 (w.heap.size + 2) 91 #[.slice none 0 0, I 0, I 0, I 0] := by rw [hW3]; exact HB2'.out.far (by simp) _
  have eo : W3.ownsRow w.heap.size 145 6 (.slice (some ⟨g, 0, none⟩) ps.length c1) ps.length (ps.flatMap encR) := by
    rw [hW3]
    exact own_but_kept (S := (· = w.heap.size)) HOW.out ((But.refl (· = w.heap.size) _).setCell (p := ⟨w.heap.size, 0, none⟩) (.inl rfl) _) (fun k hk e => by
      obtain ⟨_, _, cs, hB⟩ := own_blk6 HOW.out hk
      exact hB.ne HB0'.out (by decide) e)
  have es : Safe w W3 := by rw [hW3]; exact HS1.out.setCell (p := ⟨w.heap.size, 0, none⟩) (.inr (Nat.le_refl _)) _
  have hA := fun W' (hs : Safe W3 W') => rat_any w.heap.size _ ps most last now p.pid W' ((LP.of_own eo).safe hs) h16
  rw [HK.out, show ixP (some k) = (k : Int) from rfl] at hA
  have hki : (k : Int) < ps.length := by omega
  have HE0 := Lib.hid e0
  have HE1 := Lib.hid e1
  have HE2 := Lib.hid e2
  have HEO := Lib.hid eo
  have HES := Lib.hid es
  have HA := Lib.hid hA
  obtain ⟨d0, d1, d2, d3⟩ := cells4 e0
  obtain ⟨p0c, p1c, p2c, p3c, p4c, p5c⟩ := cells6 e1
  clear hW3 e0 e1 e2 eo es hA
  have HG0 : Hid (w.heap.size ≠ g) := Lib.hid (by omega)
  have HG1 : Hid (w.heap.size + 1 ≠ g) := Lib.hid (by omega)
  go_region_held3 (fun w' => w'.cell? ⟨w.heap.size, 0, none⟩ = some (.slice (some ⟨g, 0, none⟩) ps.length c1) ∧ w'.cell? ⟨w.heap.size, 1, none⟩ = some (I most) ∧ w'.cell? ⟨w.heap.size, 2, none⟩ = some (I last) ∧ w'.cell? ⟨w.heap.size, 3, none⟩ = some (I now) ∧ w'.cell? ⟨w.heap.size + 1, 0, none⟩ = some (I p.pid) ∧ w'.cell? ⟨w.heap.size + 1, 1, none⟩ = some (I p.parent) ∧ w'.cell? ⟨w.heap.size + 1, 2, none⟩ = some (I p.state) ∧ w'.cell? ⟨w.heap.size + 1, 3, none⟩ = some (I p.code) ∧ w'.cell? ⟨w.heap.size + 1, 4, none⟩ = some (I p.until_) ∧ w'.cell? ⟨w.heap.size + 1, 5, none⟩ = some (.bool p.killed))
    (first | (with_reducible exact ⟨m0, m1, m2, m3, n0, n1, n2, n3, n4, n5⟩) | (with_reducible exact ⟨HKP.out _ _ _ HG0.out m0, HKP.out _ _ _ HG0.out m1, HKP.out _ _ _ HG0.out m2, HKP.out _ _ _ HG0.out m3, HKP.out _ _ _ HG1.out n0, HKP.out _ _ _ HG1.out n1, HKP.out _ _ _ HG1.out n2, HKP.out _ _ _ HG1.out n3, HKP.out _ _ _ HG1.out n4, HKP.out _ _ _ HG1.out n5⟩) | go_keep)
    ((go_at_call 100; refine (HA.out _ ((But.refl _ _).drew)).mono ?_; rintro _ w2 ⟨rfl, hs2⟩; obtain ⟨q, ⟨q0, q1, q2, q3, q4, q5⟩, z0, z1, z2, z3, z4, z5⟩ := own6c (own_safe HEO.out (((But.refl _ _).drew).trans hs2)) hlt; (have m0 := hs2.cell d0 id); (have m1 := hs2.cell d1 id); (have m2 := hs2.cell d2 id); (have m3 := hs2.cell d3 id); (have n0 := hs2.cell p0c id); (have n1 := hs2.cell p1c id); (have n2 := hs2.cell p2c id); (have n3 := hs2.cell p3c id); (have n4 := hs2.cell p4c id); (have n5 := hs2.cell p5c id); (have HKP : Hid (∀ (b o : Nat) (v : Value), b ≠ g → w2.cell? ⟨b, o, none⟩ = some v → ((((((w2.setCell ⟨g, k * 6, none⟩ (.int .i64 p.pid)).setCell ⟨g, k * 6 + 1, none⟩ (.int .i64 p.parent)).setCell ⟨g, k * 6 + 2, none⟩ (.int .i64 p.state)).setCell ⟨g, k * 6 + 3, none⟩ (.int .i64 p.code)).setCell ⟨g, k * 6 + 4, none⟩ (.int .i64 p.until_)).setCell ⟨g, k * 6 + 5, none⟩ (.bool p.killed)).cell? ⟨b, o, none⟩ = some v) := Lib.hid (fun b o v hn hc => ((But.refl (· = g) w2).setCells (encR p) (k * 6) (.inl rfl)).cell (a := ⟨b, o, none⟩) hc hn)); (have HS2 := Lib.hid hs2)))
  obtain ⟨W9, hW9⟩ : ∃ W9, W9 = w2.setCells g (k * 6) (encR p) := ⟨_, rfl⟩
  rw [show ((((((w2.setCell ⟨g, k * 6, none⟩ (.int .i64 p.pid)).setCell ⟨g, k * 6 + 1, none⟩ (.int .i64 p.parent)).setCell ⟨g, k * 6 + 2, none⟩ (.int .i64 p.state)).setCell ⟨g, k * 6 + 3, none⟩ (.int .i64 p.code)).setCell ⟨g, k * 6 + 4, none⟩ (.int .i64 p.until_)).setCell ⟨g, k * 6 + 5, none⟩ (.bool p.killed)) = W9 from hW9.symm]
  have hput := (ownf_put encR_len (own_safe HEO.out (((But.refl (fun _ => False) W3).drew).trans HS2.out)) hlt p).2
  rw [← hW9] at hput
  have hbt : But (· = g) W3 W9 := by rw [hW9]; exact (Safe.but (((But.refl _ W3).drew).trans HS2.out)).setCells _ _ (.inl rfl)
  have e0 := HE0.out.but hbt (fun e => HG0.out e)
  have e2 := HE2.out.but hbt (fun e => by have : w.heap.size + 2 = g := e; omega)
  have hsf : Safe w W9 := HES.out.step hbt (fun j hj => .inr (by rw [show j = g from hj]; exact hge))
  have hlp : LP W9 w.heap.size (.slice (some ⟨g, 0, none⟩) ps.length c1) (ps.set k p) := LP.of_own (by rw [List.length_set]; exact hput)
  have HSF := Lib.hid hsf
  have hfn := fin4 hsf (show w.heap.size ≤ w.heap.size + 2 by omega) hlp e2 [.slice (some ⟨g, 0, none⟩) ps.length c1, I most, I last, I now]
  have HFN := Lib.hid hfn
  obtain ⟨d0, d1, d2, d3⟩ := cells4 e0
  obtain ⟨r0, r1, r2, r3⟩ := cells4 e2
  obtain ⟨f0, f1, f2, f3⟩ := frz4 e2
  clear hfn hsf hlp hput hbt hW9 e0 e2 q0 q1 q2 q3 q4 q5 z0 z1 z2 z3 z4 z5 m0 m1 m2 m3 n0 n1 n2 n3 n4 n5 hs2 p0c p1c p2c p3c p4c p5c
  go_wp2
  exact bodyPost_ret (v := aggT (.slice (some ⟨g, 0, none⟩) ps.length c1) most last now) (by simp [results, Try.results101, go_sem, r0, r1, r2, r3]) rfl ⟨_, rfl, HFN.out⟩
end Go.Proofs.Ytlojadpbdbhmiaa
