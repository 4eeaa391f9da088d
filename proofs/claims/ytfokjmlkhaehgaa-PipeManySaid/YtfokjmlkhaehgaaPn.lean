/- PipeMany: the walk. -/
import Derived.Test.YtfokjmlkhaehgaaPm
import Derived.Deep.RegionLaw
namespace Go.Proofs.Ytfokjmlkhaehgaa
open Go.RowKit
set_option linter.unusedSimpArgs false
set_option linter.unusedVariables false

theorem add_mid3 (e : Addr) (j : Nat) : e.add (j + 1) = ⟨e.block, e.off + (j + 1), none⟩ := by simp [Addr.add]
theorem add_split3 (a : Addr) (i j : Nat) : a.add (i * 5 + (j + 1)) = ⟨(a.add (i * 5)).block, (a.add (i * 5)).off + (j + 1), none⟩ := by
  rw [← Go.Deep.add_add, add_mid3]
theorem tmod3 (x : Int) : ∃ (r : Int) (k : Nat), x.tmod 3 = r ∧ -2 ≤ r ∧ r ≤ 2 ∧ k < 3 ∧ (r + 3).tmod 3 = (k : Int) := by
  have h := Int.natAbs_tmod x 3
  have h2 : (x.tmod 3).natAbs < 3 := by rw [h]; exact Nat.mod_lt _ (by decide)
  refine ⟨x.tmod 3, ((x.tmod 3 + 3) % 3).toNat, rfl, by omega, by omega, by omega, ?_⟩
  rw [Int.tmod_eq_emod_of_nonneg (by omega)]
  omega
def mk3 (k : Nat) : List Pp := List.replicate k newP ++ List.replicate (3 - k) zeroP
theorem mk3_step {k : Nat} (h : k < 3) : freeIx (mk3 k) = k ∧ (mk3 k).set k newP = mk3 (k + 1) ∧ k < (mk3 k).length := by
  rcases k with _ | _ | _ | k
  · exact ⟨rfl, rfl, by decide⟩
  · exact ⟨rfl, rfl, by decide⟩
  · exact ⟨rfl, rfl, by decide⟩
  · omega
set_option maxRecDepth 100000 in
set_option maxHeartbeats 4000000 in
theorem many_walk (A : Option Addr) (n c : Nat) (D : Nat → ActR) (w : World) (hn : n ≤ c) (hc : c ≤ 9223372036854775807) (hD : ActsAt w A n D) :
    Calls Try.prog 8 #[.slice A n c] w fun e w' => e = .returned (.bool true) ∧ Safe w w' := by
  have HD := Lib.hid hD
  clear hD
  go_enter Try.func8, Try.ntmps8
  go_wp2_with fail
  refine (awake21 _).mono ?_
  rintro _ w1 ⟨rfl, hs1⟩
  go_wp2_with fail
  refine (new_any 3 (by omega) (by omega) _).mono ?_
  rintro _ w2 ⟨rfl, hp2, hs2⟩
  go_wp2_with fail
  have hgl : w.heap.size ≤ w1.heap.size := hs1.size
  have hgp2 : w1.heap.size + 1 < w2.heap.size := hp2.hp.lt
  have hs12 := hs1.trans hs2
  obtain ⟨wx, hwx⟩ : ∃ wx, wx = (w2.alloc (.cells #[.slice none 0 0, .slice none 0 0, .slice none 0 0] 58)).alloc (.cells #[.slice none 0 0, .slice none 0 0, .slice none 0 0] 58) := ⟨_, rfl⟩
  have hbi : Blk wx w2.heap.size 58 #[.slice none 0 0, .slice none 0 0, .slice none 0 0] := by rw [hwx]; exact (Blk.new _ _ _).alloc _
  have hbo : Blk wx (w2.heap.size + 1) 58 #[.slice none 0 0, .slice none 0 0, .slice none 0 0] := by
    rw [hwx]
    have := Blk.new (w2.alloc (.cells #[.slice none 0 0, .slice none 0 0, .slice none 0 0] 58)) 58 #[.slice none 0 0, .slice none 0 0, .slice none 0 0]
    simpa using this
  have hsx : Safe w2 wx := by rw [hwx]; exact ((But.refl _ w2).alloc _).alloc _
  have hpx := hp2.safe hsx
  rw [show List.replicate 3 zeroP = mk3 0 from rfl] at hpx
  have hsx' := hs12.trans hsx
  have hgi : w.heap.size ≤ w2.heap.size := hs12.size
  rw [← hwx]
  have HX := Lib.hid hwx
  clear hwx hp2 hs1 hs2 hs12 hsx
  generalize hgi2 : w2.heap.size + 1 = go at *
  generalize w2.heap.size = gi at *
  generalize hgp : w1.heap.size + 1 = gp at *
  generalize w1.heap.size = gl at *
  go_loopw [22] (fun x wr => ∃ k : Nat, k ≤ 3 ∧ x = .int .i64 k ∧ PW wr gp gl (mk3 k) ∧ But (· = gl) wx wr) (fun x _ => 3 - (intOf x).toNat)
  case atStart => exact ⟨0, by omega, rfl, hpx, But.refl _ _⟩
  case round =>
    obtain ⟨k, hk, rfl, hpk, hbk⟩ := hrel
    obtain ⟨wo, rfl⟩ : ∃ wo : World, wo = wr := ⟨_, rfl⟩
    by_cases hlt : k < 3
    · obtain ⟨hm1, hm2, hm3⟩ := mk3_step hlt
      have hmk := make_yes gp gl (mk3 k) k wo hpk hm1 hm3
      rw [hm2] at hmk
      have HM := Lib.hid hmk
      clear hmk hm1 hm2 hm3
      go_wp2_with fail
      refine (HM.out).mono ?_
      rintro _ w3 ⟨rfl, hp3, hs3⟩
      go_wp2
      go_roundw
      case rel => exact ⟨k + 1, by omega, by go_num, hp3, hbk.trans hs3⟩
      case measure => simp [intOf]; omega
    · obtain rfl : k = 3 := by omega
      rw [show ((3 : Nat) : Int) = 3 from rfl]
      go_wp2_with fail
      have hbi' := hbi.but hbk (show ¬ gi = gl by omega)
      have hbo' := hbo.but hbk (show ¬ go = gl by omega)
      have hsafe0 : Safe w wo := hsx'.step hbk (fun k hk => .inr (by rw [show k = gl from hk]; exact hgl))
      have hgib := hbi'.lt
      have hgob := hbo'.lt
      have H0 : MI w wo wo.heap.size gp gl gi go (fun _ => .slice none 0 0) 0 (fun _ => newP) (fun _ => []) (fun _ => []) :=
        ⟨hpk, fun j hj => ⟨rfl, rfl, rfl, ⟨rfl, fun m hm => absurd hm (by simp [newP])⟩, rfl⟩, hbi', hbo', by omega, (fun j hj => World.ownsRow_nil _ _ _ _), (fun a b _ _ _ k hk => by cases hk), (fun j hj => Nat.zero_le _), hsafe0, Nat.le_refl _,
          hpk.hp.lt, hpk.hl.lt, hgib, hgob, hgl, hgi, by omega⟩
      have HH0 := Lib.hid H0
      clear H0 hbi' hbo' hsafe0 hpk hbk hsx' hpx hbi hbo
      generalize hbase : wo.heap.size = base at *
      go_loopw [8] (fun x wr => ∃ (i : Nat) (v : Nat → Value) (PS : Nat → Pp) (q R : Nat → List Int), i ≤ n ∧ i ≤ 80 ∧ x = .int .i64 i ∧ MI w wr base gp gl gi go v i PS q R) (fun x _ => 80 - (intOf x).toNat)
      case atStart => exact ⟨0, _, _, _, _, by omega, by omega, rfl, HH0.out⟩
      case round =>
        obtain ⟨i, v, PS, q, R, hin, hi80, rfl, hM⟩ := hrel
        have HM := Lib.hid hM
        clear hM
        by_cases hlt : i < n ∧ i < 80
        · obtain ⟨hlt, h80⟩ := hlt
          obtain ⟨ad, hA, hIn, c0, c1, c2, c3, c4⟩ := HD.out i hlt
          subst hA
          rw [add_split3] at c1 c2 c3 c4
          rw [Nat.add_zero] at c0
          have c0 := HM.out.safe.cell c0 id
          have c1 := HM.out.safe.cell c1 id
          have c2 := HM.out.safe.cell c2 id
          have c3 := HM.out.safe.cell c3 id
          have c4 := HM.out.safe.cell c4 id
          generalize D i = a at *
          obtain ⟨r, k, hr1, hr2, hr3, hk3, hrk⟩ := tmod3 a.num
          have hki0 : (0 : Int) ≤ (k : Int) := by omega
          have hki : (k : Int) < 3 := by omega
          obtain ⟨hth, hpr, hpw, hQ, hRR⟩ := HM.out.each k hk3
          have hPk := HM.out.get k hk3
          have hPok := HM.out.pw.ok (PS k) (List.mem_of_getElem? hPk)
          have hpn := hPok.pn
          have hlens := HM.out.outs k hk3
          have hRl := HM.out.len k hk3
          obtain ⟨bs, hbs⟩ : ∃ bs, bs = a.bs.take 100 := ⟨_, rfl⟩
          have hbsl : bs.length = min 100 a.bs.length := by rw [hbs, List.length_take]
          have hrd : Rd U w a.B bs := by rw [hbs]; exact hIn.rd.take 100
          have hu8 : ∀ x ∈ bs, 0 ≤ x ∧ x < 256 := fun x hx => hIn.u8 x (List.mem_of_mem_take (by rw [← hbs]; exact hx))
          have hbl := hIn.bl
          have hbc := hIn.bc
          have hnn := hIn.n
          obtain ⟨wa, hwa⟩ : ∃ wa, wa = wr.alloc (.cells #[I a.kind, I a.num, I a.n, I a.m, .slice a.B a.bs.length a.bc] 60) := ⟨_, rfl⟩
          have hsa : Safe wr wa := by rw [hwa]; exact (But.refl _ wr).alloc _
          have hpa := HM.out.pw.safe hsa
          cases hpar : (bits BinOp.and IntKind.i64 a.kind 1 == 0)
          · have hrd0 := fun (n0 : Int) (h0 : n0 ≤ 9223372036854775807) => read_yes gp gl [PS 0, PS 1, PS 2] k (PS k) wa hpa hPk hth n0 h0
            have HR := Lib.hid hrd0
            have HSA := Lib.hid hsa
            have HPA := Lib.hid hpa
            have HWA := Lib.hid hwa
            have HIN := Lib.hid hIn
            have HPOK := Lib.hid hPok
            have HE := Lib.hid (show (PS k).there = true ∧ (PS k).r = 1 ∧ (PS k).w = 1 ∧ Q (PS k) (q k) ∧ R k = R (k + 3) ++ q k from ⟨hth, hpr, hpw, hQ, hRR⟩)
            have HPK := Lib.hid hPk
            have hb2 : ((a.bs.length : Int) ≤ 100) ∨ (100 < (a.bs.length : Int) ∧ 100 ≤ (a.bc : Int)) := by omega
            have hN2 : a.n ≤ 0 ∨ ¬ a.n ≤ 0 := by omega
            have hOl : (R (k + 3)).length ≤ i * 100 := by omega
            have HL := Lib.hid hlens
            clear hrd0 hrd hbs hu8 hsa hpa hIn hPok hth hpr hpw hQ hRR hPk hbsl hlens
            rcases hb2 with h1 | ⟨h1, h3⟩ <;> rcases hN2 with g1 | g1
            all_goals
              go_wp2_with fail
              rw [← HWA.out]
              refine (HR.out _ (by omega)).mono ?_
              rintro _ w4 ⟨m, hm, Ag, cg, rfl, hmc, hAg, hog, hp4, hs4⟩
              have hmp : m ≤ (PS k).pn := by
                rw [hm]
                unfold rdN
                split <;> omega
              have h4 : But (· = gl) wr w4 := (Safe.but HSA.out).trans hs4
              have hown4 := HM.out.ownk h4 (k + 3) (by omega)
              obtain ⟨Ak, ck, hvk, hck⟩ := own_form hown4
              have hgcells := Rd.cells (Rd.of_own (enc := U) (by rw [headN_len]; exact hog))
              rw [headN_len] at hgcells
              have hml : ((headN (PS k) m).map U).length = m * 1 := by rw [List.length_map, headN_len, Nat.mul_one]
              have hone : ∀ u ∈ (headN (PS k) m).map U, u.oneCell' = true := by intro u hu; rw [List.mem_map] at hu; obtain ⟨x, _, rfl⟩ := hu; rfl
              have h63 : (R (k + 3)).length + m ≤ maxLen := by simp [maxLen]; omega
              have hby : ((R (k + 3)).length + m) * 1 ≤ 140737488355328 := by omega
              have hba : base ≤ w4.heap.size := by have := HM.out.bs; have := h4.size; omega
              have hbo4 := HM.out.bo.but h4 (fun e => HM.out.pw.hl.ne HM.out.bo (by decide) (show gl = go from (show go = gl from e).symm))
              have ck4 : w4.cell? ⟨go, k, none⟩ = some (.slice Ak (R (k + 3)).length ck) := by
                rw [← hvk]
                apply hbo4.cell'
                rcases k with _ | _ | _ | k
                · rfl
                · rfl
                · rfl
                · omega
              have fk4 := hbo4.frozen k
              rw [hvk] at hown4
              have hno1 : ¬ (some go = (Value.slice Ak (R (k + 3)).length ck).ownBlock) := fun e => by
                have := (hown4.lt go e.symm).1
                omega
              have HNO := Lib.hid hno1
              have HCK := Lib.hid ck4
              have HFK := Lib.hid fk4
              have HGC := Lib.hid hgcells
              have HS4 := Lib.hid h4
              have HO4 := Lib.hid hown4
              have HP4 := Lib.hid hp4
              have HM4 := Lib.hid hm
              have HVK := Lib.hid hvk
              have HML := Lib.hid hml
              have HONE := Lib.hid hone
              clear hgcells h4 hown4 hp4 hm hml hone hs4 hbo4 hvk hno1 hog hAg
              go_wp2_with (at_builtin; go_must (refine wpList_pushAll slBytes rfl (.tmp 92) (.tmp 93) rfl base (.slice Ak (R (k + 3)).length ck) (R (k + 3)).length ((R (k + 3)).map U) rfl HO4.out Ag m cg ((headN (PS k) m).map U) rfl HML.out HGC.out HONE.out h63 hby hba ?_); intro v1 w5 ho hg hd; obtain ⟨A1, c1', rfl, hc1'⟩ := own_form ho; have c5 := (But.of_grown hg).cell HCK.out HNO.out; have f5 := ((But.of_grown hg).frozen (cell_lt HCK.out) HNO.out).trans HFK.out)
              obtain ⟨q1, q2⟩ := takeN_Q HPOK.out HE.out.2.2.2.1 m hmp
              obtain ⟨e1, e2, e3⟩ := takeN_same (PS k) m
              have hI5 := HM.out.step hk3 (J := k + 3) (.inr ⟨rfl, rfl⟩) HS4.out (P' := takeN (PS k) m) (q' := (q k).drop m) (L := R (k + 3) ++ headN (PS k) m) HP4.out
                ⟨by rw [e1]; exact HE.out.1, by rw [e2]; exact HE.out.2.1, by rw [e3]; exact HE.out.2.2.1, q1, by rw [upd_same, upd_other _ _ (by omega), List.append_assoc, q2, List.take_append_drop]; exact HE.out.2.2.2.2⟩
                (by rw [List.length_append, headN_len, List.map_append]; exact ho) (by rw [HVK.out]; exact hg) (by rw [HVK.out]; exact hd) (fun e => by omega)
              have HI5 := Lib.hid hI5
              clear hI5 ho hg hd c5 f5 q1 q2 e1 e2 e3
              go_wp2
              go_roundw
              case rel => exact ⟨i + 1, _, _, _, _, by omega, by omega, by go_num, HI5.out⟩
              case measure => simp [intOf]; omega
          · obtain ⟨hk1, hk2, hkE⟩ := wrE_cases (PS k) bs (by rw [hpr]; decide) hpn
            have hrda := hrd.safe (HM.out.safe.trans hsa)
            have hlt2 : 0 < bs.length → ∀ ad, a.B = some ad → ad.block ≠ gl := fun hb ad he => by
              have := hrd.lt hb ad he
              have := HM.out.glw
              omega
            have hwr := fun l hl => write_yes' gp gl [PS 0, PS 1, PS 2] k (PS k) wa hpa hPk hth a.B l a.bc bs hl hrda hlt2 (by omega) hu8 (by omega)
            have HW := Lib.hid hwr
            have HRD := Lib.hid hrd
            have HU8 := Lib.hid hu8
            have HSA := Lib.hid hsa
            have HPA := Lib.hid hpa
            have HWA := Lib.hid hwa
            have HIN := Lib.hid hIn
            have HPOK := Lib.hid hPok
            have HE := Lib.hid (show (PS k).there = true ∧ (PS k).r = 1 ∧ (PS k).w = 1 ∧ Q (PS k) (q k) ∧ R k = R (k + 3) ++ q k from ⟨hth, hpr, hpw, hQ, hRR⟩)
            have HPK := Lib.hid hPk
            have hb2 : ((a.bs.length : Int) ≤ 100 ∧ a.bs.length = bs.length) ∨ (100 < (a.bs.length : Int) ∧ 100 ≤ (a.bc : Int) ∧ 100 = bs.length) := by omega
            have hble : bs.length ≤ a.bs.length := by omega
            have hbl100 : bs.length ≤ 100 := by omega
            clear hwr hrd hbs hu8 hsa hpa hIn hPok hlt2 hrda hth hpr hpw hQ hRR hPk hbsl
            have HL := Lib.hid hlens
            clear hlens
            rcases hb2 with ⟨h1, h2⟩ | ⟨h1, h3, h2⟩
            all_goals
              have H2 := Lib.hid h2
              clear h2
              go_wp2_with fail
              rw [← HWA.out]
              refine (HW.out _ H2.out).mono ?_
              rintro _ w4 ⟨rfl, hp4, hs4⟩
              have h4 : But (· = gl) wr w4 := (Safe.but HSA.out).trans hs4
              have hsafe4 : Safe w w4 := HM.out.safe.step h4 (fun k hk => .inr (by rw [show k = gl from hk]; exact HM.out.glw))
              have hown4 := HM.out.ownk h4 k (by omega)
              obtain ⟨Ak, ck, hvk, hck⟩ := own_form hown4
              obtain ⟨m, hm⟩ : ∃ m, m = wrN (PS k) bs := ⟨_, rfl⟩
              rw [← hm] at hp4 hk1 hk2 ⊢
              have hbk : (bs.take m).length = m := by rw [List.length_take]; omega
              have hrd4 : Rd U w4 a.B (bs.take m) := (HRD.out.safe hsafe4).take m
              have hcells4 := Rd.cells (hrd4.safe ((But.refl _ w4).drew))
              rw [hbk] at hcells4
              have hml : ((bs.take m).map U).length = m * 1 := by rw [List.length_map, hbk, Nat.mul_one]
              have hone : ∀ u ∈ (bs.take m).map U, u.oneCell' = true := by intro u hu; rw [List.mem_map] at hu; obtain ⟨x, _, rfl⟩ := hu; rfl
              have h63 : (R k).length + m ≤ maxLen := by simp [maxLen]; omega
              have hby : ((R k).length + m) * 1 ≤ 140737488355328 := by omega
              have hba : base ≤ w4.heap.size := by have := HM.out.bs; have := h4.size; omega
              have hkb : (m : Int) ≤ a.bc := by omega
              have hkb0 : (0 : Int) ≤ (m : Int) := by omega
              have hbi4 := HM.out.bi.but h4 (fun e => HM.out.pw.hl.ne HM.out.bi (by decide) (show gl = gi from (show gi = gl from e).symm))
              have ck4 : w4.cell? ⟨gi, k, none⟩ = some (.slice Ak (R k).length ck) := by
                rw [← hvk]
                apply hbi4.cell'
                rcases k with _ | _ | _ | k
                · rfl
                · rfl
                · rfl
                · omega
              have fk4 := hbi4.frozen k
              rw [hvk] at hown4
              have hno1 : ¬ (some gi = (Value.slice Ak (R k).length ck).ownBlock) := fun e => by
                have := (hown4.lt gi e.symm).1
                omega
              have HNO := Lib.hid hno1
              have HCK := Lib.hid ck4
              have HFK := Lib.hid fk4
              have HC4 := Lib.hid hcells4
              have HS4 := Lib.hid h4
              have HO4 := Lib.hid hown4
              have HP4 := Lib.hid hp4
              have HBK := Lib.hid hbk
              have HK := Lib.hid hm
              have HVK := Lib.hid hvk
              have HML := Lib.hid hml
              have HONE := Lib.hid hone
              have hkl2 : (m : Int) ≤ a.bs.length := by omega
              clear hcells4 hrd4 h4 hown4 hp4 hbk hm hml hone hsafe4 hs4 hbi4 hvk hkE hno1
              go_wp2_with fail
              go_region_law ((refine step_pushAll slBytes (by rfl) (.tmp 73) (.tmp 76) (by rfl) base (.slice Ak (R k).length ck) (R k).length ((R k).map U) (by rfl) (own_safe HO4.out ((But.refl _ w4).drew)) a.B m a.bc ((bs.take m).map U) (by rfl) HML.out HC4.out HONE.out h63 hby hba ?_; intro v1 w5 ho hg hd; obtain ⟨A1, c1', rfl, hc1'⟩ := own_form ho; have c5 := (But.of_grown hg).cell HCK.out HNO.out; have f5 := ((But.of_grown hg).frozen (cell_lt HCK.out) HNO.out).trans HFK.out))
              have hok : Q (putAll (PS k) (bs.take m)) (q k ++ bs.take m) := putAll_Q _ HPOK.out HE.out.2.2.2.1 (by rw [HBK.out]; exact hk2)
              obtain ⟨e1, e2, e3, _⟩ := putAll_same (bs.take m) (PS k)
              have hI5 := HM.out.step hk3 (J := k) (.inl ⟨rfl, rfl⟩) HS4.out.drew (P' := putAll (PS k) (bs.take m)) (q' := q k ++ bs.take m) (L := R k ++ bs.take m) HP4.out.drew
                ⟨by rw [e1]; exact HE.out.1, by rw [e2]; exact HE.out.2.1, by rw [e3]; exact HE.out.2.2.1, hok, by rw [upd_same, upd_other _ _ (by omega), ← List.append_assoc, ← HE.out.2.2.2.2]⟩
                (by rw [List.length_append, HBK.out, List.map_append]; exact ho) (by rw [HVK.out]; exact hg) (by rw [HVK.out]; exact hd) (fun _ => by rw [List.length_append, HBK.out]; omega)
              have HI5 := Lib.hid hI5
              clear hI5 ho hg hd c5 f5 hok e1 e2 e3
              go_wp2
              go_roundw
              case rel => exact ⟨i + 1, _, _, _, _, by omega, by omega, by go_num, HI5.out⟩
              case measure => simp [intOf]; omega
        · have hne2 : (¬ i < n) ∨ (i < n ∧ ¬ ((i : Int) < 80)) := by
            by_cases h1 : i < n
            · exact .inr ⟨h1, fun h2 => hlt ⟨h1, by omega⟩⟩
            · exact .inl h1
          clear hlt
          rcases hne2 with h1 | ⟨h1, h2⟩
          all_goals
            go_wp2_with fail
            obtain ⟨wo, rfl⟩ : ∃ wo : World, wo = wr := ⟨_, rfl⟩
            go_loopw [96] (fun x wx => ∃ k : Nat, k ≤ 3 ∧ x = .int .i64 k ∧ MI w wx base gp gl gi go v i PS q R) (fun x _ => 3 - (intOf x).toNat)
            case atStart => exact ⟨0, by omega, rfl, HM.out⟩
            case round =>
              obtain ⟨k, hk, rfl, hK⟩ := hrel
              obtain ⟨wk, rfl⟩ : ∃ wk : World, wk = wr := ⟨_, rfl⟩
              by_cases hlt3 : k < 3
              · have hth := (hK.each k hlt3).1
                have hRR := (hK.each k hlt3).2.2.2.2
                have hPk := hK.get k hlt3
                have hlen := len_yes gp gl [PS 0, PS 1, PS 2] k (PS k) wk hK.pw hPk hth
                have hlens := hK.outs k hlt3
                have hRl := hK.len k hlt3
                have hown := hK.own k (by omega)
                have hown3 := hK.own (k + 3) (by omega)
                obtain ⟨Ai, ci, hvi, hci⟩ := own_form hown
                obtain ⟨Ao, co, hvo, hco⟩ := own_form hown3
                have ci4 : wk.cell? ⟨gi, k, none⟩ = some (.slice Ai (R k).length ci) := by
                  rw [← hvi]
                  apply hK.bi.cell'
                  rcases k with _ | _ | _ | k
                  · rfl
                  · rfl
                  · rfl
                  · omega
                have co4 : wk.cell? ⟨go, k, none⟩ = some (.slice Ao (R (k + 3)).length co) := by
                  rw [← hvo]
                  apply hK.bo.cell'
                  rcases k with _ | _ | _ | k
                  · rfl
                  · rfl
                  · rfl
                  · omega
                rw [hvi] at hown
                rw [hvo] at hown3
                have htk : (R k).take (R (k + 3)).length = R (k + 3) := by rw [hRR, List.take_left]
                have hri : Rd U wk Ai (R (k + 3)) := by rw [← htk]; exact (Rd.of_own (enc := U) hown).take _
                have hro : Rd U wk Ao (R (k + 3)) := Rd.of_own (enc := U) hown3
                have heq := fun N => equal_q Ai Ao (R (k + 3)).length ci (R (k + 3)).length co (R (k + 3)) (R (k + 3)) (wk.drewN N) rfl rfl hri hro (by omega) (by omega)
                simp only [decide_true] at heq
                have hki0 : (0 : Int) ≤ (k : Int) := by omega
                have hki : (k : Int) < 3 := by omega
                have hne : (((PS k).pn : Int) != ((R k).length : Int) - ((R (k + 3)).length : Int)) = false := by simp; omega
                have hle1 : ((R (k + 3)).length : Int) ≤ (ci : Int) := by omega
                have hle0 : (0 : Int) ≤ ((R (k + 3)).length : Int) := by omega
                have hL1 : (R k).length ≤ 100000 := by omega
                have hL2 : (R (k + 3)).length ≤ 100000 := by omega
                have HLEN := Lib.hid hlen
                have HEQ := Lib.hid heq
                have HK := Lib.hid hK
                clear hlen heq hK hth hRR hPk hlens hown hown3 hvi hvo htk hri hro
                go_wp2_with fail
                refine (HLEN.out).mono ?_
                rintro _ _ ⟨rfl, rfl⟩
                go_wp2_with fail
                go_quiet ((go_at_call 30; exact Calls.quiet_of (HEQ.out _)))
                go_wp2_with fail
                go_roundw
                case rel => exact ⟨k + 1, by omega, by go_num, HK.out.drewN nq⟩
                case measure => simp [intOf]; omega
              · obtain rfl : k = 3 := by omega
                have hcount := count_any gp gl [PS 0, PS 1, PS 2] wk hK.pw
                rw [show [PS 0, PS 1, PS 2].countP (·.there) = 3 from by simp [(hK.each 0 (by omega)).1, (hK.each 1 (by omega)).1, (hK.each 2 (by omega)).1]] at hcount
                rw [show ((3 : Nat) : Int) = 3 from rfl] at *
                have HC := Lib.hid hcount
                have HK := Lib.hid hK
                clear hcount hK
                go_wp2_with fail
                refine (HC.out).mono ?_
                rintro _ w9 ⟨rfl, hs9⟩
                go_wp2_with fail
                go_ret
                exact ⟨rfl, HK.out.safe.trans hs9⟩
end Go.Proofs.Ytfokjmlkhaehgaa
