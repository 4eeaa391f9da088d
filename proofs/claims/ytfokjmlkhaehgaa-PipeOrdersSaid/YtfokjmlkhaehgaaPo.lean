/- PipeOrders: the walk. -/
import Derived.Test.YtfokjmlkhaehgaaPi
namespace Go.Proofs.Ytfokjmlkhaehgaa
open Go.RowKit
set_option linter.unusedSimpArgs false
set_option linter.unusedVariables false

set_option maxRecDepth 100000 in
set_option maxHeartbeats 4000000 in
theorem orders_walk (A : Option Addr) (n c : Nat) (D : Nat → ActR) (w : World) (hn : n ≤ c) (hc : c ≤ 9223372036854775807) (hD : ActsAt w A n D) :
    Calls Try.prog 9 #[.slice A n c] w fun e w' => e = .returned (.bool true) ∧ Safe w w' := by
  have HD := Lib.hid hD
  clear hD
  go_enter Try.func9, Try.ntmps9
  go_wp2_with fail
  refine (awake21 _).mono ?_
  rintro _ w1 ⟨rfl, hs1⟩
  go_wp2_with fail
  refine (new_any 1 (by omega) (by omega) _).mono ?_
  rintro _ w2 ⟨rfl, hp2, hs2⟩
  go_wp2_with fail
  refine (make_yes _ _ _ 0 _ hp2 rfl (by simp)).mono ?_
  rintro _ w3 ⟨rfl, hp3, hs3⟩
  rw [show (List.replicate 1 zeroP).set 0 newP = [newP] from rfl] at hp3
  have hgl : w.heap.size ≤ w1.heap.size := hs1.size
  have hgb : w1.heap.size < w3.heap.size := hp3.hl.lt
  have hgb2 : w1.heap.size + 1 < w3.heap.size := hp3.hp.lt
  have hS3 : Safe w w3 := ((hs1.trans hs2).step hs3 (fun k hk => .inr (by rw [show k = w1.heap.size from hk]; exact hgl)))
  generalize hgp : w1.heap.size + 1 = gp at *
  generalize w1.heap.size = gl at *
  have H0 : OI w w3 w3.heap.size gp gl (.slice none 0 0) (.slice none 0 0) 0 newP [] [] [] :=
    ⟨hp3, rfl, rfl, rfl, ⟨rfl, fun j hj => absurd hj (by simp [newP])⟩, rfl, World.ownsRow_nil _ _ _ _, World.ownsRow_nil _ _ _ _, (fun k hk => by cases hk), Nat.zero_le _, hS3, Nat.le_refl _, hgb2, hgb, hgl⟩
  have HH0 := Lib.hid H0
  clear hp2 hs2 hp3 hs3 hs1 hS3 H0 hgp
  generalize hbase : w3.heap.size = base at *
  go_wp2
  go_loopw [6, 7, 8] (fun vi vo x wr => ∃ (i : Nat) (P : Pp) (q IN OUT : List Int), i ≤ n ∧ i ≤ 80 ∧ x = .int .i64 i ∧ OI w wr base gp gl vi vo i P q IN OUT) (fun _ _ x _ => 80 - (intOf x).toNat)
  case atStart => exact ⟨0, newP, [], [], [], by omega, by omega, rfl, HH0.out⟩
  case round =>
    obtain ⟨i, P, q, IN, OUT, hin, hi80, rfl, hO⟩ := hrel
    have HO := Lib.hid hO
    clear hO
    have hIF := own_form HO.out.oi
    have hOF := own_form HO.out.oo
    obtain ⟨Ai, ci, rfl, hci⟩ := hIF
    obtain ⟨Ao, co, rfl, hco⟩ := hOF
    have hlens := HO.out.lens
    have hPok := HO.out.pw.ok P (by simp)
    have hpn := hPok.pn
    have hINl := HO.out.len
    by_cases hlt : i < n ∧ i < 80
    · obtain ⟨hlt, h80⟩ := hlt
      obtain ⟨ad, hA, hIn, c0, c1, c2, c3, c4⟩ := HD.out i hlt
      subst hA
      rw [add_split] at c1 c2 c3 c4
      rw [Nat.add_zero] at c0
      have c0 := HO.out.safe.cell c0 id
      have c1 := HO.out.safe.cell c1 id
      have c2 := HO.out.safe.cell c2 id
      have c3 := HO.out.safe.cell c3 id
      have c4 := HO.out.safe.cell c4 id
      generalize D i = a at *
      obtain ⟨bs, hbs⟩ : ∃ bs, bs = a.bs.take 200 := ⟨_, rfl⟩
      have hbsl : bs.length = min 200 a.bs.length := by rw [hbs, List.length_take]
      have hrd : Rd U w a.B bs := by rw [hbs]; exact hIn.rd.take 200
      have hu8 : ∀ x ∈ bs, 0 ≤ x ∧ x < 256 := fun x hx => hIn.u8 x (List.mem_of_mem_take (by rw [← hbs]; exact hx))
      have hbl := hIn.bl
      have hbc := hIn.bc
      have hnn := hIn.n
      obtain ⟨wa, hwa⟩ : ∃ wa, wa = wr.alloc (.cells #[I a.kind, I a.num, I a.n, I a.m, .slice a.B a.bs.length a.bc] 60) := ⟨_, rfl⟩
      have hsa : Safe wr wa := by rw [hwa]; exact (But.refl _ wr).alloc _
      have hpa := HO.out.pw.safe hsa
      cases hpar : (bits BinOp.and IntKind.i64 a.kind 1 == 0)
      · obtain ⟨n0, hn0⟩ : ∃ n0 : Int, n0 = if a.n ≤ 0 then 0 else a.n := ⟨_, rfl⟩
        have hn0' : 0 ≤ n0 ∧ n0 ≤ 9223372036854775807 := by rw [hn0]; split <;> omega
        have hrd := read_yes gp gl [P] 0 P wa hpa rfl HO.out.th n0 hn0'.2
        have hcase : (rdE P n0 = 0 ∧ rdN P n0 = min n0.toNat P.pn) ∨ (rdE P n0 = 15 ∧ rdN P n0 = 0 ∧ P.pn = 0) := by
          by_cases h1 : 0 < n0 ∧ P.pn = 0 ∧ 0 < P.w
          · have e : rdE P n0 = 15 := by simp only [rdE, if_pos h1, if_neg (show ¬ n0 < 0 by omega)]
            exact .inr ⟨e, by simp [rdN, e], h1.2.1⟩
          · have e : rdE P n0 = 0 := by simp only [rdE, if_neg h1, if_neg (show ¬ n0 < 0 by omega)]
            exact .inl ⟨e, by simp [rdN, e]⟩
        have HR := Lib.hid hrd
        have HSA := Lib.hid hsa
        have HPA := Lib.hid hpa
        have HWA := Lib.hid hwa
        have HPOK := Lib.hid hPok
        have hlo1 : (P.pn : Int) + OUT.length ≤ IN.length := by omega
        have hlo2 : (IN.length : Int) ≤ (P.pn : Int) + OUT.length := by omega
        have HL := Lib.hid hlens
        clear hrd hsa hpa hwa hPok hlens hbs hu8 hIn
        have hb2 : ((a.bs.length : Int) ≤ 200) ∨ (200 < (a.bs.length : Int) ∧ 200 ≤ (a.bc : Int)) := by omega
        have hN2 : (a.n ≤ 0 ∧ n0 = 0 ∧ rdE P n0 = 0 ∧ rdN P n0 = 0) ∨ (¬ a.n ≤ 0 ∧ n0 = a.n ∧ rdE P n0 = 0 ∧ rdN P n0 = min n0.toNat P.pn) ∨ (¬ a.n ≤ 0 ∧ n0 = a.n ∧ rdE P n0 = 15 ∧ rdN P n0 = 0 ∧ P.pn = 0) := by
          by_cases g1 : a.n ≤ 0
          · rw [if_pos g1] at hn0
            subst hn0
            exact .inl ⟨g1, rfl, by simp [rdE], by simp [rdN, rdE]⟩
          · rw [if_neg g1] at hn0
            rcases hcase with ⟨e, e2⟩ | ⟨e, e2, e3⟩
            · exact .inr (.inl ⟨g1, hn0, e, e2⟩)
            · exact .inr (.inr ⟨g1, hn0, e, e2, e3⟩)
        clear hn0 hcase
        rcases hN2 with ⟨g1, g2, e, e2⟩ | ⟨g1, g2, e, e2⟩ | ⟨g1, g2, e, e2, e3⟩
        · rcases hb2 with h1 | ⟨h1, h3⟩
          all_goals
            subst g2
            go_wp2_with fail
            rw [← HWA.out]
            refine (HR.out).mono ?_
            rintro _ w4 ⟨m, hm, Ag, cg, rfl, hmc, hAg, hog, hp4, hs4⟩
            rw [e2] at hm
            rw [e]
            clear e e2
            have h4 : But (· = gl) wr w4 := (Safe.but HSA.out).trans hs4
            have hown4 := (HO.out.own h4).2
            have d2 : w4.cell? ⟨wr.heap.size, 2, none⟩ = some (I a.n) := hs4.cell (by rw [HWA.out]; exact (Blk.new _ _ _).cell' rfl) (by
              have := HO.out.bs
              show ¬ wr.heap.size = gl
              omega)
            have hmp : m ≤ P.pn := by omega
            have hgcells := Rd.cells (Rd.of_own (enc := U) (by rw [headN_len]; exact hog))
            rw [headN_len] at hgcells
            have hml : ((headN P m).map U).length = m * 1 := by rw [List.length_map, headN_len, Nat.mul_one]
            have hone : ∀ u ∈ (headN P m).map U, u.oneCell' = true := by intro u hu; rw [List.mem_map] at hu; obtain ⟨x, _, rfl⟩ := hu; rfl
            have h63 : OUT.length + m ≤ maxLen := by simp [maxLen]; omega
            have hby : (OUT.length + m) * 1 ≤ 140737488355328 := by omega
            have hba : base ≤ w4.heap.size := by have := HO.out.bs; have := h4.size; omega
            subst hm
            have HGC := Lib.hid hgcells
            have HS4 := Lib.hid h4
            have HO4 := Lib.hid hown4
            have HP4 := Lib.hid hp4
            have HML := Lib.hid hml
            have HONE := Lib.hid hone
            clear hgcells h4 hown4 hp4 hml hone hs4 hog hAg
            go_wp2_with (at_builtin; go_must (refine wpList_pushAll slBytes rfl (.tmp 125) (.tmp 126) rfl base _ OUT.length (OUT.map U) rfl HO4.out Ag 0 cg ((headN P 0).map U) rfl HML.out HGC.out HONE.out h63 hby hba ?_); intro v1 w5 ho hg hd)
            have hI5 := HO.out.readd HS4.out HP4.out hmp ho hg hd
            obtain ⟨A1, c1', rfl, hc1'⟩ := own_form ho
            have hlen5 := len_yes gp gl [takeN P 0] 0 _ w5 hI5.pw rfl hI5.th
            rw [show (takeN P 0).pn = P.pn from rfl] at hlen5
            have HI5 := Lib.hid hI5
            have HL5 := Lib.hid hlen5
            clear ho hg hd hI5 hlen5
            refine (HL5.out).mono ?_
            rintro _ _ ⟨rfl, rfl⟩
            go_wp2
            go_roundw
            case rel => exact ⟨i + 1, takeN P 0, q.drop 0, IN, OUT ++ headN P 0, by omega, by omega, by go_num, HI5.out⟩
            case measure => simp [intOf]; omega
        · rcases hb2 with h1 | ⟨h1, h3⟩
          all_goals
            subst g2
            go_wp2_with fail
            rw [← HWA.out]
            refine (HR.out).mono ?_
            rintro _ w4 ⟨m, hm, Ag, cg, rfl, hmc, hAg, hog, hp4, hs4⟩
            rw [e2] at hm
            rw [e]
            clear e e2
            have h4 : But (· = gl) wr w4 := (Safe.but HSA.out).trans hs4
            have hown4 := (HO.out.own h4).2
            have d2 : w4.cell? ⟨wr.heap.size, 2, none⟩ = some (I a.n) := hs4.cell (by rw [HWA.out]; exact (Blk.new _ _ _).cell' rfl) (by
              have := HO.out.bs
              show ¬ wr.heap.size = gl
              omega)
            have hmp : m ≤ P.pn := by omega
            have hgcells := Rd.cells (Rd.of_own (enc := U) (by rw [headN_len]; exact hog))
            rw [headN_len] at hgcells
            have hml : ((headN P m).map U).length = m * 1 := by rw [List.length_map, headN_len, Nat.mul_one]
            have hone : ∀ u ∈ (headN P m).map U, u.oneCell' = true := by intro u hu; rw [List.mem_map] at hu; obtain ⟨x, _, rfl⟩ := hu; rfl
            have h63 : OUT.length + m ≤ maxLen := by simp [maxLen]; omega
            have hby : (OUT.length + m) * 1 ≤ 140737488355328 := by omega
            have hba : base ≤ w4.heap.size := by have := HO.out.bs; have := h4.size; omega
            have hmn : (m : Int) ≤ a.n := by omega
            have HM := Lib.hid hm
            clear hm
            have HGC := Lib.hid hgcells
            have HS4 := Lib.hid h4
            have HO4 := Lib.hid hown4
            have HP4 := Lib.hid hp4
            have HML := Lib.hid hml
            have HONE := Lib.hid hone
            clear hgcells h4 hown4 hp4 hml hone hs4 hog hAg
            go_wp2_with (at_builtin; go_must (refine wpList_pushAll slBytes rfl (.tmp 125) (.tmp 126) rfl base _ OUT.length (OUT.map U) rfl HO4.out Ag m cg ((headN P m).map U) rfl HML.out HGC.out HONE.out h63 hby hba ?_); intro v1 w5 ho hg hd)
            have hI5 := HO.out.readd HS4.out HP4.out hmp ho hg hd
            obtain ⟨A1, c1', rfl, hc1'⟩ := own_form ho
            have hlen5 := len_yes gp gl [takeN P m] 0 _ w5 hI5.pw rfl hI5.th
            rw [takeN_pn P m, show ((P.pn - m : Nat) : Int) = (P.pn : Int) - m from by omega] at hlen5
            have HI5 := Lib.hid hI5
            have HL5 := Lib.hid hlen5
            clear ho hg hd hI5 hlen5
            refine (HL5.out).mono ?_
            rintro _ _ ⟨rfl, rfl⟩
            go_wp2
            go_roundw
            case rel => exact ⟨i + 1, takeN P m, q.drop m, IN, OUT ++ headN P m, by omega, by omega, by go_num, HI5.out⟩
            case measure => simp [intOf]; omega
        · rcases hb2 with h1 | ⟨h1, h3⟩
          all_goals
            subst g2
            go_wp2_with fail
            rw [← HWA.out]
            refine (HR.out).mono ?_
            rintro _ w4 ⟨m, hm, Ag, cg, rfl, hmc, hAg, hog, hp4, hs4⟩
            rw [e2] at hm
            rw [e]
            clear e e2
            have h4 : But (· = gl) wr w4 := (Safe.but HSA.out).trans hs4
            have hown4 := (HO.out.own h4).2
            have d2 : w4.cell? ⟨wr.heap.size, 2, none⟩ = some (I a.n) := hs4.cell (by rw [HWA.out]; exact (Blk.new _ _ _).cell' rfl) (by
              have := HO.out.bs
              show ¬ wr.heap.size = gl
              omega)
            have hmp : m ≤ P.pn := by omega
            have hgcells := Rd.cells (Rd.of_own (enc := U) (by rw [headN_len]; exact hog))
            rw [headN_len] at hgcells
            have hml : ((headN P m).map U).length = m * 1 := by rw [List.length_map, headN_len, Nat.mul_one]
            have hone : ∀ u ∈ (headN P m).map U, u.oneCell' = true := by intro u hu; rw [List.mem_map] at hu; obtain ⟨x, _, rfl⟩ := hu; rfl
            have h63 : OUT.length + m ≤ maxLen := by simp [maxLen]; omega
            have hby : (OUT.length + m) * 1 ≤ 140737488355328 := by omega
            have hba : base ≤ w4.heap.size := by have := HO.out.bs; have := h4.size; omega
            have hbne : ((IN.length : Int) != (OUT.length : Int)) = false := by simp; omega
            have hd0 : (IN.length : Int) - (OUT.length : Int) = 0 := by omega
            subst hm
            have HGC := Lib.hid hgcells
            have HS4 := Lib.hid h4
            have HO4 := Lib.hid hown4
            have HP4 := Lib.hid hp4
            have HML := Lib.hid hml
            have HONE := Lib.hid hone
            clear hgcells h4 hown4 hp4 hml hone hs4 hog hAg
            go_wp2_with (at_builtin; go_must (refine wpList_pushAll slBytes rfl (.tmp 125) (.tmp 126) rfl base _ OUT.length (OUT.map U) rfl HO4.out Ag 0 cg ((headN P 0).map U) rfl HML.out HGC.out HONE.out h63 hby hba ?_); intro v1 w5 ho hg hd)
            have hI5 := HO.out.readd HS4.out HP4.out hmp ho hg hd
            obtain ⟨A1, c1', rfl, hc1'⟩ := own_form ho
            have hlen5 := len_yes gp gl [takeN P 0] 0 _ w5 hI5.pw rfl hI5.th
            rw [show (takeN P 0).pn = P.pn from rfl] at hlen5
            have HI5 := Lib.hid hI5
            have HL5 := Lib.hid hlen5
            clear ho hg hd hI5 hlen5
            refine (HL5.out).mono ?_
            rintro _ _ ⟨rfl, rfl⟩
            go_wp2
            go_roundw
            case rel => exact ⟨i + 1, takeN P 0, q.drop 0, IN, OUT ++ headN P 0, by omega, by omega, by go_num, HI5.out⟩
            case measure => simp [intOf]; omega
      · obtain ⟨hk1, hk2, hkE⟩ := wrE_cases P bs (by rw [HO.out.pr1]; decide) hpn
        have hrda := hrd.safe (HO.out.safe.trans hsa)
        have hlt2 : 0 < bs.length → ∀ ad, a.B = some ad → ad.block ≠ gl := fun hb ad he => by
          have := hrd.lt hb ad he
          have := HO.out.glw
          omega
        have hwr := fun l hl => write_yes' gp gl [P] 0 P wa hpa rfl HO.out.th a.B l a.bc bs hl hrda hlt2 (by omega) hu8 (by omega)
        have HW := Lib.hid hwr
        have HRD := Lib.hid hrd
        have HHBS := Lib.hid hbs
        have HU8 := Lib.hid hu8
        have HSA := Lib.hid hsa
        have HPA := Lib.hid hpa
        have HWA := Lib.hid hwa
        have HIN := Lib.hid hIn
        have HPOK := Lib.hid hPok
        clear hwr hrd hbs hu8 hsa hpa hIn hPok hlt2 hrda
        have hb2 : ((a.bs.length : Int) ≤ 200 ∧ a.bs.length = bs.length) ∨ (200 < (a.bs.length : Int) ∧ 200 ≤ (a.bc : Int) ∧ 200 = bs.length) := by omega
        have hble : bs.length ≤ a.bs.length := by omega
        have HBSL := Lib.hid hbsl
        clear hbsl
        have hlo1 : (P.pn : Int) + OUT.length ≤ IN.length := by omega
        have hlo2 : (IN.length : Int) ≤ (P.pn : Int) + OUT.length := by omega
        have HL := Lib.hid hlens
        clear hlens
        rcases hb2 with ⟨h1, h2⟩ | ⟨h1, h3, h2⟩
        all_goals
          have H2 := Lib.hid h2
          clear h2
          go_wp2_with fail
          rw [← HWA.out]
          refine (HW.out _ H2.out).mono ?_
          rintro _ w4 ⟨rfl, hp4, hs4⟩
          have h4 : But (· = gl) wr w4 := (Safe.but HSA.out).trans hs4
          have hsafe4 : Safe w w4 := HO.out.safe.step h4 (fun k hk => .inr (by rw [show k = gl from hk]; exact HO.out.glw))
          have hown4 := (HO.out.own h4).1
          obtain ⟨k, hk⟩ : ∃ k, k = wrN P bs := ⟨_, rfl⟩
          rw [← hk] at hp4 hk1 hk2 hkE ⊢
          have hbk : (bs.take k).length = k := by rw [List.length_take]; omega
          have hrd4 : Rd U w4 a.B (bs.take k) := (HRD.out.safe hsafe4).take k
          have hcells4 := Rd.cells hrd4
          rw [hbk] at hcells4
          have hml : ((bs.take k).map U).length = k * 1 := by rw [List.length_map, hbk, Nat.mul_one]
          have hone : ∀ u ∈ (bs.take k).map U, u.oneCell' = true := by intro u hu; rw [List.mem_map] at hu; obtain ⟨x, _, rfl⟩ := hu; rfl
          have h63 : IN.length + k ≤ maxLen := by simp [maxLen]; omega
          have hby : (IN.length + k) * 1 ≤ 140737488355328 := by omega
          have hba : base ≤ w4.heap.size := by have := HO.out.bs; have := h4.size; omega
          have hkb : k ≤ a.bc := by omega
          have HC4 := Lib.hid hcells4
          have HR4 := Lib.hid hrd4
          have HS4 := Lib.hid h4
          have HO4 := Lib.hid hown4
          have HP4 := Lib.hid hp4
          have HBK := Lib.hid hbk
          have HK := Lib.hid hk
          have HML := Lib.hid hml
          have HONE := Lib.hid hone
          have hkl2 : (k : Int) ≤ a.bs.length := by omega
          clear hcells4 hrd4 h4 hown4 hp4 hbk hk hml hone hsafe4 hs4
          rcases hkE with e | ⟨e, e2, e3⟩
          · rw [e]
            clear e
            go_wp2_with (at_builtin; go_must (refine wpList_pushAll slBytes rfl (.tmp 90) (.tmp 93) rfl base _ IN.length (IN.map U) rfl HO4.out a.B k a.bc ((bs.take k).map U) rfl HML.out HC4.out HONE.out h63 hby hba ?_); intro v1 w5 ho hg hd)
            have hI5 := HO.out.wrote HS4.out (P' := putAll P (bs.take k)) (B := bs.take k) HP4.out rfl (by rw [HBK.out]; exact hk2) (by rw [HBK.out]; omega) (by rw [HBK.out]; exact ho) hg hd
            have hpn5 : (putAll P (bs.take k)).pn = P.pn + k := by rw [putAll_pn, HBK.out]
            obtain ⟨A1, c1', rfl, hc1'⟩ := own_form ho
            have hlen5 := len_yes gp gl [putAll P (bs.take k)] 0 _ w5 hI5.pw rfl hI5.th
            rw [hpn5] at hlen5
            have HI5 := Lib.hid hI5
            have HL5 := Lib.hid hlen5
            clear ho hg hd hI5 hpn5 hlen5
            refine (HL5.out).mono ?_
            rintro _ _ ⟨rfl, rfl⟩
            go_wp2
            go_roundw
            case rel => exact ⟨i + 1, putAll P (bs.take k), q ++ bs.take k, IN ++ bs.take k, OUT, by omega, by omega, by go_num, HI5.out⟩
            case measure => simp [intOf]; omega
          · rw [e]
            clear e
            subst e2
            have hd64 : (IN.length : Int) - OUT.length = 64 := by omega
            go_wp2_with (at_builtin; go_must (refine wpList_pushAll slBytes rfl (.tmp 90) (.tmp 93) rfl base _ IN.length (IN.map U) rfl HO4.out a.B 0 a.bc ((bs.take 0).map U) rfl HML.out HC4.out HONE.out h63 hby hba ?_); intro v1 w5 ho hg hd)
            have hI5 := HO.out.wrote HS4.out (P' := putAll P (bs.take 0)) (B := bs.take 0) HP4.out rfl (by rw [HBK.out]; exact hk2) (by rw [HBK.out]; omega) (by rw [HBK.out]; exact ho) hg hd
            have hpn5 : (putAll P (bs.take 0)).pn = 64 := by rw [putAll_pn, HBK.out, e3]
            obtain ⟨A1, c1', rfl, hc1'⟩ := own_form ho
            have hlen5 := len_yes gp gl [putAll P (bs.take 0)] 0 _ w5 hI5.pw rfl hI5.th
            rw [hpn5] at hlen5
            have HI5 := Lib.hid hI5
            have HL5 := Lib.hid hlen5
            clear ho hg hd hI5 hpn5 hlen5
            refine (HL5.out).mono ?_
            rintro _ _ ⟨rfl, rfl⟩
            go_wp2
            go_roundw
            case rel => exact ⟨i + 1, putAll P (bs.take 0), q ++ bs.take 0, IN ++ bs.take 0, OUT, by omega, by omega, by go_num, HI5.out⟩
            case measure => simp [intOf]; omega
    · have hne2 : (¬ i < n) ∨ (i < n ∧ ¬ ((i : Int) < 80)) := by
        by_cases h1 : i < n
        · exact .inr ⟨h1, fun h2 => hlt ⟨h1, by omega⟩⟩
        · exact .inl h1
      have hw := HO.out.pw1
      have hr1 := HO.out.pr1
      have hadd := add_yes gp gl [P] 0 P wr HO.out.pw rfl HO.out.th 0 (-1) (by unfold addOk; rw [hw, hr1]; rfl)
      obtain ⟨P4, hP4⟩ : ∃ P4, P4 = addP P 0 (-1) := ⟨_, rfl⟩
      have hP4' : P4 = { P with r := P.r + 0, w := P.w + (-1) } := by rw [hP4]; unfold addP; rw [if_neg (by omega)]
      have h4th : P4.there = true := by rw [hP4']; exact HO.out.th
      have h4w : P4.w = 0 := by rw [hP4']; show P.w + (-1) = 0; omega
      have h4pn : P4.pn = P.pn := by rw [hP4']
      have h4q : Q P4 q := by rw [hP4']; exact ⟨HO.out.hq.n, HO.out.hq.get⟩
      rw [← hP4] at hadd
      have e1 : rdE P4 100 = 0 := by simp [rdE, h4w]
      have e2 : rdN P4 100 = P.pn := by
        simp only [rdN, e1, h4pn, if_true]
        omega
      have HADD := Lib.hid hadd
      have H4 := Lib.hid (show P4.there = true ∧ P4.w = 0 ∧ P4.pn = P.pn ∧ Q P4 q from ⟨h4th, h4w, h4pn, h4q⟩)
      have HE := Lib.hid (show rdE P4 100 = 0 ∧ rdN P4 100 = P.pn from ⟨e1, e2⟩)
      have HLENS := Lib.hid hlens
      have HPOK := Lib.hid hPok
      clear hadd hP4 hP4' h4th h4w h4pn h4q e1 e2 hw hr1 hlens hPok hlt
      have hNL : OUT.length ≤ 16000 ∧ IN.length ≤ 16000 := by have := HLENS.out; omega
      rcases hne2 with h1 | ⟨h1, h2⟩
      all_goals
        go_wp2_with fail
        refine (HADD.out).mono ?_
        rintro _ w4 ⟨rfl, hp4, hs4⟩
        have hrd5 := Lib.hid (read_yes gp gl [P4] 0 P4 w4 hp4 rfl H4.out.1 100 (by decide))
        obtain ⟨hi4, ho4⟩ := HO.out.own hs4
        have HS4 := Lib.hid hs4
        have HI4 := Lib.hid hi4
        have HO4 := Lib.hid ho4
        have HP4 := Lib.hid hp4
        clear hs4 hi4 ho4 hp4
        go_wp2_with fail
        refine (hrd5.out).mono ?_
        rintro _ w5 ⟨m, hm, Ag, cg, rfl, hmc, hAg, hog, hp5, hs5⟩
        rw [HE.out.1]
        rw [HE.out.2] at hm
        subst hm
        have h5 := takeN_same P4 P.pn
        have h5pn : (takeN P4 P.pn).pn = 0 := by rw [takeN_pn, H4.out.2.2.1]; omega
        have h5q := takeN_Q (HP4.out.ok P4 (by simp)) H4.out.2.2.2 P.pn (by rw [H4.out.2.2.1]; exact Nat.le_refl _)
        have h5h : headN P4 P.pn = q := by rw [h5q.2, ← HO.out.hq.n, List.take_length]
        have hrd6 := read_yes gp gl [takeN P4 P.pn] 0 _ w5 hp5 rfl (by rw [h5.1]; exact H4.out.1) 100 (by decide)
        have e1 : rdE (takeN P4 P.pn) 100 = 0 := by simp [rdE, h5.2.2, H4.out.2.1]
        have e2 : rdN (takeN P4 P.pn) 100 = 0 := by simp only [rdN, e1, h5pn, if_true]; omega
        rw [e1, e2] at hrd6
        rw [h5h] at hog
        have HR6 := Lib.hid hrd6
        have HS5 := Lib.hid hs5
        have HG := Lib.hid hog
        clear hrd6 hs5 hog hp5 h5 h5pn h5q h5h e1 e2 hAg
        go_wp2_with fail
        refine (HR6.out).mono ?_
        rintro _ w6 ⟨m6, rfl, A6, c6, rfl, hmc6, _, _, _, hs6⟩
        have hs46 : But (· = gl) w4 w6 := HS5.out.trans hs6
        have hgl4 := HP4.out.hl.lt
        have ho6 := own_but_kept HO4.out hs46 (fun k hk e => by have := (HO4.out.lt k hk).1; have : k = gl := e; omega)
        have hi6 := own_but_kept HI4.out hs46 (fun k hk e => by have := (HI4.out.lt k hk).1; have : k = gl := e; omega)
        have hg6 := own_but_kept HG.out hs6 (fun k hk e => by have := (HG.out.lt k hk).1; have : k = gl := e; omega)
        have hql : q.length = P.pn := HO.out.hq.n
        have hgc := Rd.cells (Rd.of_own (enc := U) (by rw [hql]; exact hg6))
        rw [hql] at hgc
        have hml : (q.map U).length = P.pn * 1 := by rw [List.length_map, hql, Nat.mul_one]
        have hone : ∀ u ∈ q.map U, u.oneCell' = true := by intro u hu; rw [List.mem_map] at hu; obtain ⟨x, _, rfl⟩ := hu; rfl
        have h63 : OUT.length + P.pn ≤ maxLen := by simp [maxLen]; omega
        have hby : (OUT.length + P.pn) * 1 ≤ 140737488355328 := by omega
        have hba : base ≤ w6.heap.size := by have := HO.out.bs; have := HS4.out.size; have := hs46.size; omega
        have HGC := Lib.hid hgc
        have HS6 := Lib.hid (HS4.out.trans hs46)
        have HO6 := Lib.hid ho6
        have HI6 := Lib.hid hi6
        have HQL := Lib.hid hql
        have HML := Lib.hid hml
        have HONE := Lib.hid hone
        clear hgc hs46 hs6 ho6 hi6 hg6 hql hml hone hgl4
        go_wp2_with (at_builtin; go_must (refine wpList_pushAll slBytes rfl (.tmp 173) (.tmp 174) rfl base _ OUT.length (OUT.map U) rfl HO6.out Ag P.pn cg (q.map U) rfl HML.out HGC.out HONE.out h63 hby hba ?_); intro v1 w7 ho hg hd)
        obtain ⟨A1, c1', rfl, hc1'⟩ := own_form ho
        have hgb := But.of_grown hg
        have hi7 := own_but_kept HI6.out hgb (fun k hk e => HO.out.ne k hk e.symm)
        have hsafe : Safe w w7 := (HO.out.safe.step HS6.out (fun k hk => .inr (by rw [show k = gl from hk]; exact HO.out.glw))).step hgb (fun k hk => .inr (by have := (HO6.out.lt k hk.symm).1; omega))
        have heq := equal_is A1 Ai (OUT.length + P.pn) c1' IN.length ci (OUT ++ q) IN w7 (by rw [List.length_append, HQL.out]) rfl (Rd.of_own (by rw [List.length_append, HQL.out, List.map_append]; exact ho)) (Rd.of_own hi7) (by rw [List.length_append, HQL.out]; omega) (by omega)
        rw [decide_eq_true HO.out.io.symm] at heq
        have HEQ := Lib.hid heq
        have HSF := Lib.hid hsafe
        clear heq hsafe ho hg hd hgb hi7
        refine (HEQ.out).mono ?_
        rintro _ w8 ⟨rfl, hs8⟩
        go_wp2
        go_ret
        exact ⟨rfl, HSF.out.trans hs8⟩
end Go.Proofs.Ytfokjmlkhaehgaa
