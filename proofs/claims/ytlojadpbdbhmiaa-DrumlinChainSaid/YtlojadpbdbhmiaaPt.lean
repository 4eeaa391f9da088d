/- Pipes: bytes come out. -/
import Derived.Test.YtlojadpbdbhmiaaPv
import Derived.Test.YtlojadpbdbhmiaaSt
import Derived.Deep.DeepMust
namespace Go.Proofs.Ytlojadpbdbhmiaa.Pip
open Go.RowKit
set_option linter.unusedSimpArgs false
set_option linter.unusedVariables false

theorem slBytes : SlT Try.prog 78 5 (U 0) 1 1 := ⟨Try.underlying78, by kernel_rfl, rfl, by omega⟩
set_option maxRecDepth 100000 in
set_option maxHeartbeats 2000000 in
theorem take_any (gp gl : Nat) (ps : List Pp) (k : Nat) (p : Pp) (w : World) (h : PW w gp gl ps) (hk : ps[k]? = some p) (n : Int) (hn0 : 0 ≤ n) (hn1 : n ≤ 9223372036854775807) :
    Calls Try.prog 83 #[.pointer (some ⟨gl, k * 69, none⟩), .int .i64 n] w fun e w' => ∃ m : Nat, m = min n.toNat p.pn ∧ ∃ A c, e = .returned (.slice A m c) ∧ m ≤ c ∧ (∀ ad, A = some ad → w.heap.size ≤ ad.block) ∧ w'.ownsRow w.heap.size 5 1 (.slice A m c) m ((headN p m).map U) ∧
      PW w' gp gl (ps.set k (takeN p m)) ∧ But (· = gl) w w' := by
  have hlen := h.len
  obtain ⟨ho, _, c65, _, _, _⟩ := h.c hk
  have hpn := ho.pn
  obtain ⟨m, hm⟩ : ∃ m : Nat, m = min n.toNat p.pn := ⟨_, rfl⟩
  have hsp : (n ≤ (p.pn : Int) ∧ n = m) ∨ (¬ n ≤ (p.pn : Int) ∧ (p.pn : Int) = m) := by omega
  have hm64 : m ≤ p.pn := by omega
  have hgp := h.hp.lt
  have hgl := h.hl.lt
  have hne := h.ne
  have H := Lib.hid hk
  have HM := Lib.hid hm
  clear hk hm
  rcases hsp with ⟨h1, e⟩ | ⟨h1, e⟩
  all_goals
    have E := Lib.hid e
    clear e
    go_enter Try.func83, Try.ntmps83
    go_wp2
    rw [E.out]
    go_loopw [5, 12] (fun v i wr => ∃ j : Nat, j ≤ m ∧ i = .int .i64 j ∧ PW wr gp gl (ps.set k (takeN p j)) ∧ wr.ownsRow w.heap.size 5 1 v j ((headN p j).map U) ∧ But (· = gl) w wr) (fun _ i _ => m - (intOf i).toNat)
    case atStart => exact ⟨0, by omega, rfl, by simpa [takeN, set_same H.out] using h, World.ownsRow_nil _ _ _ _, But.refl _ _⟩
    case round =>
      obtain ⟨j, hj, rfl, hP, hown, hS⟩ := hrel
      obtain ⟨wo, rfl⟩ : ∃ wo : World, wo = wr := ⟨_, rfl⟩
      by_cases hlt : j < m
      · obtain ⟨q, hq⟩ : ∃ q, q = takeN p j := ⟨_, rfl⟩
        have hqp : q.pn = p.pn - j := by rw [hq, takeN_pn]
        have hsn : takeN p (j + 1) = takeB q := by rw [hq]; rfl
        have hhd : headN p (j + 1) = headN p j ++ [q.rb.getD q.pat 0] := by rw [hq]; rfl
        have hsz := hS.size
        rw [← hq] at hP
        have hqk : (ps.set k q)[k]? = some q := by rw [List.getElem?_set_self (List.getElem?_eq_some_iff.1 H.out).1]
        obtain ⟨hqo, d64, d65, _, _, _⟩ := hP.c hqk
        have hqpat := hqo.pat
        have dB := hP.byte hqk hqpat
        have hi1 : (q.pat : Int) < 64 := by omega
        have hi0 : (0 : Int) ≤ (q.pat : Int) := by omega
        generalize hx : q.rb.getD q.pat 0 = x at *
        have HSN := Lib.hid hsn
        have HQK := Lib.hid hqk
        have HQ := Lib.hid hq
        have HQP := Lib.hid hqp
        have HP := Lib.hid hP
        have HS := Lib.hid hS
        have HO := Lib.hid hown
        have HHD := Lib.hid hhd
        have HSZ := Lib.hid hsz
        have HX := Lib.hid hx
        clear hsn hqk hq hqp hP hS hown hhd hx h hsz
        have H64 := Lib.hid d64
        have HBB := Lib.hid dB
        have hbg : ¬ w.heap.size ≤ gl := by omega
        have h63 : j + 1 ≤ maxLen := by simp [maxLen]; omega
        have hby : (j + 1) * 1 ≤ 140737488355328 := by omega
        have hba : w.heap.size ≤ (wo.alloc (.cells #[U x] 5)).drew.heap.size := by
          have := HSZ.out
          show _ ≤ (wo.heap.push _).size
          rw [Array.size_push]
          omega
        have hone : ∀ u ∈ (#[U x] : Array Value).toList, u.oneCell' = true := by simp [Value.oneCell']
        go_wp2
        go_region_held3 (fun w' => w'.cell? ⟨gl, k * 69 + 64, none⟩ = some (I q.pat) ∧ w'.cell? ⟨gl, k * 69 + q.pat, none⟩ = some (U x)) (first | go_keep | (exact ⟨(own_but (own_safe HO.out (((But.refl _ wo).alloc (.cells #[U x] 5)).drew)) hg1).cell (cell_alloc H64.out _) hbg, (own_but (own_safe HO.out (((But.refl _ wo).alloc (.cells #[U x] 5)).drew)) hg1).cell (cell_alloc HBB.out _) hbg⟩))
          ((refine step_push slBytes (by rfl) (.tmp 14) (.tmp 24) (by rfl) w.heap.size u5 j _ (by rfl) (own_safe HO.out (((But.refl _ _).alloc _).drew)) wo.heap.size 5 #[U x] (by rfl) (Blk.new _ _ _).drew (by rfl) hone h63 hby hba ?_; intro v1 w1 ho1 hg1 _))
        have hB1 := own_but (own_safe HO.out (((But.refl (fun _ => False) wo).alloc (.cells #[U x] 5)).drew)) hg1
        have hP1 := (HP.out.safe (((But.refl (fun _ => False) wo).alloc (.cells #[U x] 5)).drew)).but hB1 (by omega) (by omega)
        have hS1 : But (· = gl) w w1 := ((HS.out.alloc (.cells #[U x] 5)).drew).step hB1 (fun k hk => .inr hk)
        clear hB1 hg1 d64 d65 dB
        have hqk := HQK.out
        obtain ⟨_, d64, d65, _, _, _⟩ := hP1.c hqk
        have f64 := hP1.hl.frozen (k * 69 + 64)
        have f65 := hP1.hl.frozen (k * 69 + 65)
        obtain ⟨a1, ha1⟩ : ∃ a1, a1 = (q.pat + 1) % 64 := ⟨_, rfl⟩
        have hmod : ((q.pat : Int) + 1).tmod 64 = (a1 : Int) := by rw [Int.tmod_eq_emod_of_nonneg (by omega)]; omega
        have ha64 : a1 < 64 := by omega
        have hpn1 : 1 ≤ q.pn := by have := HQP.out; omega
        have hpn2 := hqo.pn
        have hP2 := hP1.set hqk (p' := { q with pat := a1 }) (v := I a1) ⟨hqo.rb, ha64, hqo.pn, hqo.r0, hqo.r1, hqo.w0, hqo.w1⟩ (by omega) (encP_set_pat hqo.rb a1)
        rw [List.set_set] at hP2
        have hqk2 : (ps.set k { q with pat := a1 })[k]? = some { q with pat := a1 } := by rw [List.getElem?_set_self (List.getElem?_eq_some_iff.1 H.out).1]
        have hP3 := hP2.set hqk2 (p' := { q with pat := a1, pn := q.pn - 1 }) (v := I (q.pn - 1 : Nat)) ⟨hqo.rb, ha64, by show q.pn - 1 ≤ 64; omega, hqo.r0, hqo.r1, hqo.w0, hqo.w1⟩ (by omega) (encP_set_pn (p := { q with pat := a1 }) hqo.rb (q.pn - 1))
        rw [List.set_set, show ({ q with pat := a1, pn := q.pn - 1 } : Pp) = takeB q from by rw [ha1]; rfl, ← HSN.out] at hP3
        have hS3 := (hS1.setCell (p := ⟨gl, k * 69 + 64, none⟩) (.inl rfl) (I a1)).setCell (p := ⟨gl, k * 69 + 65, none⟩) (.inl rfl) (I (q.pn - 1 : Nat))
        have ho3 : ((w1.setCell ⟨gl, k * 69 + 64, none⟩ (I a1)).setCell ⟨gl, k * 69 + 65, none⟩ (I (q.pn - 1 : Nat))).ownsRow w.heap.size 5 1 v1 (j + 1) ((headN p (j + 1)).map U) := by
          rw [HHD.out, List.map_append]
          refine own_but_kept (S := (· = gl)) ho1 (((But.refl (· = gl) w1).setCell (p := ⟨gl, k * 69 + 64, none⟩) (.inl rfl) _).setCell (p := ⟨gl, k * 69 + 65, none⟩) (.inl rfl) _) (fun i hi e => ?_)
          have := (ho1.lt i hi).1
          omega
        rw [show ((q.pn - 1 : Nat) : Int) = (q.pn : Int) - 1 from by omega] at hP3 hS3 ho3
        have HP3 := Lib.hid hP3
        have HS3 := Lib.hid hS3
        have HO3 := Lib.hid ho3
        clear hP3 hS3 ho3 hqk2 hP2 hqk hP1 hS1 ha1 ho1
        go_wp2
        go_roundw
        case rel => exact ⟨j + 1, by omega, by go_num, HP3.out, HO3.out, HS3.out⟩
        case measure => simp [intOf]; omega
      · obtain rfl : j = m := by omega
        have HO := Lib.hid hown
        clear hown
        go_wp2
        go_ret
        obtain ⟨A, c, rfl, hc⟩ := own_form HO.out
        exact ⟨j, by have := HM.out; omega, A, c, rfl, hc, fun ad hA => (HO.out.lt ad.block (by rw [hA]; rfl)).1, HO.out, hP, hS⟩
end Go.Proofs.Ytlojadpbdbhmiaa.Pip
