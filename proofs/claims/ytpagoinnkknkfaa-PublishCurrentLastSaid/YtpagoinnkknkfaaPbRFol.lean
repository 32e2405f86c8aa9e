/-
  Follow of the reference. (Written by wip/gen/gen_pbrf.py.)
-/
import Derived.Test.YtpagoinnkknkfaaPbFolM
namespace Go.Proofs.Ytpagoinnkknkfaa.Pb
open Go Go.RowKit Go.Shelf Go.Proofs.Ytpagoinnkknkfaa.Slc
set_option linter.unusedVariables false
set_option linter.unusedSimpArgs false
attribute [local go_sem] Oper.semAt_some

theorem was_succ (l : List Ch) (x : Int) (k : Nat) (h : k < l.length) : wasR (l.take (k + 1)) x = if (l[k]).s = x then (l[k]).r else wasR (l.take k) x := by
  unfold wasR
  rw [List.take_succ_eq_append_getElem h, List.foldl_append]
  rfl
set_option maxRecDepth 10000 in
set_option maxHeartbeats 4000000 in
theorem rfollow_any (w : World) (v : Value) (l : List Ch) (c : Ch) (hA : Rd w encC v l) (hl : l.length ≤ 1000000) :
    Calls Try.prog 16 #[v, chV c] w fun e w' => e = .returned (.int .i64 (followR l c)) ∧ Below w.heap.size w w' := by
  obtain ⟨ad, cap, rfl, -⟩ := hA.form
  have HC := Bx.mk (rdC_cells hA).2
  have HB := Bx.mk ((Below.refl w.heap.size w).alloc (Nat.le_refl _) (.cells #[.int .i64 c.s, .int .i64 c.t, .int .i64 c.r, .int .i64 c.v] 24))
  have HBK := Bx.mk (show (w.alloc (.cells #[.int .i64 c.s, .int .i64 c.t, .int .i64 c.r, .int .i64 c.v] 24)).heap[w.heap.size]? = some (.cells #[.int .i64 c.s, .int .i64 c.t, .int .i64 c.r, .int .i64 c.v] 24 (0, 0)) from heap_alloc_new _ _)
  obtain ⟨R, hR⟩ : ∃ R, R = followR l c := ⟨_, rfl⟩
  rw [← hR]
  have HLT := Bx.mk (lastT_eq l)
  unfold followR at hR
  rw [← state_eq] at hR
  have HRQ := Bx.mk hR
  clear hA hR
  obtain ⟨S, T, K, V⟩ := c
  simp only at HB HRQ HBK
  unfold chV
  by_cases h0 : S < 1
  · have t0 : decide (S < 1) = true := by simp; omega
    have HE := Bx.mk (show R = 21 by rw [HRQ.out, if_pos (by omega)])
    clear HRQ HLT
    go_enter Try.func16, Try.ntmps16
    go_wp2_with fail
    go_ret
    exact ⟨by rw [HE.out]; rfl, HB.out⟩
  have t0 : decide (S < 1) = false := by simp; omega
  by_cases h1 : 4611686018427387904 < S
  · have t1 : decide (S > 4611686018427387904) = true := by simp; omega
    have HE := Bx.mk (show R = 21 by rw [HRQ.out, if_pos (by omega)])
    clear HRQ HLT
    go_enter Try.func16, Try.ntmps16
    go_wp2_with fail
    go_ret
    exact ⟨by rw [HE.out]; rfl, HB.out⟩
  have t1 : decide (S > 4611686018427387904) = false := by simp; omega
  by_cases h2 : K < 0
  · have t2 : decide (K < 0) = true := by simp; omega
    have HE := Bx.mk (show R = 1 by rw [HRQ.out, if_neg (by omega), if_pos (by omega)])
    clear HRQ HLT
    go_enter Try.func16, Try.ntmps16
    go_wp2_with fail
    go_ret
    exact ⟨by rw [HE.out]; rfl, HB.out⟩
  have t2 : decide (K < 0) = false := by simp; omega
  by_cases h3 : K = 7
  · have t3 : (K == 7) = true := by simp; omega
    have HE := Bx.mk (show R = 1 by rw [HRQ.out, if_neg (by omega), if_pos (by omega)])
    clear HRQ HLT
    subst h3
    go_enter Try.func16, Try.ntmps16
    go_wp2_with fail
    go_ret
    exact ⟨by rw [HE.out]; rfl, HB.out⟩
  have t3 : (K == 7) = false := by simp; omega
  by_cases h4 : 10 < K
  · have t4 : decide (K > 10) = true := by simp; omega
    have HE := Bx.mk (show R = 1 by rw [HRQ.out, if_neg (by omega), if_pos (by omega)])
    clear HRQ HLT
    go_enter Try.func16, Try.ntmps16
    go_wp2_with fail
    go_ret
    exact ⟨by rw [HE.out]; rfl, HB.out⟩
  have t4 : decide (K > 10) = false := by simp; omega
  have HRQ2 := Bx.mk (show R = if (T < 0 ∨ 254033452799 < T ∨ T < lastT l ∨ V < -1 ∨ T < V ∨ (K = 8 ∧ V ≠ -1)) then 12 else if stateR l ⟨S, T, K, V⟩ then 0 else 24 by rw [HRQ.out, if_neg (by omega), if_neg (by omega)]; rfl)
  clear HRQ h0 h1 h2 h3 h4
  go_enter Try.func16, Try.ntmps16
  go_upto_if 31 with fail
  go_cut [5] (fun s5 wc => s5 = .int .i64 (lastT l) ∧ wc = (w.alloc (.cells #[.int .i64 S, .int .i64 T, .int .i64 K, .int .i64 V] 24)))
  case first =>
    rcases Nat.eq_zero_or_pos l.length with hz | hp
    · have hll := Bx.mk (show lastT l = 0 by rw [List.eq_nil_of_length_eq_zero hz]; rfl)
      have tz : decide ((l.length : Int) > 0) = false := decide_eq_false (by omega)
      have tz2 : decide (0 < l.length) = false := decide_eq_false (by omega)
      have hnl : ¬ (0 < l.length) := by omega
      clear hz HC HLT
      go_wp2_with fail
      go_meet
      exact ⟨by rw [hll.out], rfl⟩
    · obtain ⟨b, o, rfl, hbl, c0, c1, c2, c3⟩ := HC.out _ HB.out (l.length - 1) (by omega)
      have hll := HLT.out hp
      rw [← hll] at c1
      have tz : decide ((l.length : Int) > 0) = true := by simpa using hp
      have tz2 : decide (0 < l.length) = true := by simpa using hp
      obtain ⟨n1, hn1⟩ : ∃ n1, n1 = l.length - 1 := ⟨_, rfl⟩
      rw [← hn1] at c1
      have hn1l : n1 < l.length := by omega
      have hn1i : (n1 : Int) < l.length := by omega
      have hsub : ((l.length : Int) - 1) = (n1 : Int) := by omega
      have hwr : IntKind.i64.wrap ((l.length : Int) - 1) = (n1 : Int) := by rw [hsub]; exact IntWalk.i64_in _ (by omega)
      have hnn : ((n1 : Int)).toNat = n1 := by omega
      have hw2 : IntKind.i64.wrap (n1 : Int) = (n1 : Int) := IntWalk.i64_in _ (by omega)
      clear hn1 hll HLT HC c0 c2 c3 hbl hp hsub HBK
      generalize lastT l = LT at *
      go_wp2_with fail
      clear hwr hw2 hnn
      go_meet
      exact ⟨rfl, rfl⟩
  case rest =>
    obtain ⟨rfl, rfl⟩ := hcut
    have m0 := cell_of_row _ _ 0 _ _ _ HBK.out
    have m1 := cell_of_row _ _ 1 _ _ _ HBK.out
    have m2 := cell_of_row _ _ 2 _ _ _ HBK.out
    have m3 := cell_of_row _ _ 3 _ _ _ HBK.out
    simp only [List.getElem?_toArray, List.getElem?_cons_zero, List.getElem?_cons_succ] at m0 m1 m2 m3
    obtain ⟨wq, hwq⟩ : ∃ wq, wq = (w.alloc (.cells #[.int .i64 S, .int .i64 T, .int .i64 K, .int .i64 V] 24)) := ⟨_, rfl⟩
    rw [← hwq] at m0 m1 m2 m3 HB HBK ⊢
    clear hwq HLT
    generalize lastT l = LT at *
    go_upto_region 8 with fail
    go_cut [74] from 39 to 73 (fun s74 wc => wc = wq ∧ ∃ q : Bool, s74 = .bool q ∧ (q = true → R = 12) ∧ (q = false → ¬ (T < 0 ∨ 254033452799 < T ∨ T < LT ∨ V < -1 ∨ T < V ∨ (K = 8 ∧ V ≠ -1))))
    case first =>
      by_cases h5 : T < 0
      · have t5 : decide (T < 0) = true := by simpa using h5
        have HE := Bx.mk (show R = 12 by rw [HRQ2.out, if_pos (by omega)])
        clear HRQ2 h5
        go_wp2_with fail
        go_meet
        exact ⟨rfl, true, rfl, fun _ => HE.out, (fun h => nomatch h)⟩
      have t5 : decide (T < 0) = false := by simpa using h5
      by_cases h6 : 254033452799 < T
      · have t6 : decide (T > 254033452799) = true := by simpa using h6
        have HE := Bx.mk (show R = 12 by rw [HRQ2.out, if_pos (by omega)])
        clear HRQ2 h6
        go_wp2_with fail
        go_meet
        exact ⟨rfl, true, rfl, fun _ => HE.out, (fun h => nomatch h)⟩
      have t6 : decide (T > 254033452799) = false := by simpa using h6
      by_cases h7 : T < LT
      · have t7 : decide (T < LT) = true := by simpa using h7
        have HE := Bx.mk (show R = 12 by rw [HRQ2.out, if_pos (by omega)])
        clear HRQ2 h7
        go_wp2_with fail
        go_meet
        exact ⟨rfl, true, rfl, fun _ => HE.out, (fun h => nomatch h)⟩
      have t7 : decide (T < LT) = false := by simpa using h7
      by_cases h8 : V < -1
      · have t8 : decide (V < -1) = true := by simpa using h8
        have HE := Bx.mk (show R = 12 by rw [HRQ2.out, if_pos (by omega)])
        clear HRQ2 h8
        go_wp2_with fail
        go_meet
        exact ⟨rfl, true, rfl, fun _ => HE.out, (fun h => nomatch h)⟩
      have t8 : decide (V < -1) = false := by simpa using h8
      by_cases h9 : T < V
      · have t9 : decide (V > T) = true := by simpa using h9
        have HE := Bx.mk (show R = 12 by rw [HRQ2.out, if_pos (by omega)])
        clear HRQ2 h9
        go_wp2_with fail
        go_meet
        exact ⟨rfl, true, rfl, fun _ => HE.out, (fun h => nomatch h)⟩
      have t9 : decide (V > T) = false := by simpa using h9
      by_cases h10 : K = 8
      · have t10 : (K == 8) = true := by simpa using h10
        by_cases h11 : V = -1
        · have t11 : (V != -1) = false := by simp [h11]
          have HN := Bx.mk (show ¬ (T < 0 ∨ 254033452799 < T ∨ T < LT ∨ V < -1 ∨ T < V ∨ (K = 8 ∧ V ≠ -1)) by omega)
          clear HRQ2 h5 h6 h7 h8 h9 h10 h11
          go_wp2_with fail
          go_meet
          exact ⟨rfl, false, rfl, (fun h => nomatch h), fun _ => HN.out⟩
        · have t11 : (V != -1) = true := by simpa using h11
          have HE := Bx.mk (show R = 12 by rw [HRQ2.out, if_pos (by omega)])
          clear HRQ2 h5 h6 h7 h8 h9 h10 h11
          go_wp2_with fail
          go_meet
          exact ⟨rfl, true, rfl, fun _ => HE.out, (fun h => nomatch h)⟩
      · have t10 : (K == 8) = false := by simpa using h10
        have HN := Bx.mk (show ¬ (T < 0 ∨ 254033452799 < T ∨ T < LT ∨ V < -1 ∨ T < V ∨ (K = 8 ∧ V ≠ -1)) by omega)
        clear HRQ2 h5 h6 h7 h8 h9 h10
        go_wp2_with fail
        go_meet
        exact ⟨rfl, false, rfl, (fun h => nomatch h), fun _ => HN.out⟩
    case rest =>
      obtain ⟨rfl, q, rfl, hq1, hcut⟩ := hcut
      cases q with
      | true =>
        have HE := Bx.mk (hq1 rfl)
        clear HRQ2 hq1 hcut
        go_wp2_with fail
        go_ret
        exact ⟨by rw [HE.out]; rfl, HB.out⟩
      | false =>
      have hcut := hcut rfl
      have HR := Bx.mk (show R = if stateR l ⟨S, T, K, V⟩ then 0 else 24 by rw [HRQ2.out, if_neg hcut])
      clear hcut hq1 HRQ2 m0 m1 m2 m3 t0 t1 t2 t3 t4
      have HBK1 := HBK.out
      have HB1 := HB.out
      clear HBK HB
      go_wp2_with fail
      obtain ⟨p, hp⟩ : ∃ p, p = w.heap.size := ⟨_, rfl⟩
      have HP := Bx.mk hp
      rw [← hp] at HBK1 ⊢
      clear hp
      go_loopw [6, 7] (fun s6 i wr => ∃ k : Nat, k ≤ l.length ∧ i = .int .i64 k ∧ s6 = .int .i64 (wasR (l.take k) S) ∧ wr.heap[p]? = some (.cells #[.int .i64 S, .int .i64 T, .int .i64 K, .int .i64 V] 24 (0, 0)) ∧ Below p w wr) (fun _ i _ => l.length - (intOf i).toNat)
      case atStart => exact ⟨0, by omega, rfl, rfl, HBK1, HP.out ▸ HB1⟩
      case round =>
        obtain ⟨k, hk, rfl, rfl, hbk, hBw⟩ := hrel
        have m0 := cell_of_row _ _ 0 _ _ _ hbk
        have m2 := cell_of_row _ _ 2 _ _ _ hbk
        simp only [List.getElem?_toArray, List.getElem?_cons_zero, List.getElem?_cons_succ] at m0 m2
        have HBw := Bx.mk (And.intro hbk hBw)
        by_cases hlt : k < l.length
        · obtain ⟨b, o, rfl, hbl, c0, c1, c2, c3⟩ := HC.out wr (HP.out ▸ hBw) k hlt
          have HWS := Bx.mk (was_succ l S k hlt)
          clear hBw hbk c1 c3 hbl
          generalize (l[k]).s = S1 at *
          generalize (l[k]).r = R1 at *
          by_cases h : S1 = S
          · have tq : (S1 == S) = true := by simp [h]
            have HW2 := Bx.mk (show wasR (l.take (k + 1)) S = R1 by rw [HWS.out, if_pos h])
            clear h HWS
            go_wp2_with fail
            go_quiet (fail)
            go_wp2
            go_roundw
            case rel => exact ⟨k + 1, by omega, by go_num, by rw [HW2.out], HBw.out.1, drewN_below' HBw.out.2 _⟩
            case measure => simp [intOf]; omega
          · have tq : (S1 == S) = false := by simp [h]
            have HW2 := Bx.mk (show wasR (l.take (k + 1)) S = wasR (l.take k) S by rw [HWS.out, if_neg h])
            clear h HWS
            go_wp2_with fail
            go_quiet (fail)
            go_wp2
            go_roundw
            case rel => exact ⟨k + 1, by omega, by go_num, by rw [HW2.out], HBw.out.1, drewN_below' HBw.out.2 _⟩
            case measure => simp [intOf]; omega
        · obtain rfl : k = l.length := by omega
          rw [List.take_length]
          have HR2 := Bx.mk HR.out
          unfold stateR at HR2
          clear hBw hbk HR
          simp only at HR2
          generalize wasR l S = Wz at *
          by_cases q6 : Wz = 6
          · subst q6
            by_cases k6 : K = 6
            · have tk : (K == 6) = true := by simp [k6]
              have HE := Bx.mk (show R = 24 by rw [HR2.out]; simp [k6])
              clear HR2 k6
              go_wp2_with fail
              go_ret
              exact ⟨by rw [HE.out]; rfl, HP.out ▸ HBw.out.2⟩
            · have tk : (K == 6) = false := by simp [k6]
              have HE := Bx.mk (show R = 0 by rw [HR2.out]; simp [k6])
              clear HR2 k6
              go_wp2_with fail
              go_ret
              exact ⟨by rw [HE.out]; rfl, HP.out ▸ HBw.out.2⟩
          by_cases q8 : Wz = 8
          · subst q8
            by_cases k8 : K = 8
            · have tk : (K == 8) = true := by simp [k8]
              have HE := Bx.mk (show R = 24 by rw [HR2.out]; simp [k8])
              clear HR2 k8 q6
              go_wp2_with fail
              go_ret
              exact ⟨by rw [HE.out]; rfl, HP.out ▸ HBw.out.2⟩
            · have tk : (K == 8) = false := by simp [k8]
              have HE := Bx.mk (show R = 0 by rw [HR2.out]; simp [k8])
              clear HR2 k8 q6
              go_wp2_with fail
              go_ret
              exact ⟨by rw [HE.out]; rfl, HP.out ▸ HBw.out.2⟩
          · have t6 : (Wz != 6) = true := by simpa using q6
            have t8 : (Wz != 8) = true := by simpa using q8
            have HE := Bx.mk (show R = 24 by rw [HR2.out]; simp [q6, q8])
            clear HR2 q6 q8
            go_wp2_with fail
            go_ret
            exact ⟨by rw [HE.out]; rfl, HP.out ▸ HBw.out.2⟩
end Go.Proofs.Ytpagoinnkknkfaa.Pb
