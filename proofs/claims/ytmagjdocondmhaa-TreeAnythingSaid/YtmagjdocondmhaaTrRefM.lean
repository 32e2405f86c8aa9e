/-
  The reference's Sources and Subjects.
-/
/-
  The reference's removed.
-/
import Derived.Test.YtmagjdocondmhaaTrRefI
import Derived.Test.YtmagjdocondmhaaTrMapY
namespace Go.Proofs.Ytmagjdocondmhaa.Tr
open Go Go.RowKit Go.Proofs.Ytmagjdocondmhaa.Slc Go.Proofs.Ytmagjdocondmhaa.St Go.Proofs.Ytmagjdocondmhaa.Mp Go.Proofs.Ytmagjdocondmhaa.Rg
set_option linter.unusedVariables false
set_option linter.unusedSimpArgs false
attribute [local go_sem] Oper.semAt_some

/-- the issuers along the first k mappings -/
def sK (l : List (B × B)) (k : Nat) : List B := ((l.take k).filter okM).map (·.1)
theorem sK_succ (l : List (B × B)) (k : Nat) (hk : k < l.length) : sK l (k + 1) = sK l k ++ if okM l[k] then [l[k].1] else [] := by
  unfold sK
  rw [List.take_succ_eq_append_getElem hk, List.filter_append, List.map_append]
  cases h : okM l[k] <;> simp [List.filter_cons, h]
theorem sK_all (l : List (B × B)) : setB (sK l l.length) = srcL l := by unfold sK srcL; rw [List.take_length]

set_option maxRecDepth 100000 in
set_option maxHeartbeats 4000000 in
theorem sources_any (w : World) (v : Value) (l : List (B × B)) (h : Rd w encP v l) (hn : l.length ≤ 100000) :
    Calls Try.prog 54 #[v] w fun e w' => ∃ v', e = .returned v' ∧ Slc.Own w' w.heap.size 9 1 encS v' (srcL l) ∧ Below w.heap.size w w' := by
  obtain ⟨i0, hi0, hz0, hz1, hz2⟩ := info_parts info_str
  obtain ⟨ad, c, rfl, -⟩ := h.form
  have HC := Bx.mk (maps_cells h).2
  obtain ⟨N, hN⟩ : ∃ N, N = l.length := ⟨_, rfl⟩
  have HN := Bx.mk hN
  rw [← hN] at hn ⊢
  clear h hN
  go_enter Try.func54, Try.ntmps54
  go_wp2_with fail
  go_loopw [3, 4] (fun ov i wr => ∃ (k : Nat) (out : List B), k ≤ N ∧ i = .int .i64 k ∧ out.length ≤ k ∧ Bx (GS w w.heap.size wr ov out) ∧ Bx (out = sK l k)) (fun _ i _ => N - (intOf i).toNat)
  case atStart => exact ⟨0, [], by omega, rfl, by simp, ⟨GS.nil w _ (Nat.le_refl _)⟩, ⟨by simp [sK, gK]⟩⟩
  case round =>
    obtain ⟨k, out, hk, rfl, hlen, hG, hF⟩ := hrel
    obtain ⟨av, cv, rfl, -⟩ := hG.out.form
    have hb0 : Below w.heap.size w wr := hG.out.bel
    by_cases hlt : k < N
    · have hkl : k < l.length := by rw [← HN.out]; exact hlt
      obtain ⟨b, o, rfl, hbl, c0, c1⟩ := HC.out wr hb0 k hkl
      have HKS := Bx.mk (sK_succ l k hkl)
      obtain ⟨x, hx⟩ : ∃ x, x = l[k] := ⟨_, rfl⟩
      rw [← hx] at c0 c1 HKS
      obtain ⟨R, hR⟩ : ∃ R, R = (okM x) := ⟨_, rfl⟩
      rw [← hR] at HKS
      have HR := Bx.mk hR
      have l0 := same_any x.1
      have l1 := same_any x.2
      clear hx hkl hbl hR hb0
      go_upto_region 5 with fail
      go_cut [24] (fun c wx => c = .bool R ∧ wx = wr)
      case first =>
        have HR1 := Bx.mk (show R = okM x from HR.out)
        by_cases q0 : x.1 = anyP
        · rw [decide_eq_true q0] at l0
          have HRR := Bx.mk (show R = false by rw [HR1.out]; unfold okM; rw [q0]; simp)
          generalize bstr x.1 = X at *
          clear q0
          go_wp2_with fail
          go_meet
          exact ⟨by rw [HRR.out], rfl⟩
        · rw [decide_eq_false q0] at l0
          by_cases q1 : x.2 = anyP
          · rw [decide_eq_true q1] at l1
            have HRR := Bx.mk (show R = false by rw [HR1.out]; unfold okM; rw [q1]; simp)
            generalize bstr x.1 = X at *
            generalize bstr x.2 = Y at *
            clear q0 q1
            go_wp2_with fail
            go_meet
            exact ⟨by rw [HRR.out], rfl⟩
          · rw [decide_eq_false q1] at l1
            have HRR := Bx.mk (show R = true by rw [HR1.out]; unfold okM; simp [q0, q1])
            generalize bstr x.1 = X at *
            generalize bstr x.2 = Y at *
            clear q0 q1
            go_wp2_with fail
            go_meet
            exact ⟨by rw [HRR.out], rfl⟩
      case rest =>
        obtain ⟨rfl, hwc⟩ := hcut
        subst hwc
        clear l0 l1
        cases R with
        | true =>
          have HSRC := Bx.mk (src_str wc x.1)
          have HOWN := Bx.mk (show Slc.Own (wc.alloc (.cells #[.string (bstr x.1)] 9)) w.heap.size 9 1 encS (.slice av out.length cv) out from hG.out.own.below ((Below.refl _ _).alloc (Nat.le_refl _) _))
          have HG3 := Bx.mk (hG.out.below (show Below wc.heap.size wc (wc.alloc (.cells #[.string (bstr x.1)] 9)) from (Below.refl _ _).alloc (Nat.le_refl _) _))
          have hm1 : out.length + 1 ≤ maxLen := by unfold maxLen; omega
          have hm2 : (out.length + 1) * 16 ≤ 140737488355328 := by omega
          have hbz : w.heap.size ≤ (wc.alloc (.cells #[.string (bstr x.1)] 9)).heap.size := HG3.out.sz
          go_wp2_with (at_builtin; refine wpList_append_any rfl _ _ _ rfl w.heap.size 9 i0 _ 1 16 und_strs hi0 hz0 hz1 hz2 rfl (by decide) _ out.length (out.flatMap encS) rfl HOWN.out _ 1 ([x.1].flatMap encS) rfl HSRC.out hm1 hm2 hbz ?_)
          intro v9 w9 hapd
          have HG9 := Bx.mk (HG3.out.apd (m := [x.1]) hapd)
          have HF9 := Bx.mk (show out ++ [x.1] = sK l (k + 1) by rw [HKS.out, hF.out]; rfl)
          clear hapd hm1 hm2 hbz
          go_wp2_with fail
          go_roundw
          case rel => exact ⟨k + 1, out ++ [x.1], by omega, by go_num, by simp; omega, HG9, HF9⟩
          case measure => simp [intOf]; omega
        | false =>
          have HF9 := Bx.mk (show out = sK l (k + 1) by rw [HKS.out, hF.out]; simp)
          go_wp2_with fail
          go_roundw
          case rel => exact ⟨k + 1, out, by omega, by go_num, by omega, hG, HF9⟩
          case measure => simp [intOf]; omega
    · obtain rfl : k = N := by omega
      have hset := rset_any wr _ out hG.out.own.rd (by omega)
      have HF2 := Bx.mk (show srcL l = setB out by rw [hF.out, HN.out]; exact (sK_all l).symm)
      clear hF
      have HBW := Bx.mk hb0
      clear hb0
      go_wp2_with fail
      go_at_call 43
      refine hset.mono ?_
      rintro e w2 ⟨v2, rfl, ho, hb2⟩
      obtain ⟨a2, c2, rfl, -⟩ := ho.rd.form
      have HO := Bx.mk ho
      have HB2 := Bx.mk hb2
      clear hset ho hb2
      go_wp2_with fail
      go_ret
      refine ⟨_, rfl, ?_, HBW.out.trans (HB2.out.mono HBW.out.size)⟩
      rw [HF2.out]
      exact HO.out.mono HBW.out.size

set_option maxRecDepth 100000 in
set_option maxHeartbeats 4000000 in
theorem subjects_any (w : World) (v : Value) (l : List (B × B)) (p : B) (h : Rd w encP v l) (hn : l.length ≤ 100000) :
    Calls Try.prog 55 #[v, .string (bstr p)] w fun e w' => ∃ v', e = .returned v' ∧ Slc.Own w' w.heap.size 9 1 encS v' (subL l p) ∧ Below w.heap.size w w' := by
  obtain ⟨i0, hi0, hz0, hz1, hz2⟩ := info_parts info_str
  obtain ⟨ad, c, rfl, -⟩ := h.form
  have HC := Bx.mk (maps_cells h).2
  obtain ⟨N, hN⟩ : ∃ N, N = l.length := ⟨_, rfl⟩
  have HN := Bx.mk hN
  rw [← hN] at hn ⊢
  clear h hN
  obtain ⟨P, hP⟩ : ∃ P, P = bstr p := ⟨_, rfl⟩
  have HP := Bx.mk hP
  rw [← hP]
  clear hP
  go_enter Try.func55, Try.ntmps55
  go_wp2_with fail
  go_loopw [5, 6] (fun ov i wr => ∃ (k : Nat) (out : List B), k ≤ N ∧ i = .int .i64 k ∧ out.length ≤ k ∧ Bx (GS w w.heap.size wr ov out) ∧ Bx (out = gK l k p)) (fun _ i _ => N - (intOf i).toNat)
  case atStart => exact ⟨0, [], by omega, rfl, by simp, ⟨GS.nil w _ (Nat.le_refl _)⟩, ⟨by simp [sK, gK]⟩⟩
  case round =>
    obtain ⟨k, out, hk, rfl, hlen, hG, hF⟩ := hrel
    obtain ⟨av, cv, rfl, -⟩ := hG.out.form
    have hb0 : Below w.heap.size w wr := hG.out.bel
    by_cases hlt : k < N
    · have hkl : k < l.length := by rw [← HN.out]; exact hlt
      obtain ⟨b, o, rfl, hbl, c0, c1⟩ := HC.out wr hb0 k hkl
      have HKS := Bx.mk (gK_succ l k hkl p)
      obtain ⟨x, hx⟩ : ∃ x, x = l[k] := ⟨_, rfl⟩
      rw [← hx] at c0 c1 HKS
      obtain ⟨R, hR⟩ : ∃ R, R = (decide (x.1 = p) && okM x) := ⟨_, rfl⟩
      rw [← hR] at HKS
      have HR := Bx.mk hR
      have l0 := same_any x.1
      have l1 := same_any x.2
      have l2 := same_bytes x.1 p
      rw [← HP.out] at l2
      clear hx hkl hbl hR hb0
      go_upto_region 5 with fail
      go_cut [35] (fun c wx => c = .bool R ∧ wx = wr)
      case first =>
        by_cases q2 : x.1 = p
        · rw [decide_eq_true q2] at l2
          have HR1 := Bx.mk (show R = okM x by rw [HR.out, decide_eq_true q2, Bool.true_and])
          clear q2
          by_cases q0 : x.1 = anyP
          · rw [decide_eq_true q0] at l0
            have HRR := Bx.mk (show R = false by rw [HR1.out]; unfold okM; rw [q0]; simp)
            generalize bstr x.1 = X at *
            clear q0
            go_wp2_with fail
            go_meet
            exact ⟨by rw [HRR.out], rfl⟩
          · rw [decide_eq_false q0] at l0
            by_cases q1 : x.2 = anyP
            · rw [decide_eq_true q1] at l1
              have HRR := Bx.mk (show R = false by rw [HR1.out]; unfold okM; rw [q1]; simp)
              generalize bstr x.1 = X at *
              generalize bstr x.2 = Y at *
              clear q0 q1
              go_wp2_with fail
              go_meet
              exact ⟨by rw [HRR.out], rfl⟩
            · rw [decide_eq_false q1] at l1
              have HRR := Bx.mk (show R = true by rw [HR1.out]; unfold okM; simp [q0, q1])
              generalize bstr x.1 = X at *
              generalize bstr x.2 = Y at *
              clear q0 q1
              go_wp2_with fail
              go_meet
              exact ⟨by rw [HRR.out], rfl⟩
        · rw [decide_eq_false q2] at l2
          have HRR := Bx.mk (show R = false by rw [HR.out, decide_eq_false q2, Bool.false_and])
          generalize bstr x.1 = X at *
          clear q2
          go_wp2_with fail
          go_meet
          exact ⟨by rw [HRR.out], rfl⟩
      case rest =>
        obtain ⟨rfl, hwc⟩ := hcut
        subst hwc
        clear l0 l1 l2
        cases R with
        | true =>
          have HSRC := Bx.mk (src_str wc x.2)
          have HOWN := Bx.mk (show Slc.Own (wc.alloc (.cells #[.string (bstr x.2)] 9)) w.heap.size 9 1 encS (.slice av out.length cv) out from hG.out.own.below ((Below.refl _ _).alloc (Nat.le_refl _) _))
          have HG3 := Bx.mk (hG.out.below (show Below wc.heap.size wc (wc.alloc (.cells #[.string (bstr x.2)] 9)) from (Below.refl _ _).alloc (Nat.le_refl _) _))
          have hm1 : out.length + 1 ≤ maxLen := by unfold maxLen; omega
          have hm2 : (out.length + 1) * 16 ≤ 140737488355328 := by omega
          have hbz : w.heap.size ≤ (wc.alloc (.cells #[.string (bstr x.2)] 9)).heap.size := HG3.out.sz
          go_wp2_with (at_builtin; refine wpList_append_any rfl _ _ _ rfl w.heap.size 9 i0 _ 1 16 und_strs hi0 hz0 hz1 hz2 rfl (by decide) _ out.length (out.flatMap encS) rfl HOWN.out _ 1 ([x.2].flatMap encS) rfl HSRC.out hm1 hm2 hbz ?_)
          intro v9 w9 hapd
          have HG9 := Bx.mk (HG3.out.apd (m := [x.2]) hapd)
          have HF9 := Bx.mk (show out ++ [x.2] = gK l (k + 1) p by rw [HKS.out, hF.out]; rfl)
          clear hapd hm1 hm2 hbz
          go_wp2_with fail
          go_roundw
          case rel => exact ⟨k + 1, out ++ [x.2], by omega, by go_num, by simp; omega, HG9, HF9⟩
          case measure => simp [intOf]; omega
        | false =>
          have HF9 := Bx.mk (show out = gK l (k + 1) p by rw [HKS.out, hF.out]; simp)
          go_wp2_with fail
          go_roundw
          case rel => exact ⟨k + 1, out, by omega, by go_num, by omega, hG, HF9⟩
          case measure => simp [intOf]; omega
    · obtain rfl : k = N := by omega
      have hset := rset_any wr _ out hG.out.own.rd (by omega)
      have HF2 := Bx.mk (show subL l p = setB out by rw [hF.out, HN.out]; exact (gK_all l p).symm)
      clear hF
      have HBW := Bx.mk hb0
      clear hb0
      go_wp2_with fail
      go_at_call 43
      refine hset.mono ?_
      rintro e w2 ⟨v2, rfl, ho, hb2⟩
      obtain ⟨a2, c2, rfl, -⟩ := ho.rd.form
      have HO := Bx.mk ho
      have HB2 := Bx.mk hb2
      clear hset ho hb2
      go_wp2_with fail
      go_ret
      refine ⟨_, rfl, ?_, HBW.out.trans (HB2.out.mono HBW.out.size)⟩
      rw [HF2.out]
      exact HO.out.mono HBW.out.size
end Go.Proofs.Ytmagjdocondmhaa.Tr

namespace Go.Proofs.Ytmagjdocondmhaa.Tr
open Go Go.RowKit Go.Proofs.Ytmagjdocondmhaa.Slc Go.Proofs.Ytmagjdocondmhaa.St Go.Proofs.Ytmagjdocondmhaa.Mp Go.Proofs.Ytmagjdocondmhaa.Rg
set_option linter.unusedVariables false
set_option linter.unusedSimpArgs false
attribute [local go_sem] Oper.semAt_some

/-- the marks behind k rounds -/
def remL (t : List Nd) (m : List Bool) (k : Nat) : List Bool := dnM t (fun i => m[i]!) k ++ m.drop k
theorem remL_length (t : List Nd) (m : List Bool) (k : Nat) (hk : k ≤ m.length) : (remL t m k).length = m.length := by
  unfold remL; rw [List.length_append, dnM_length, List.length_drop]; omega
theorem remL_all (t : List Nd) (m : List Bool) (N : Nat) (h : m.length = N) : remL t m N = dnM t (fun i => m[i]!) N := by
  unfold remL; rw [List.drop_eq_nil_of_le (by omega), List.append_nil]
theorem remL_at (t : List Nd) (m : List Bool) (k j : Nat) (hj : j < k) : (remL t m k)[j]! = (dnM t (fun i => m[i]!) k)[j]! := by
  unfold remL
  exact getElem!_append_left' (by rw [dnM_length]; exact hj)
theorem remL_step (t : List Nd) (m : List Bool) (k : Nat) (hk : k < m.length) (h : (decide (t[k]!.p < 0) || (remL t m k)[t[k]!.p.toNat]!) = true) (hp : t[k]!.p < k) : remL t m (k + 1) = remL t m k := by
  have e : (decide (t[k]!.p < 0) || (dnM t (fun i => m[i]!) k)[t[k]!.p.toNat]!) = true := by
    by_cases h0 : t[k]!.p < 0
    · rw [decide_eq_true h0]; rfl
    · rw [decide_eq_false h0, Bool.false_or] at h ⊢
      rw [← remL_at t m k _ (by omega)]; exact h
  unfold remL
  rw [dnM]
  simp only [e, Bool.and_true]
  rw [List.drop_eq_getElem_cons hk, getElem!_pos m k hk, List.append_assoc]; rfl
theorem remL_stop (t : List Nd) (m : List Bool) (k : Nat) (hk : k < m.length) (h : (decide (t[k]!.p < 0) || (remL t m k)[t[k]!.p.toNat]!) = false) (hp : t[k]!.p < k) : remL t m (k + 1) = (remL t m k).set k false := by
  have e : (decide (t[k]!.p < 0) || (dnM t (fun i => m[i]!) k)[t[k]!.p.toNat]!) = false := by
    rw [Bool.or_eq_false_iff] at h ⊢
    refine ⟨h.1, ?_⟩
    have := of_decide_eq_false h.1
    rw [← remL_at t m k _ (by omega)]; exact h.2
  unfold remL
  rw [dnM]
  simp only [e, Bool.and_false]
  rw [List.drop_eq_getElem_cons hk, List.set_append_right _ _ (by rw [dnM_length]; omega), dnM_length, Nat.sub_self, List.set_cons_zero, List.append_assoc]; rfl
theorem info_bool : (Try.prog.info? 4).map (fun i => (i.zero, i.size, i.bytes)) = some (some (.bool false), 1, 1) := by kernel_rfl
set_option maxRecDepth 100000 in
set_option maxHeartbeats 4000000 in
theorem removed_any (w : World) (v mv : Value) (l : List Nt) (m : List Bool) (h : TL w v l) (hm : Rd w encM mv m) (hml : m.length = l.length) (hn : l.length ≤ 5000) (hp : ∀ i, i < l.length → -1 ≤ (nds l)[i]!.p ∧ (nds l)[i]!.p < i) :
    Calls Try.prog 56 #[v, mv] w fun e w' => ∃ v' l', e = .returned v' ∧ TO w' w.heap.size v' l' ∧ nds l' = keepP (nds l) (dnM (nds l) (fun i => m[i]!) l.length) ∧ Below w.heap.size w w' := by
  obtain ⟨ib, hib, hib0, hib1, hib2⟩ := info_parts info_bool
  obtain ⟨ad, c, rfl, -⟩ := h.rd.form
  have HL := Bx.mk h
  have HC := Bx.mk h.cells.2
  have HPA := Bx.mk hp
  have HML := Bx.mk hml
  have HM := Bx.mk hm
  have hsr := (hm.below ((Below.refl w.heap.size w).alloc (Nat.le_refl _) (.cells #[] 4))).src encM_ok
  obtain ⟨md, mc, rfl, -⟩ := hm.form
  obtain ⟨N, hN⟩ : ∃ N, N = l.length := ⟨_, rfl⟩
  have HN := Bx.mk hN
  obtain ⟨M, hM⟩ : ∃ M, M = m.length := ⟨_, rfl⟩
  have HMM := Bx.mk hM
  have HMN := Bx.mk (show M = N by omega)
  have hMb : M ≤ 5000 := by omega
  rw [← hM] at hsr
  rw [← hN] at hn ⊢
  rw [← hM]
  have HSRC := Bx.mk hsr
  clear h hm hp hml hM hN hsr
  have hr3 : (w.alloc (.cells #[] 4)).heap[w.heap.size]? = some (.cells #[] 4 (0, 0)) := heap_alloc_new _ _
  have hm1 : M ≤ maxLen := by unfold maxLen; omega
  have hm2 : M * 1 ≤ 140737488355328 := by omega
  have hz1 : w.heap.size ≤ (w.alloc (.cells #[] 4)).heap.size := by simp
  have HB1 := Bx.mk (show Below w.heap.size w (w.alloc (.cells #[] 4)) from (Below.refl _ _).alloc (Nat.le_refl _) _)
  go_enter Try.func56, Try.ntmps56
  go_wp2_with (at_builtin; refine wpList_append_fresh rfl _ _ _ rfl w.heap.size 4 ib _ 1 1 und_bools hib hib0 hib1 hib2 rfl (by decide) w.heap.size rfl hr3 (Nat.le_refl _) hz1 _ M (m.flatMap encM) rfl HSRC.out hm1 hm2 ?_)
  intro v4 w4 hown hb4 _
  have HO4 := Bx.mk (Own.of (l := m) hown HMM.out rfl)
  have HB4 := Bx.mk (HB1.out.trans (hb4.mono (by first | omega | simp)))
  obtain ⟨a4, c4, rfl, -⟩ := HO4.out.rd.form
  clear hown hb4 hr3 hm1 hm2 hz1 HSRC HB1
  rw [← HMM.out] at HO4 ⊢
  go_wp2_with fail
  go_loopw [5] (fun i wr => ∃ k : Nat, k ≤ N ∧ i = .int .i64 k ∧ Bx (Slc.Own wr w.heap.size 4 1 encM (.slice a4 M c4) (remL (nds l) m k)) ∧ Bx (Below w.heap.size w wr)) (fun i _ => N - (intOf i).toNat)
  case atStart => exact ⟨0, by omega, rfl, ⟨by simpa [remL, dnM] using HO4.out⟩, HB4⟩
  case round =>
    obtain ⟨k, hk, rfl, hO, hBw⟩ := hrel
    by_cases hlt : k < N
    · have hkl : k < l.length := by rw [← HN.out]; exact hlt
      have hltM : k < M := by rw [HMN.out]; exact hlt
      obtain ⟨b, o, rfl, hbl, c0, c1, c2, c3⟩ := HC.out wr hBw.out k hkl
      have HX := Bx.mk (show (nds l)[k]! = (l[k]).n from nds_at l k hkl)
      have hpa := HPA.out k hkl
      rw [HX.out] at hpa
      obtain ⟨x, hx⟩ : ∃ x, x = l[k] := ⟨_, rfl⟩
      rw [← hx] at c0 c1 c2 c3 HX hpa
      have HST := Bx.mk (remL_step (nds l) m k (by rw [← HMM.out]; exact hltM))
      have HSP := Bx.mk (remL_stop (nds l) m k (by rw [← HMM.out]; exact hltM))
      rw [HX.out] at HST HSP
      have HLL := Bx.mk (show (remL (nds l) m k).length = M by rw [remL_length _ _ _ (by rw [← HMM.out]; omega)]; exact HMM.out.symm)
      clear hx hbl hkl
      by_cases hp0 : x.n.p < 0
      · have t0 : decide (x.n.p ≥ 0) = false := decide_eq_false (by omega)
        have t1 : decide (0 ≤ x.n.p) = false := decide_eq_false (by omega)
        have HE := Bx.mk (HST.out (by rw [decide_eq_true hp0]; rfl) (by omega))
        have tn : ¬ (0 ≤ x.n.p) := by omega
        clear hpa hp0
        go_wp2_with fail
        go_roundw
        case rel => exact ⟨k + 1, by omega, by go_num, ⟨by rw [HE.out]; exact hO.out⟩, hBw⟩
        case measure => simp [intOf]; omega
      · obtain ⟨pp, hpp⟩ : ∃ pp : Nat, x.n.p = (pp : Int) := ⟨x.n.p.toNat, by omega⟩
        have hpk : pp < k := by omega
        have hpM : pp < M := by omega
        have hHST := HST.out
        have hHSP := HSP.out
        rw [hpp, decide_eq_false (by omega), Bool.false_or, Int.toNat_natCast] at hHST hHSP
        obtain ⟨bt, hbt⟩ : ∃ bt, bt = (remL (nds l) m k)[pp]! := ⟨_, rfl⟩
        rw [← hbt] at hHST hHSP
        have HST2 := Bx.mk hHST
        have HSP2 := Bx.mk hHSP
        have hp' : (0 : Int) ≤ (pp : Int) := by omega
        have t0 : decide ((pp : Int) ≥ 0) = true := decide_eq_true (by omega)
        have hpk2 : (pp : Int) < (k : Int) := by omega
        obtain ⟨g, cap, hv4, hgB, hgl, hfz, hset, hgr⟩ := Own.set1 encM_ok hO.out k 0 (by rw [HLL.out]; exact hltM) (by omega) (.bool false) false rfl
        rw [HLL.out] at hv4
        simp only [Value.slice.injEq] at hv4
        obtain ⟨rfl, -, rfl⟩ := hv4
        have hcell := Own.cell encM_ok hO.out pp (by rw [HLL.out]; exact hpM) 0 (by omega) (.bool bt) (by rw [hbt, getElem!_pos _ pp (by rw [HLL.out]; exact hpM)]; rfl)
        obtain ⟨bk, hbk⟩ : ∃ bk, bk = (remL (nds l) m k)[k]! := ⟨_, rfl⟩
        have hck := Own.cell encM_ok hO.out k (by rw [HLL.out]; exact hltM) 0 (by omega) (.bool bk) (by rw [hbk, getElem!_pos _ k (by rw [HLL.out]; exact hltM)]; rfl)
        rw [Nat.mul_one, Nat.add_zero] at hcell hset hck
        clear hbk
        have hfk := hfz k
        have HSET := Bx.mk hset
        rw [hpp] at c1
        clear hset hgr hfz hHST hHSP hbt hpa hp0 hpp
        cases bt with
        | true =>
          have HE := Bx.mk (HST2.out rfl (by omega))
          clear HST2 HSP2
          go_wp2_with fail
          go_roundw
          case rel => exact ⟨k + 1, by omega, by go_num, ⟨by rw [HE.out]; exact hO.out⟩, hBw⟩
          case measure => simp [intOf]; omega
        | false =>
          have HE := Bx.mk (HSP2.out rfl (by omega))
          have HB5 := Bx.mk (hBw.out.setCell (p := ⟨g, k, none⟩) hgB (.bool false))
          clear HST2 HSP2
          go_wp2_with fail
          go_roundw
          case rel => exact ⟨k + 1, by omega, by go_num, ⟨by rw [HE.out]; exact HSET.out⟩, HB5⟩
          case measure => simp [intOf]; omega
    · obtain rfl : k = N := by omega
      have HE := Bx.mk (remL_all (nds l) m k (by rw [← HMM.out, HMN.out]))
      have hO' := hO.out.rd
      rw [HE.out] at hO'
      have hkp := rkeep_any wr _ _ l _ (HL.out.below hBw.out) hO' (by rw [dnM_length]; exact HN.out) (by rw [← HN.out]; exact hn) (fun i hi _ => HPA.out i hi)
      clear hO'
      rw [← HN.out] at hkp
      go_wp2_with fail
      go_at_call 67
      refine hkp.mono ?_
      rintro e w2 ⟨v2, l2, rfl, ho, hl2, hb2⟩
      obtain ⟨a2, c2, rfl, -⟩ := ho.own.rd.form
      have HO := Bx.mk ho
      have HB2 := Bx.mk hb2
      have HL2 := Bx.mk hl2
      clear hkp ho hb2 hl2
      go_wp2_with fail
      go_ret
      exact ⟨_, l2, rfl, HO.out.mono hBw.out.size, HL2.out, hBw.out.trans (HB2.out.mono hBw.out.size)⟩
end Go.Proofs.Ytmagjdocondmhaa.Tr
