/-
  PublishCombines, walked.
-/
import Derived.Test.YtpagoinnkknkfaaPbFew
namespace Go.Proofs.Ytpagoinnkknkfaa.Pb
open Go Go.RowKit Go.Shelf Go.Proofs.Ytpagoinnkknkfaa.Slc
set_option linter.unusedVariables false
set_option linter.unusedSimpArgs false
attribute [local go_sem] Oper.semAt_some

def rem8 (x : Et) : Et := ⟨⟨x.e.s, x.e.t, 8, x.e.v, x.e.iss⟩, x.u⟩
theorem set_mk (Y : List Et) (n : Nat) (hn : n < Y.length) (h : ∀ e ∈ ens Y, Mk e) : ∀ e ∈ ens (Y.set n (rem8 Y[n])), Mk e := by
  intro e he
  obtain ⟨x, hx, rfl⟩ := List.mem_map.1 he
  rcases List.mem_or_eq_of_mem_set hx with q | q
  · exact h _ (List.mem_map_of_mem q)
  · subst q
    have h1 : Mk (Y[n]).e := h _ (List.mem_map_of_mem (List.getElem_mem hn))
    exact ⟨h1.1, h1.2⟩
set_option maxRecDepth 100000 in
set_option maxHeartbeats 4000000 in
theorem law_combs (v : Value) (zs : List Int) (plain : Bool) (w : World) (hI : Ints w .i64 v zs) :
    Calls Try.prog 10 #[v, .bool plain] w fun e w' => e = .returned (.bool true) ∧ Below w.heap.size w w' := by
  have haw := awake_any
  have hnew := new_any w v zs w hI (Below.refl _ _)
  go_enter Try.func10, Try.ntmps10
  go_wp2_with fail
  refine hnew.mono ?_
  rintro e W1 ⟨rfl, hb1, hD1⟩
  clear hnew
  obtain ⟨g, hg⟩ : ∃ g, g = w.heap.size := ⟨_, rfl⟩
  rw [← hg] at hD1 hb1 ⊢
  have HG := Bx.mk hg
  have HB1 := Bx.mk hb1
  have hgl := hD1.lt
  clear hb1 hg
  have hm1 := made_any w v zs W1 g 12 plain hD1 (by omega)
  clear hD1
  go_wp2_with fail
  refine hm1.mono ?_
  rintro e W2 ⟨xv, X, rfl, hX, lX, oX, hD2, hg2⟩
  clear hm1
  have hm2 := made_any w v zs W2 g 12 plain hD2 (by omega)
  have hz2 := hg2.size
  clear hD2
  go_wp2_with fail
  refine hm2.mono ?_
  rintro e W3 ⟨yv, Y, rfl, hY, lY, oY, hD3, hg3⟩
  clear hm2
  obtain ⟨xa, xc, rfl, -⟩ := hX.el.rd.form
  obtain ⟨ya, yc, rfl, -⟩ := hY.el.rd.form
  have hz3 := hg3.size
  have HFAR := Bx.mk (show ∀ W, W3.heap.size ≤ W.heap.size → (∀ k, k ≠ g → k < W2.heap.size → W.heap[k]? = W3.heap[k]?) → EL W (.slice xa X.length xc) X from fun W hs hk => hX.far (by omega) fun k h1 h2 => (hk k (by omega) h2).trans (hg3.block k h2 (by simp; omega)))
  have HBF := Bx.mk (show Below w.heap.size w W3 from HG.out ▸ HB1.out.grown (hg2.trans hg3) (by omega) (fun k hk => by simp only [Option.some.injEq] at hk; omega))
  have HMX := Bx.mk oX.mk_
  have HMY := Bx.mk oY.mk_
  have HY3 := Bx.mk hY
  have HD3 := Bx.mk hD3
  have hwg : w.heap.size ≤ g := by have := HG.out; omega
  have hgw3 : g < W3.heap.size := hD3.lt
  clear hX hY hg2 hg3 oX oY hD3
  cases plain with
  | false =>
    have hXf := HFAR.out W3 (Nat.le_refl _) (fun k _ _ => rfl)
    have hYf := HY3.out.el
    have HL := Bx.mk (comb_15 HMX.out HMY.out)
    clear HFAR HY3 HD3
    have HX := Bx.mk hXf
    have HY := Bx.mk hYf
    have hp := pcomb_len W3 _ _ X Y HX.out HY.out (by omega) (by omega) HL.out
    clear hXf hYf
    go_wp2_with fail
    refine hp.mono ?_
    rintro e W6 ⟨av, A, rfl, hA, eA, hb6⟩
    clear hp
    have HA := Bx.mk hA.el
    have HEA := Bx.mk eA
    have HB6 := Bx.mk (HBF.out.trans (hb6.mono HBF.out.size))
    have hr := rcomb_any W6 _ _ X Y (HX.out.below hb6) (HY.out.below hb6) (by omega) (by omega)
    generalize hM : combE (ens X) (ens Y) = M at *
    clear hM hA eA hb6
    obtain ⟨M1, M2⟩ := M
    have tM : (M2 == M2) = true := by simp
    have HL1 := Bx.mk (show M1.length < 20 from HL.out)
    clear HL
    go_wp2_with fail
    refine hr.mono ?_
    rintro e W7 ⟨bv, Bl, rfl, hB, eB, hb7⟩
    clear hr
    have hsm := rsameE_any W7 av bv A Bl (HA.out.below hb7) hB (by have h1 := congrArg List.length HEA.out; have h2 := HL1.out; simp only [ens, List.length_map] at h1 h2; omega) (by have h1 := congrArg List.length eB; have h2 := HL1.out; simp only [ens, List.length_map] at h1 h2; omega)
    rw [HEA.out, eB, sameB_refl] at hsm
    have HB7 := Bx.mk (HB6.out.trans (hb7.mono HB6.out.size))
    clear hB eB hb7
    go_wp2_with fail
    refine hsm.mono ?_
    rintro e W8 ⟨rfl, hb8⟩
    clear hsm
    have HB8 := Bx.mk (HB7.out.trans (hb8.mono HB7.out.size))
    clear hb8
    go_wp2_with (go_at_call 18; refine (haw _).mono ?_; rintro e w8 ⟨rfl, hb8⟩)
    have HB9 := Bx.mk (HB8.out.trans (hb8.mono HB8.out.size))
    clear hb8
    go_wp2
    go_ret
    exact ⟨rfl, HB9.out⟩
  | true =>
    rcases Nat.eq_zero_or_pos Y.length with h0 | h0
    · have hXf := HFAR.out W3 (Nat.le_refl _) (fun k _ _ => rfl)
      have hYf := HY3.out.el
      have HL := Bx.mk (comb_15 HMX.out HMY.out)
      have ty : decide ((Y.length : Int) > 0) = false := decide_eq_false (by omega)
      have ty2 : decide (0 < Y.length) = false := decide_eq_false (by omega)
      have ty3 : ¬ (0 < Y.length) := by omega
      clear HFAR HY3 HD3 h0
      have HX := Bx.mk hXf
      have HY := Bx.mk hYf
      have hp := pcomb_len W3 _ _ X Y HX.out HY.out (by omega) (by omega) HL.out
      clear hXf hYf
      go_wp2_with fail
      refine hp.mono ?_
      rintro e W6 ⟨av, A, rfl, hA, eA, hb6⟩
      clear hp
      have HA := Bx.mk hA.el
      have HEA := Bx.mk eA
      have HB6 := Bx.mk (HBF.out.trans (hb6.mono HBF.out.size))
      have hr := rcomb_any W6 _ _ X Y (HX.out.below hb6) (HY.out.below hb6) (by omega) (by omega)
      generalize hM : combE (ens X) (ens Y) = M at *
      clear hM hA eA hb6
      obtain ⟨M1, M2⟩ := M
      have tM : (M2 == M2) = true := by simp
      have HL1 := Bx.mk (show M1.length < 20 from HL.out)
      clear HL
      go_wp2_with fail
      refine hr.mono ?_
      rintro e W7 ⟨bv, Bl, rfl, hB, eB, hb7⟩
      clear hr
      have hsm := rsameE_any W7 av bv A Bl (HA.out.below hb7) hB (by have h1 := congrArg List.length HEA.out; have h2 := HL1.out; simp only [ens, List.length_map] at h1 h2; omega) (by have h1 := congrArg List.length eB; have h2 := HL1.out; simp only [ens, List.length_map] at h1 h2; omega)
      rw [HEA.out, eB, sameB_refl] at hsm
      have HB7 := Bx.mk (HB6.out.trans (hb7.mono HB6.out.size))
      clear hB eB hb7
      go_wp2_with fail
      refine hsm.mono ?_
      rintro e W8 ⟨rfl, hb8⟩
      clear hsm
      have HB8 := Bx.mk (HB7.out.trans (hb8.mono HB7.out.size))
      clear hb8
      go_wp2_with (go_at_call 18; refine (haw _).mono ?_; rintro e w8 ⟨rfl, hb8⟩)
      have HB9 := Bx.mk (HB8.out.trans (hb8.mono HB8.out.size))
      clear hb8
      go_wp2
      go_ret
      exact ⟨rfl, HB9.out⟩
    · have ty : decide ((Y.length : Int) > 0) = true := decide_eq_true (by omega)
      have ty2 : decide (0 < Y.length) = true := decide_eq_true h0
      obtain ⟨gy, cap, hv, hgy, -⟩ := Go.Proofs.Ytpagoinnkknkfaa.Slc.Own.set1 encE_ok HY3.out.own 0 2 h0 (by decide) (.int .i64 8) (rem8 Y[0]) rfl
      simp only [Value.slice.injEq, true_and] at hv
      obtain ⟨rfl, rfl⟩ := hv
      have hnx := next_any w v zs W3 g Y.length HD3.out (by omega) (by omega)
      go_wp2_with fail
      refine hnx.mono ?_
      rintro e W4 ⟨r, rfl, r0, r1, -, hg4⟩
      clear hnx
      obtain ⟨n, rfl⟩ : ∃ n : Nat, r = (n : Int) := ⟨r.toNat, by omega⟩
      have hn : n < Y.length := by omega
      have hY4 := HY3.out.grow hg4 (by omega)
      obtain ⟨gy', cap', hv', -, hlt4, hfr, hown, hgr⟩ := Go.Proofs.Ytpagoinnkknkfaa.Slc.Own.set1 encE_ok hY4.own n 2 hn (by decide) (.int .i64 8) (rem8 Y[n]) rfl
      simp only [Value.slice.injEq, Option.some.injEq, Addr.mk.injEq, and_true, true_and] at hv'
      obtain ⟨rfl, rfl⟩ := hv'
      have hcell := Go.Proofs.Ytpagoinnkknkfaa.Slc.Own.cell encE_ok hY4.own n hn 2 (by decide) (.int .i64 (Y[n]).e.r) rfl
      have hfr2 := hfr (n * 5 + 2)
      obtain ⟨W5, hW5⟩ : ∃ W5, W5 = W4.setCell ⟨gy, n * 5 + 2, none⟩ (.int .i64 8) := ⟨_, rfl⟩
      rw [← hW5] at hown hgr
      have hz4 := hg4.size
      have hz5 := hgr.size
      have HY2L := Bx.mk (show (Y.set n (rem8 Y[n])).length = Y.length by simp)
      have hYf : EL W5 (.slice (some ⟨gy, 0, none⟩) Y.length yc) (Y.set n (rem8 Y[n])) := ⟨hown.rd, fun x hx => by
        have key : ∀ y ∈ Y, EtAt W5 y := fun y hy => ((hY4.nm y hy).keep hz5 fun k hk hlt => hgr.block k hlt fun e => hk.2 (by simpa [Value.ownBlock] using e.symm)).at_
        rcases List.mem_or_eq_of_mem_set hx with q | q
        · exact key x q
        · subst q
          have h1 := key _ (List.getElem_mem hn)
          exact ⟨h1.1, h1.2⟩⟩
      have hXf := HFAR.out W5 (by omega) (fun k hk hlt => (hgr.block k (by omega) (by simp; omega)).trans (hg4.block k (by omega) (by simp; omega)))
      have HBF := Bx.mk (show Below w.heap.size w W5 from (HBF.out.grown hg4 HBF.out.size (fun k hk => by simp only [Option.some.injEq] at hk; omega)).grown hgr (Nat.le_trans HBF.out.size hz4) (fun k hk => by simp only [Option.some.injEq] at hk; omega))
      have HL := Bx.mk (comb_15 HMX.out (set_mk Y n hn HMY.out))
      clear hown hgr hfr hY4 hg4 HFAR HY3 HD3 r0 r1
      generalize hYY : Y.set n (rem8 Y[n]) = Y2 at *
      clear hYY
      go_upto_region 5 with fail
      rw [← hW5]
      clear hW5 hcell hfr2
      have HX := Bx.mk hXf
      have HY := Bx.mk hYf
      have hp := pcomb_len W5 _ _ X Y2 HX.out HY.out (by omega) (by have := HY2L.out; omega) HL.out
      clear hXf hYf
      go_wp2_with fail
      refine hp.mono ?_
      rintro e W6 ⟨av, A, rfl, hA, eA, hb6⟩
      clear hp
      have HA := Bx.mk hA.el
      have HEA := Bx.mk eA
      have HB6 := Bx.mk (HBF.out.trans (hb6.mono HBF.out.size))
      have hr := rcomb_any W6 _ _ X Y2 (HX.out.below hb6) (HY.out.below hb6) (by omega) (by have := HY2L.out; omega)
      generalize hM : combE (ens X) (ens Y2) = M at *
      clear hM hA eA hb6
      obtain ⟨M1, M2⟩ := M
      have tM : (M2 == M2) = true := by simp
      have HL1 := Bx.mk (show M1.length < 20 from HL.out)
      clear HL
      go_wp2_with fail
      refine hr.mono ?_
      rintro e W7 ⟨bv, Bl, rfl, hB, eB, hb7⟩
      clear hr
      have hsm := rsameE_any W7 av bv A Bl (HA.out.below hb7) hB (by have h1 := congrArg List.length HEA.out; have h2 := HL1.out; simp only [ens, List.length_map] at h1 h2; omega) (by have h1 := congrArg List.length eB; have h2 := HL1.out; simp only [ens, List.length_map] at h1 h2; omega)
      rw [HEA.out, eB, sameB_refl] at hsm
      have HB7 := Bx.mk (HB6.out.trans (hb7.mono HB6.out.size))
      clear hB eB hb7
      go_wp2_with fail
      refine hsm.mono ?_
      rintro e W8 ⟨rfl, hb8⟩
      clear hsm
      have HB8 := Bx.mk (HB7.out.trans (hb8.mono HB7.out.size))
      clear hb8
      go_wp2_with (go_at_call 18; refine (haw _).mono ?_; rintro e w8 ⟨rfl, hb8⟩)
      have HB9 := Bx.mk (HB8.out.trans (hb8.mono HB8.out.size))
      clear hb8
      go_wp2
      go_ret
      exact ⟨rfl, HB9.out⟩
end Go.Proofs.Ytpagoinnkknkfaa.Pb
