/-
  TreeAnything, walked. (Written by wip/gen/gen_trany.py.)
-/
import Derived.Test.YtmagjdocondmhaaTrBad
import Derived.Test.YtmagjdocondmhaaLawMapsWalk
import Derived.Test.YtmagjdocondmhaaLawRestrictsWalk
namespace Go.Proofs.Ytmagjdocondmhaa.Tr
open Go Go.RowKit Go.Proofs.Ytmagjdocondmhaa.Slc Go.Proofs.Ytmagjdocondmhaa.St Go.Proofs.Ytmagjdocondmhaa.Mp
set_option linter.unusedVariables false
set_option linter.unusedSimpArgs false
attribute [local go_sem] Oper.semAt_some

theorem tq_len {t : List Nt} (h : t.length ≤ 40) : (nds t).length ≤ 2048 := by rw [nds_len]; omega
theorem map_cells {w : World} {ad : Option Addr} {n c : Nat} {l : List (B × B)} (h : Rd w encP (.slice ad n c) l) : n = l.length ∧ ∀ (W : World), Below w.heap.size w W → ∀ k (hk : k < l.length), ∃ b o, ad = some ⟨b, o, none⟩ ∧ b < w.heap.size ∧ W.cell? ⟨b, o + k * 2, none⟩ = some (.string (bstr l[k].1)) ∧ W.cell? ⟨b, o + k * 2 + 1, none⟩ = some (.string (bstr l[k].2)) := by
  obtain ⟨ad', c', hv, -⟩ := h.form
  simp only [Value.slice.injEq] at hv
  refine ⟨hv.2.1, fun W hW k hk => ?_⟩
  obtain ⟨b, o, c, hv', _, hlt, hc⟩ := h.cells encP_ok (by omega)
  simp only [Value.slice.injEq] at hv'
  have q := hc W (fun k' hk' => hW.block k' (h.lt k' hk')) k hk
  exact ⟨b, o, hv'.1, hlt, q 0 _ (by omega) rfl, q 1 _ (by omega) rfl⟩
set_option maxRecDepth 100000 in
set_option maxHeartbeats 16000000 in
theorem law_any (v : Value) (l : List Nt) (D : Int) (pv : Value) (ps : List B) (mv : Value) (ms : List (B × B)) (fl : Bool) (w : World) (hT : TR w v l) (hl : l.length ≤ 9223372036854775807) (hD : I64 D)
    (hp : Rd w encS pv ps) (hpl : ps.length ≤ 9223372036854775807) (hpx : ∀ b ∈ ps, b.length ≤ 9223372036854775807) (hm : Rd w encP mv ms) (hmx : ∀ m ∈ ms, m.1.length ≤ 9223372036854775807 ∧ m.2.length ≤ 9223372036854775807) (hml : ms.length ≤ 9223372036854775807) :
    Calls Try.prog 7 #[v, .int .i64 D, pv, mv, .bool fl] w fun e w' => e = .returned (.bool true) ∧ Below w.heap.size w w' := by
  have haw := awake_any
  obtain ⟨ad, c, rfl, -⟩ := hT.rd.form
  obtain ⟨pa, pc, rfl, -⟩ := hp.form
  obtain ⟨ma, mc, rfl, -⟩ := hm.form
  have hsm := small_any w _ l hT hl
  have hfw := few_any w _ ps 10 100 hp hpl hpx (by omega) (by omega)
  have HS := Bx.mk (small_tq hT)
  have HP := Bx.mk hp
  have HM := Bx.mk hm
  have HMX := Bx.mk hmx
  have HMC := Bx.mk ((map_cells hm).2 w (Below.refl _ _))
  obtain ⟨N, hN⟩ : ∃ N, N = l.length := ⟨_, rfl⟩
  have HN := Bx.mk hN
  obtain ⟨M, hM⟩ : ∃ M, M = ms.length := ⟨_, rfl⟩
  have HMM := Bx.mk hM
  obtain ⟨PN, hPN⟩ : ∃ PN, PN = ps.length := ⟨_, rfl⟩
  have HPN := Bx.mk hPN
  rw [← hN] at hsm ⊢
  rw [← hM] at hml ⊢
  rw [← hPN] at hfw ⊢
  have HID := Bx.mk hD
  obtain ⟨SB, hSB⟩ : ∃ SB, SB = smallB l := ⟨_, rfl⟩
  obtain ⟨FB, hFB⟩ : ∃ FB, FB = fewB ps 10 100 := ⟨_, rfl⟩
  rw [← hSB] at hsm HS
  rw [← hFB] at hfw
  have HFB := Bx.mk hFB
  clear hT hl hp hpl hpx hm hmx hN hM hPN hD hSB hFB
  cases SB with
  | false =>
    go_enter Try.func7, Try.ntmps7
    go_wp2_with fail
    go_at_call 10
    refine hsm.mono ?_
    rintro e w1 ⟨rfl, rfl⟩
    clear hsm
    go_wp2_with fail
    go_at_call 11
    refine (haw _).mono ?_
    rintro e w2 ⟨rfl, hb2⟩
    have HB2 := Bx.mk hb2
    clear haw hb2
    go_wp2_with fail
    go_ret
    exact ⟨rfl, HB2.out⟩
  | true =>
  cases FB with
  | false =>
    go_enter Try.func7, Try.ntmps7
    go_wp2_with fail
    go_at_call 10
    refine hsm.mono ?_
    rintro e w1 ⟨rfl, rfl⟩
    clear hsm
    go_wp2_with fail
    go_at_call 31
    refine hfw.mono ?_
    rintro e w1 ⟨rfl, rfl⟩
    clear hfw
    go_wp2_with fail
    go_at_call 11
    refine (haw _).mono ?_
    rintro e w2 ⟨rfl, hb2⟩
    have HB2 := Bx.mk hb2
    clear haw hb2
    go_wp2_with fail
    go_ret
    exact ⟨rfl, HB2.out⟩
  | true =>
  rcases Nat.lt_or_ge 10 M with hq | hq

  · have t1 : decide ((M : Int) > 10) = true := by rw [decide_eq_true_eq]; omega
    go_enter Try.func7, Try.ntmps7
    go_wp2_with fail
    go_at_call 10
    refine hsm.mono ?_
    rintro e w1 ⟨rfl, rfl⟩
    clear hsm
    go_wp2_with fail
    go_at_call 31
    refine hfw.mono ?_
    rintro e w1 ⟨rfl, rfl⟩
    clear hfw
    go_wp2_with fail
    go_at_call 11
    refine (haw _).mono ?_
    rintro e w2 ⟨rfl, hb2⟩
    have HB2 := Bx.mk hb2
    clear haw hb2
    go_wp2_with fail
    go_ret
    exact ⟨rfl, HB2.out⟩
  have t1 : decide ((M : Int) > 10) = false := by rw [decide_eq_false_iff_not]; omega
  have HPS := Bx.mk (show PN ≤ 10 ∧ ∀ p ∈ ps, p.length ≤ 1000000 by
    have := HFB.out
    unfold fewB at this
    have := this.symm
    simp only [Bool.and_eq_true, List.all_eq_true, decide_eq_true_eq] at this
    rw [HPN.out]
    exact ⟨this.1, fun p hp => by have := this.2 p hp; omega⟩)
  obtain ⟨HTQ, HL40, HEX⟩ := HS.out rfl
  have HTQ := Bx.mk HTQ
  have HL40 := Bx.mk HL40
  have HEX := Bx.mk HEX
  clear HS HFB
  go_enter Try.func7, Try.ntmps7
  go_wp2_with fail
  go_at_call 10
  refine hsm.mono ?_
  rintro e w1 ⟨rfl, rfl⟩
  clear hsm
  go_wp2_with fail
  go_at_call 31
  refine hfw.mono ?_
  rintro e w1 ⟨rfl, rfl⟩
  clear hfw
  go_wp2_with fail
  clear t1
  go_loop [11] (fun i => ∃ k : Nat, k ≤ M ∧ i = .int .i64 (k : Int) ∧ Bx (∀ m ∈ ms.take k, m.1.length ≤ 1000000 ∧ m.2.length ≤ 1000000)) (fun i => M - (intOf i).toNat)
  case atStart => exact ⟨0, Nat.zero_le _, rfl, ⟨fun m hm => by simp at hm⟩⟩
  case round =>
    obtain ⟨k, hk, rfl, hok⟩ := hrel
    by_cases hlt : k < M
    · have hkl : k < ms.length := by rw [← HMM.out]; exact hlt
      obtain ⟨b, o, rfl, hbl, c0, c1⟩ := HMC.out k hkl
      have hx := HMX.out _ (List.getElem_mem hkl)
      have HTK := Bx.mk (List.take_succ_eq_append_getElem hkl)
      obtain ⟨x, hxx⟩ : ∃ x, x = ms[k] := ⟨_, rfl⟩
      rw [← hxx] at c0 c1 hx HTK
      have hys : (bstr x.1).size = x.1.length := bstr_size _
      have hzs : (bstr x.2).size = x.2.length := bstr_size _
      have hyl := hx.1
      have hzl := hx.2
      obtain ⟨Y, hY⟩ : ∃ Y, Y = x.1.length := ⟨_, rfl⟩
      obtain ⟨Z, hZ⟩ : ∃ Z, Z = x.2.length := ⟨_, rfl⟩
      have HNX := Bx.mk (show Y ≤ 100 → Z ≤ 100 → ∀ m ∈ ms.take (k + 1), m.1.length ≤ 1000000 ∧ m.2.length ≤ 1000000 from fun h1 h2 m hm => by
        rw [HTK.out, List.mem_append, List.mem_singleton] at hm
        rcases hm with hm | rfl
        · exact hok.out m hm
        · omega)
      rw [← hY] at hys hyl
      rw [← hZ] at hzs hzl
      generalize bstr x.1 = YS at *
      generalize bstr x.2 = ZS at *
      clear hx hxx hY hZ hkl hbl
      by_cases h1 : Y ≤ 100
      · have t1 : decide ((Y : Int) > 100) = false := by rw [decide_eq_false_iff_not]; omega
        by_cases h2 : Z ≤ 100
        · have t2 : decide ((Z : Int) > 100) = false := by rw [decide_eq_false_iff_not]; omega
          have HN2 := Bx.mk (HNX.out h1 h2)
          clear HNX h1 h2
          go_wp2_with fail
          go_round
          case rel => exact ⟨k + 1, by omega, by go_num, HN2⟩
          case measure => simp [intOf]; omega
        · have t2 : decide ((Z : Int) > 100) = true := by rw [decide_eq_true_eq]; omega
          clear HNX h1 h2
          go_wp2_with fail
          go_at_call 11
          refine (haw _).mono ?_
          rintro e w2 ⟨rfl, hb2⟩
          have HB2 := Bx.mk hb2
          clear haw hb2
          go_wp2_with fail
          go_ret
          exact ⟨rfl, HB2.out⟩
      · have t1 : decide ((Y : Int) > 100) = true := by rw [decide_eq_true_eq]; omega
        clear HNX h1
        go_wp2_with fail
        go_at_call 11
        refine (haw _).mono ?_
        rintro e w2 ⟨rfl, hb2⟩
        have HB2 := Bx.mk hb2
        clear haw hb2
        go_wp2_with fail
        go_ret
        exact ⟨rfl, HB2.out⟩
    · obtain rfl : k = M := by omega
      have HMS := Bx.mk (show ∀ m ∈ ms, m.1.length ≤ 1000000 ∧ m.2.length ≤ 1000000 by have := hok.out; rw [HMM.out, List.take_length] at this; exact this)
      have hMB := hq
      have hPB := HPS.out.1
      have hNB : N ≤ 40 := by rw [HN.out]; exact HL40.out
      clear hok hlt hk HMX HMC
      have hent := enter_q w (.slice ad l.length c) l HTQ.out HL40.out HEX.out D HID.out (.slice pa ps.length pc) ps HP.out (by have := HPN.out; omega) HPS.out.2 fl
      rw [← HN.out, ← HPN.out] at hent
      go_wp2_with fail
      go_at_call 21
      refine hent.mono ?_
      rintro e w1 ⟨v1, l1, rfl, ho1, hn1, hb1⟩
      have HB1 := Bx.mk hb1
      have HO1 := Bx.mk ho1.tl
      have HE1 := Bx.mk hn1
      obtain ⟨a1, c1, hv1, -⟩ := ho1.own.rd.form
      subst hv1
      clear hent ho1 hn1 hb1
      have hent := renter_q w1 (.slice ad l.length c) l (HTQ.out.below HB1.out) HL40.out HEX.out D HID.out (.slice pa ps.length pc) ps (HP.out.below HB1.out) (by have := HPN.out; omega) HPS.out.2 fl
      rw [enter_eq] at hent
      rw [← HN.out, ← HPN.out] at hent
      go_wp2_with fail
      go_at_call 22
      refine hent.mono ?_
      rintro e w2 ⟨v2, l2, rfl, ho2, hn2, hb2⟩
      have HB2 := Bx.mk hb2
      have HO2 := Bx.mk ho2.tl
      have HE2 := Bx.mk hn2
      obtain ⟨a2, c2, hv2, -⟩ := ho2.own.rd.form
      subst hv2
      clear hent ho2 hn2 hb2
      have hent := pmap_q w2 (.slice ad l.length c) l (HTQ.out.below (HB1.out.trans (HB2.out.mono HB1.out.size))) HL40.out HEX.out D HID.out (.slice ma ms.length mc) ms (HM.out.below (HB1.out.trans (HB2.out.mono HB1.out.size))) (by have := HMM.out; omega) HMS.out fl
      rw [← HN.out, ← HMM.out] at hent
      go_wp2_with fail
      go_at_call 24
      refine hent.mono ?_
      rintro e w3 ⟨v3, l3, rfl, ho3, hn3, hb3⟩
      have HB3 := Bx.mk hb3
      have HO3 := Bx.mk ho3.tl
      have HE3 := Bx.mk hn3
      obtain ⟨a3, c3, hv3, -⟩ := ho3.own.rd.form
      subst hv3
      clear hent ho3 hn3 hb3
      have hent := rmap_q w3 (.slice ad l.length c) l (HTQ.out.below (HB1.out.trans ((HB2.out.trans (HB3.out.mono HB2.out.size)).mono HB1.out.size))) HL40.out HEX.out D HID.out (.slice ma ms.length mc) ms (HM.out.below (HB1.out.trans ((HB2.out.trans (HB3.out.mono HB2.out.size)).mono HB1.out.size))) (by have := HMM.out; omega) HMS.out fl
      rw [map_eq] at hent
      rw [← HN.out, ← HMM.out] at hent
      go_wp2_with fail
      go_at_call 25
      refine hent.mono ?_
      rintro e w4 ⟨v4, l4, rfl, ho4, hn4, hb4⟩
      have HB4 := Bx.mk hb4
      have HO4 := Bx.mk ho4.tl
      have HE4 := Bx.mk hn4
      obtain ⟨a4, c4, hv4, -⟩ := ho4.own.rd.form
      subst hv4
      clear hent ho4 hn4 hb4
      have hent := restr_q w4 (.slice ad l.length c) l (HTQ.out.below (HB1.out.trans ((HB2.out.trans ((HB3.out.trans (HB4.out.mono HB3.out.size)).mono HB2.out.size)).mono HB1.out.size))) HL40.out HEX.out D HID.out (.slice pa ps.length pc) ps (HP.out.below (HB1.out.trans ((HB2.out.trans ((HB3.out.trans (HB4.out.mono HB3.out.size)).mono HB2.out.size)).mono HB1.out.size))) (by have := HPN.out; omega) HPS.out.2
      rw [← HN.out, ← HPN.out] at hent
      go_wp2_with fail
      go_at_call 26
      refine hent.mono ?_
      rintro e w5 ⟨v5, l5, rfl, ho5, hn5, hb5⟩
      have HB5 := Bx.mk hb5
      have HO5 := Bx.mk ho5.tl
      have HE5 := Bx.mk hn5
      obtain ⟨a5, c5, hv5, -⟩ := ho5.own.rd.form
      subst hv5
      clear hent ho5 hn5 hb5
      have hent := rrestr_q w5 (.slice ad l.length c) l (HTQ.out.below (HB1.out.trans ((HB2.out.trans ((HB3.out.trans ((HB4.out.trans (HB5.out.mono HB4.out.size)).mono HB3.out.size)).mono HB2.out.size)).mono HB1.out.size))) HL40.out HEX.out D HID.out (.slice pa ps.length pc) ps (HP.out.below (HB1.out.trans ((HB2.out.trans ((HB3.out.trans ((HB4.out.trans (HB5.out.mono HB4.out.size)).mono HB3.out.size)).mono HB2.out.size)).mono HB1.out.size))) (by have := HPN.out; omega) HPS.out.2
      rw [res_eq] at hent
      rw [← HN.out, ← HPN.out] at hent
      go_wp2_with fail
      go_at_call 27
      refine hent.mono ?_
      rintro e w6 ⟨v6, l6, rfl, ho6, hn6, hb6⟩
      have HB6 := Bx.mk hb6
      have HO6 := Bx.mk ho6.tl
      have HE6 := Bx.mk hn6
      obtain ⟨a6, c6, hv6, -⟩ := ho6.own.rd.form
      subst hv6
      clear hent ho6 hn6 hb6
      have hent := proot_any w6
      go_wp2_with fail
      go_at_call 18
      refine hent.mono ?_
      rintro e w7 ⟨v7, l7, rfl, ho7, hn7, hb7⟩
      have HB7 := Bx.mk hb7
      have HO7 := Bx.mk ho7.tl
      have HE7 := Bx.mk (show nds l7 = rootT from hn7)
      have HL7 := Bx.mk (show l7.length = 1 by have := congrArg List.length hn7; rw [nds_len] at this; exact this)
      obtain ⟨a7, c7, hv7, -⟩ := ho7.own.rd.form
      subst hv7
      clear hent ho7 hn7 hb7
      have hent := enter_any w7 _ _ l7 ps HO7.out (HP.out.below (HB1.out.trans ((HB2.out.trans ((HB3.out.trans ((HB4.out.trans ((HB5.out.trans ((HB6.out.trans (HB7.out.mono HB6.out.size)).mono HB5.out.size)).mono HB4.out.size)).mono HB3.out.size)).mono HB2.out.size)).mono HB1.out.size))) (by have := HL7.out; omega) (by have := HPN.out; omega) HPS.out.2 1 (by unfold I64; omega) fl
      rw [HE7.out, ← HPN.out] at hent
      go_wp2_with fail
      go_at_call 21
      refine hent.mono ?_
      rintro e w8 ⟨v8, l8, rfl, ho8, hn8, hb8⟩
      have HB8 := Bx.mk hb8
      have HO8 := Bx.mk ho8.tl
      have HE8 := Bx.mk hn8
      obtain ⟨a8, c8, hv8, -⟩ := ho8.own.rd.form
      subst hv8
      clear hent ho8 hn8 hb8
      have hent := rroot_any w8
      go_wp2_with fail
      go_at_call 19
      refine hent.mono ?_
      rintro e w9 ⟨v9, l9, rfl, ho9, hn9, hb9⟩
      have HB9 := Bx.mk hb9
      have HO9 := Bx.mk ho9.tl
      have HE9 := Bx.mk (show nds l9 = rootT from hn9)
      have HL9 := Bx.mk (show l9.length = 1 by have := congrArg List.length hn9; rw [nds_len] at this; exact this)
      obtain ⟨a9, c9, hv9, -⟩ := ho9.own.rd.form
      subst hv9
      clear hent ho9 hn9 hb9
      have hent := renter_any w9 _ _ l9 ps HO9.out (HP.out.below (HB1.out.trans ((HB2.out.trans ((HB3.out.trans ((HB4.out.trans ((HB5.out.trans ((HB6.out.trans ((HB7.out.trans ((HB8.out.trans (HB9.out.mono HB8.out.size)).mono HB7.out.size)).mono HB6.out.size)).mono HB5.out.size)).mono HB4.out.size)).mono HB3.out.size)).mono HB2.out.size)).mono HB1.out.size))) 100 (fun n hn => by rw [HE9.out] at hn; unfold rootT at hn; rw [List.mem_singleton] at hn; subst hn; show 1 ≤ 100; omega) (by have := HL9.out; have := HPN.out; rw [HL9.out]; omega) (by have := HPN.out; omega) HPS.out.2 1 (by unfold I64; omega) fl
      rw [enter_eq] at hent
      rw [HE9.out, ← HPN.out] at hent
      go_wp2_with fail
      go_at_call 22
      refine hent.mono ?_
      rintro e w10 ⟨v10, l10, rfl, ho10, hn10, hb10⟩
      have HB10 := Bx.mk hb10
      have HO10 := Bx.mk ho10.tl
      have HE10 := Bx.mk hn10
      obtain ⟨a10, c10, hv10, -⟩ := ho10.own.rd.form
      subst hv10
      clear hent ho10 hn10 hb10
      obtain ⟨q1, hq1⟩ : ∃ q, q = (enterP (nds l) D ps fl).2 := ⟨_, rfl⟩
      obtain ⟨q2, hq2⟩ : ∃ q, q = (mapP (nds l) D ms fl).2 := ⟨_, rfl⟩
      obtain ⟨q3, hq3⟩ : ∃ q, q = (resP (nds l) D ps).2 := ⟨_, rfl⟩
      obtain ⟨q4, hq4⟩ : ∃ q, q = (enterP rootT 1 ps fl).2 := ⟨_, rfl⟩
      rw [← hq1, ← hq2, ← hq3, ← hq4]
      have tq1 : (q1 == q1) = true := by simp
      have tq2 : (q2 == q2) = true := by simp
      have tq3 : (q3 == q3) = true := by simp
      have tq4 : (q4 == q4) = true := by simp
      clear hq1 hq2 hq3 hq4
      have hsa := samet_any w10 (.slice a1 l1.length c1) (.slice a2 l2.length c2) l1 l2 (HO1.out.below (HB2.out.trans ((HB3.out.trans ((HB4.out.trans ((HB5.out.trans ((HB6.out.trans ((HB7.out.trans ((HB8.out.trans ((HB9.out.trans (HB10.out.mono HB9.out.size)).mono HB8.out.size)).mono HB7.out.size)).mono HB6.out.size)).mono HB5.out.size)).mono HB4.out.size)).mono HB3.out.size)).mono HB2.out.size))) (HO2.out.below (HB3.out.trans ((HB4.out.trans ((HB5.out.trans ((HB6.out.trans ((HB7.out.trans ((HB8.out.trans ((HB9.out.trans (HB10.out.mono HB9.out.size)).mono HB8.out.size)).mono HB7.out.size)).mono HB6.out.size)).mono HB5.out.size)).mono HB4.out.size)).mono HB3.out.size))) (by rw [HE1.out, HE2.out]) (by have := enterP_len (nds l) D ps fl; rw [← HE1.out, nds_len] at this; omega)
      go_wp2_with fail
      go_at_call 17
      refine hsa.mono ?_
      rintro e w11 ⟨rfl, hb11⟩
      have HB11 := Bx.mk hb11
      clear hsa hb11
      have hsa := samet_any w11 (.slice a3 l3.length c3) (.slice a4 l4.length c4) l3 l4 (HO3.out.below (HB4.out.trans ((HB5.out.trans ((HB6.out.trans ((HB7.out.trans ((HB8.out.trans ((HB9.out.trans ((HB10.out.trans (HB11.out.mono HB10.out.size)).mono HB9.out.size)).mono HB8.out.size)).mono HB7.out.size)).mono HB6.out.size)).mono HB5.out.size)).mono HB4.out.size))) (HO4.out.below (HB5.out.trans ((HB6.out.trans ((HB7.out.trans ((HB8.out.trans ((HB9.out.trans ((HB10.out.trans (HB11.out.mono HB10.out.size)).mono HB9.out.size)).mono HB8.out.size)).mono HB7.out.size)).mono HB6.out.size)).mono HB5.out.size))) (by rw [HE3.out, HE4.out]) (by have := mapP_len (nds l) D ms fl (tq_len HL40.out); rw [← HE3.out, nds_len] at this; omega)
      go_wp2_with fail
      go_at_call 17
      refine hsa.mono ?_
      rintro e w12 ⟨rfl, hb12⟩
      have HB12 := Bx.mk hb12
      clear hsa hb12
      have hsa := samet_any w12 (.slice a5 l5.length c5) (.slice a6 l6.length c6) l5 l6 (HO5.out.below (HB6.out.trans ((HB7.out.trans ((HB8.out.trans ((HB9.out.trans ((HB10.out.trans ((HB11.out.trans (HB12.out.mono HB11.out.size)).mono HB10.out.size)).mono HB9.out.size)).mono HB8.out.size)).mono HB7.out.size)).mono HB6.out.size))) (HO6.out.below (HB7.out.trans ((HB8.out.trans ((HB9.out.trans ((HB10.out.trans ((HB11.out.trans (HB12.out.mono HB11.out.size)).mono HB10.out.size)).mono HB9.out.size)).mono HB8.out.size)).mono HB7.out.size))) (by rw [HE5.out, HE6.out]) (by have := resP_len (nds l) D ps (tq_len HL40.out); rw [← HE5.out, nds_len] at this; omega)
      go_wp2_with fail
      go_at_call 17
      refine hsa.mono ?_
      rintro e w13 ⟨rfl, hb13⟩
      have HB13 := Bx.mk hb13
      clear hsa hb13
      have hsa := samet_any w13 (.slice a8 l8.length c8) (.slice a10 l10.length c10) l8 l10 (HO8.out.below (HB9.out.trans ((HB10.out.trans ((HB11.out.trans ((HB12.out.trans (HB13.out.mono HB12.out.size)).mono HB11.out.size)).mono HB10.out.size)).mono HB9.out.size))) (HO10.out.below (HB11.out.trans ((HB12.out.trans (HB13.out.mono HB12.out.size)).mono HB11.out.size))) (by rw [HE8.out, HE10.out]) (by have := enterP_len rootT 1 ps fl; rw [← HE8.out, nds_len] at this; omega)
      go_wp2_with fail
      go_at_call 17
      refine hsa.mono ?_
      rintro e w14 ⟨rfl, hb14⟩
      have HB14 := Bx.mk hb14
      clear hsa hb14
      have hp1 := ppol_q w14 (.slice ad l.length c) l (HTQ.out.below (HB1.out.trans ((HB2.out.trans ((HB3.out.trans ((HB4.out.trans ((HB5.out.trans ((HB6.out.trans ((HB7.out.trans ((HB8.out.trans ((HB9.out.trans ((HB10.out.trans ((HB11.out.trans ((HB12.out.trans ((HB13.out.trans (HB14.out.mono HB13.out.size)).mono HB12.out.size)).mono HB11.out.size)).mono HB10.out.size)).mono HB9.out.size)).mono HB8.out.size)).mono HB7.out.size)).mono HB6.out.size)).mono HB5.out.size)).mono HB4.out.size)).mono HB3.out.size)).mono HB2.out.size)).mono HB1.out.size))) HL40.out D
      rw [← HN.out] at hp1
      go_wp2_with fail
      go_at_call 29
      refine hp1.mono ?_
      rintro e w15 ⟨u15, rfl, ho15, hb15⟩
      have HB15 := Bx.mk hb15
      have HO15 := Bx.mk ho15.rd
      obtain ⟨a15, c15, hv15, -⟩ := ho15.rd.form
      subst hv15
      clear hp1 ho15 hb15
      have hp1 := rpol_q w15 (.slice ad l.length c) l (HTQ.out.below (HB1.out.trans ((HB2.out.trans ((HB3.out.trans ((HB4.out.trans ((HB5.out.trans ((HB6.out.trans ((HB7.out.trans ((HB8.out.trans ((HB9.out.trans ((HB10.out.trans ((HB11.out.trans ((HB12.out.trans ((HB13.out.trans ((HB14.out.trans (HB15.out.mono HB14.out.size)).mono HB13.out.size)).mono HB12.out.size)).mono HB11.out.size)).mono HB10.out.size)).mono HB9.out.size)).mono HB8.out.size)).mono HB7.out.size)).mono HB6.out.size)).mono HB5.out.size)).mono HB4.out.size)).mono HB3.out.size)).mono HB2.out.size)).mono HB1.out.size))) HL40.out D
      rw [← HN.out, pol_eq] at hp1
      go_wp2_with fail
      go_at_call 30
      refine hp1.mono ?_
      rintro e w16 ⟨u16, rfl, ho16, hb16⟩
      have HB16 := Bx.mk hb16
      have HO16 := Bx.mk ho16.rd
      obtain ⟨a16, c16, hv16, -⟩ := ho16.rd.form
      subst hv16
      clear hp1 ho16 hb16
      have hsa := rsame_any w16 _ _ _ _ (HO15.out.below HB16.out) HO16.out (by
        unfold polP
        split
        · exact Nat.zero_le _
        · have h1 := setB_length (polK (nds l) D (nds l).length)
          have h2 := polK_len (nds l) D (nds l).length
          have h3 := HL40.out
          rw [nds_len] at h1 h2 ⊢
          omega)
      rw [decide_eq_true rfl] at hsa
      go_wp2_with fail
      go_at_call 28
      refine hsa.mono ?_
      rintro e w17 ⟨rfl, hb17⟩
      have HB17 := Bx.mk hb17
      clear hsa hb17
      go_wp2_with fail
      go_at_call 11
      refine (haw _).mono ?_
      rintro e w18 ⟨rfl, hb18⟩
      have HB18 := Bx.mk hb18
      clear haw hb18
      go_wp2_with fail
      go_ret
      exact ⟨rfl, (HB1.out.trans ((HB2.out.trans ((HB3.out.trans ((HB4.out.trans ((HB5.out.trans ((HB6.out.trans ((HB7.out.trans ((HB8.out.trans ((HB9.out.trans ((HB10.out.trans ((HB11.out.trans ((HB12.out.trans ((HB13.out.trans ((HB14.out.trans ((HB15.out.trans ((HB16.out.trans ((HB17.out.trans (HB18.out.mono HB17.out.size)).mono HB16.out.size)).mono HB15.out.size)).mono HB14.out.size)).mono HB13.out.size)).mono HB12.out.size)).mono HB11.out.size)).mono HB10.out.size)).mono HB9.out.size)).mono HB8.out.size)).mono HB7.out.size)).mono HB6.out.size)).mono HB5.out.size)).mono HB4.out.size)).mono HB3.out.size)).mono HB2.out.size)).mono HB1.out.size))⟩
end Go.Proofs.Ytmagjdocondmhaa.Tr
