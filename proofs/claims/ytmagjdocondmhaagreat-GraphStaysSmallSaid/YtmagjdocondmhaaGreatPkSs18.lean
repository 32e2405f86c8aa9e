/-
pgraph.prune, walked.
-/
import Derived.Test.YtmagjdocondmhaaGreatPkSs09
import Derived.Test.YtmagjdocondmhaaGreatPkSs10
import Derived.Test.YtmagjdocondmhaaGreatPkSs17
namespace Go.Proofs.YtmagjdocondmhaaGreat.Tr.Gr
open Go Go.RowKit Go.Proofs.YtmagjdocondmhaaGreat.Slc Go.Proofs.YtmagjdocondmhaaGreat.St Go.Proofs.YtmagjdocondmhaaGreat.Mp Go.Proofs.YtmagjdocondmhaaGreat.Tr Go.Proofs.YtmagjdocondmhaaGreat.Rg
set_option linter.unusedVariables false
set_option linter.unusedSimpArgs false
attribute [local go_sem] Oper.semAt_some

/-- what prune has left -/
def PrP (w : World) (B : Nat) (v : Value) (g : List Lv) (e : Ending) (w' : World) : Prop :=
  ∃ v' g', e = .returned v' ∧ GO w' B v' g' ∧ gxs g' = pruneG (gxs g) ∧ Fr (GB v g) w w' ∧ ∀ k, GB v' g' k → GB v g k ∨ w.heap.size ≤ k
theorem marksA_at (l : List Vx) (j : Nat) (hj : j < l.length) : (marksA l)[j]! = decide (0 < (l[j]!).par.length) := by
  unfold marksA
  rw [getElem!_pos _ j (by simpa using hj), getElem!_pos l j hj]; simp
theorem marksA_len (l : List Vx) : (marksA l).length = l.length := by simp [marksA]
theorem gs_len {g g2 : List Lv} {n : Nat} (h : gxs g2 = fwdG (gxs g) n) : g2.length = g.length := by
  have := congrArg List.length h
  rw [gxs_len, fwdG_len, gxs_len] at this; exact this
theorem gs_len' {g : List (List Vx)} {g2 : List Lv} {n : Nat} (h : gxs g2 = bwdG g n) : g2.length = g.length := by
  have := congrArg List.length h
  rw [gxs_len, bwdG_len] at this; exact this
theorem pg_len {g : List Lv} (h : PG (gxs g)) : ∀ L ∈ g, L.vs.length ≤ 100000 := fun L hL => by
  have := h.len (vxs L.vs) (List.mem_map.2 ⟨L, hL, rfl⟩)
  simpa [vxs] using this
theorem pg_par {g : List Lv} (h : PG (gxs g)) {k : Nat} (h1 : k + 1 < g.length) : ∀ x ∈ (g[k + 1]).vs, ∀ p ∈ x.n.par, 0 ≤ p ∧ p < (((g[k]'(by omega)).vs.length : Nat) : Int) := fun x hx p hp => by
  have := h.par k (by rw [gxs_len]; exact h1) x.n (by rw [gxs_at' g (k + 1) h1]; exact List.mem_map.2 ⟨x, hx, rfl⟩) p hp
  rw [gxs_at' g k (by omega)] at this
  simpa [vxs] using this
theorem mb_in {w : World} {S : Nat → Prop} {b n : Nat} {m : List Bool} (h : MB w b m) (hn : n = m.length) (hS : S b) : RdIn w S encM (.slice (some ⟨b, 0, none⟩) n n) m := by
  subst hn
  exact ⟨h.rd (Nat.le_refl _), fun k hk => by simp only [Value.ownBlock, Option.some.injEq] at hk; subst hk; exact hS⟩
def mkB (n : Nat) (f : Nat → Bool) : List Bool := (List.range n).map f
theorem mkB_len (n : Nat) (f : Nat → Bool) : (mkB n f).length = n := by simp [mkB]
theorem mkB_set {n p : Nat} {f f' : Nat → Bool} (hf : ∀ r, f' r = (decide (r = p) || f r)) : (mkB n f).set p true = mkB n f' := by
  apply List.ext_getElem
  · simp [mkB]
  · intro j h1 h2
    rw [List.getElem_set]
    simp only [mkB, List.getElem_map, List.getElem_range]
    rw [hf]
    by_cases e : p = j
    · subst e; rw [if_pos rfl]; simp
    · rw [if_neg e, decide_eq_false (fun q => e q.symm), Bool.false_or]
theorem mkB_cong {n : Nat} {f f' : Nat → Bool} (hf : ∀ r, f' r = f r) : mkB n f' = mkB n f := by unfold mkB; exact List.map_congr_left fun r _ => hf r
def fI (bl : List Vx) (i : Nat) (r : Nat) : Bool := (bl.take i).any fun v => decide ((r : Int) ∈ v.par)
def fN (bl : List Vx) (i : Nat) (ps : List Int) (n : Nat) (r : Nat) : Bool := fI bl i r || decide ((r : Int) ∈ ps.take n)
theorem fI_zero (bl : List Vx) (r : Nat) : fI bl 0 r = false := by simp [fI]
theorem fN_zero (bl : List Vx) (i : Nat) (ps : List Int) (r : Nat) : fN bl i ps 0 r = fI bl i r := by simp [fN]
theorem fN_succ (bl : List Vx) (i : Nat) (ps : List Int) (n : Nat) (hn : n < ps.length) (p : Nat) (hp : ps[n] = (p : Int)) (r : Nat) : fN bl i ps (n + 1) r = (decide (r = p) || fN bl i ps n r) := by
  unfold fN
  rw [List.take_succ_eq_append_getElem hn, hp]
  by_cases e : r = p
  · subst e; simp
  · have e' : ¬ (r : Int) = (p : Int) := by omega
    rw [decide_eq_false e, Bool.false_or]
    congr 1
    simp [e']
theorem fN_all (bl : List Vx) (i : Nat) (hi : i < bl.length) (r : Nat) : fI bl (i + 1) r = fN bl i (bl[i]!).par (bl[i]!).par.length r := by
  unfold fN fI
  rw [List.take_succ_eq_append_getElem hi, List.any_append, List.take_length, getElem!_pos bl i hi]
  simp
theorem marksB_eq (n : Nat) (bl : List Vx) : marksB n bl = mkB n (fI bl bl.length) := by
  unfold marksB mkB fI
  rw [List.take_length]
set_option maxRecDepth 100000 in
set_option maxHeartbeats 16000000 in
theorem prune_any (w : World) (B : Nat) (v : Value) (g : List Lv) (h : GO w B v g) (hP : PG (gxs g)) (hn : g.length ≤ 100000) :
    Calls Tryz.prog 51 #[v] w fun e w' => PrP w B v g e w' := by
  obtain ⟨ib, hib, hib0, hib1, hib2⟩ := info_parts info_boo
  obtain ⟨ad, c, rfl, -⟩ := h.own.rd.form
  have HP := Bx.mk hP
  have HS0 := Bx.mk (GStep.refl h)
  obtain ⟨N, hN⟩ : ∃ N, N = g.length := ⟨_, rfl⟩
  have HN := Bx.mk hN
  obtain ⟨K, hK⟩ : ∃ K, K = N - 1 := ⟨_, rfl⟩
  have HKN := Bx.mk hK
  obtain ⟨v, hv⟩ : ∃ v, v = Value.slice ad g.length c := ⟨_, rfl⟩
  have HV := Bx.mk hv
  rw [← hv] at HS0 h ⊢
  have hvN : v = .slice ad N c := by rw [hv, hN]
  rw [← hN] at hn
  have HVN := Bx.mk hvN
  obtain ⟨Q, hQ⟩ : ∃ Q, Q = fun (e : Ending) (w' : World) => PrP w B v g e w' := ⟨_, rfl⟩
  have HQ := Bx.mk hQ
  rw [← hQ]
  have hg0 := h
  have HG0 := Bx.mk h
  rw [hvN]
  clear hP h hN hK hv hvN hQ hg0
  go_enter Tryz.func51, Tryz.ntmps51
  go_wp2_with fail
  go_loopw [3] (fun i wr => ∃ (n : Nat) (g2 : List Lv), 1 ≤ n ∧ n ≤ K + 1 ∧ i = .int .i64 (n : Nat) ∧ Bx (GStep w B v g wr g2) ∧ Bx (gxs g2 = fwdG (gxs g) (n - 1))) (fun i _ => N - (intOf i).toNat)
  case atStart => exact ⟨1, g, by omega, by omega, rfl, HS0, ⟨rfl⟩⟩
  case round =>
    clear HS0
    obtain ⟨n, g2, hn1, hnK, rfl, hS, hF⟩ := hrel
    obtain ⟨wo, rfl⟩ : ∃ wo : World, wo = wr := ⟨_, rfl⟩
    by_cases hlt : n < N
    · have HK2 := Bx.mk (show n < g2.length by rw [gs_len hF.out, ← HN.out]; exact hlt)
      have hpg2 : PG (gxs g2) := by rw [hF.out]; exact fwdG_pg HP.out (n - 1) (.inl (by rw [gxs_len, ← HN.out]; omega))
      have HPG2 := Bx.mk hpg2
      have hgo := hS.out.go
      rw [HVN.out] at hgo
      obtain ⟨gb, rfl, l0, -⟩ := hgo.cellL n HK2.out
      have hvl := hgo.gl.lv _ (List.getElem_mem HK2.out)
      have hll := pg_len hpg2 _ (List.getElem_mem HK2.out)
      obtain ⟨L, hL⟩ : ∃ L, L = g2[n]'HK2.out := ⟨_, rfl⟩
      rw [← hL] at l0 hvl hll
      have HL := Bx.mk hL
      obtain ⟨la, lc, hls, -⟩ := hvl.rd.form
      rw [hls] at l0 hvl
      obtain ⟨LN, hLN⟩ : ∃ LN, LN = L.vs.length := ⟨_, rfl⟩
      have HLN := Bx.mk hLN
      rw [← hLN] at l0 hll
      have HVL := Bx.mk hvl
      have hmk := run_makeSlice (P := Tryz.prog) wo 75 4 ib (.bool false) Tryz.underlying75 hib hib0 .i64 .i64 (LN : Nat) (LN : Nat) (by omega) (by omega) (by rw [Int.toNat_natCast, hib1]; omega) (by rw [hib2]; omega) (by omega)
      simp only [Int.toNat_natCast, hib1, made_marks] at hmk
      obtain ⟨qm, hqm⟩ : ∃ q, q = wo.heap.size := ⟨_, rfl⟩
      obtain ⟨W1, hW1⟩ : ∃ W1, W1 = wo.alloc (.cells (Array.replicate LN (Value.bool false)) 4) := ⟨_, rfl⟩
      have hb1 : Below wo.heap.size wo W1 := by rw [hW1]; exact (Below.refl _ _).alloc (Nat.le_refl _) _
      have HB1 := Bx.mk hb1
      have HM1 := Bx.mk (show MB W1 qm ((marksA (vxs L.vs)).take 0 ++ List.replicate (LN - 0) false) by
        rw [hW1]; unfold MB
        rw [List.take_zero, List.nil_append, Nat.sub_zero, List.map_replicate, List.toArray_replicate]
        exact alloc_at hqm)
      have HQM := Bx.mk hqm
      have HML := Bx.mk (show (marksA (vxs L.vs)).length = LN by rw [marksA_len, vxs_len, hLN])
      have l1 := (hb1.cell (p := ⟨gb, n, none⟩) (World.block_lt_of_cell? wo _ l0)).trans l0
      clear hgo hL hvl hls hLN hb1 hpg2
      go_upto_region 5 with fail
      rw [← hW1, ← hqm]
      clear hmk hW1 hqm l0
      go_wp2_with fail
      clear l1
      go_loopw [32] (fun i wz => ∃ j : Nat, j ≤ LN ∧ i = .int .i64 j ∧ Bx (MB wz qm ((marksA (vxs L.vs)).take j ++ List.replicate (LN - j) false)) ∧ Bx (Below wo.heap.size wo wz)) (fun i _ => LN - (intOf i).toNat)
      case atStart => exact ⟨0, by omega, rfl, HM1, HB1⟩
      case round =>
        clear HM1 HB1
        obtain ⟨j, hj, rfl, hM, hBw⟩ := hrel
        by_cases hlt2 : j < LN
        · have hjl : j < L.vs.length := by rw [← HLN.out]; exact hlt2
          obtain ⟨b2, o2, rfl, -, c0, c1, c2⟩ := HVL.out.at3 wr hBw.out j hjl
          have HXA := Bx.mk ((HVL.out.at_ _ (List.getElem_mem hjl)))
          have HXE := Bx.mk (vxs_at L.vs j hjl)
          obtain ⟨x, hx⟩ : ∃ x, x = L.vs[j] := ⟨_, rfl⟩
          rw [← hx] at c0 c1 c2 HXA HXE
          obtain ⟨pa, pc, hpq, -⟩ := RqIn.form HXA.out.2.1
          obtain ⟨ua, uc, hup, -⟩ := HXA.out.1.1.form
          obtain ⟨PN, hPN⟩ : ∃ PN, PN = x.n.par.length := ⟨_, rfl⟩
          have HPN := Bx.mk hPN
          have hPNb : PN ≤ 100000 := by rw [hPN]; exact HXA.out.2.2.2.2.1
          rw [hup] at c1
          rw [hpq, ← hPN] at c2
          obtain ⟨bq, hbq⟩ : ∃ b, b = decide (0 < PN) := ⟨_, rfl⟩
          have t1 : decide ((PN : Int) > 0) = bq := by rw [hbq, Bool.eq_iff_iff]; simp
          have t2 : decide (0 < PN) = bq := hbq.symm
          have hms := marks_step HML.out hlt2
          rw [← show bq = (marksA (vxs L.vs))[j]! by rw [marksA_at _ _ (by rw [vxs_len]; exact hjl), HXE.out, hbq, hPN]] at hms
          have HMS := Bx.mk hms
          obtain ⟨W2, hW2⟩ : ∃ W2, W2 = wr.alloc (.cells #[.string (bstr x.n.pol), .slice ua x.n.ex.length uc, .slice pa PN pc] 65) := ⟨_, rfl⟩
          have hb2 : Below wr.heap.size wr W2 := by rw [hW2]; exact (Below.refl _ _).alloc (Nat.le_refl _) _
          obtain ⟨q6, hq6⟩ : ∃ q, q = wr.heap.size := ⟨_, rfl⟩
          have hr6 : W2.heap[q6]? = some (.cells #[.string (bstr x.n.pol), .slice ua x.n.ex.length uc, .slice pa PN pc] 65 (0, 0)) := by rw [hW2, hq6]; exact heap_alloc_new _ _
          have hqlt := lt_of_some hM.out
          have hM2 : MB W2 qm _ := (hb2.block qm hqlt).trans hM.out
          have z1 := Go.Proofs.YtmagjdocondmhaaGreat.Rg.frozen_row (i := j) hM2
          have mc := hM2.cell j (by rw [List.length_append, List.length_take, List.length_replicate, HML.out]; omega)
          have m6 := cell_of_row _ _ 2 _ _ _ hr6
          simp only [List.getElem?_toArray, List.getElem?_cons_zero, List.getElem?_cons_succ] at m6
          obtain ⟨W3, hW3⟩ : ∃ W3, W3 = W2.setCell ⟨qm, j, none⟩ (.bool bq) := ⟨_, rfl⟩
          have HM3 := Bx.mk (show MB W3 qm ((marksA (vxs L.vs)).take (j + 1) ++ List.replicate (LN - (j + 1)) false) by
            have := hM2.set j bq
            rw [HMS.out] at this
            rw [hW3]; exact this)
          have HB3 := Bx.mk (show Below wo.heap.size wo W3 by
            rw [hW3]
            exact (hBw.out.trans (hb2.mono hBw.out.size)).setCell (by show wo.heap.size ≤ qm; have := HQM.out; omega) _)
          have HW3 := Bx.mk hW3
          clear hx hpq hup hPN hbq hr6 hM2 hb2 hms hqlt hjl hW3
          go_upto_region 8 with fail
          rw [← hW2, ← hq6]
          clear hW2 hq6 c0 c1 c2
          go_wp2_with fail
          rw [← HW3.out]
          go_roundw
          case rel => exact ⟨j + 1, by omega, by go_num, HM3, HB3⟩
          case measure => simp [intOf]; omega
        · obtain rfl : j = LN := by omega
          have hMf : MB wr qm (marksA (vxs L.vs)) := by
            have := hM.out
            rwa [Nat.sub_self, List.replicate_zero, List.append_nil, ← HML.out, List.take_length] at this
          have hSz := hS.out.below hBw.out
          have HSZ := Bx.mk hSz
          have hml : (marksA (vxs L.vs)).length = (g2[n]'HK2.out).vs.length := by rw [← HL.out, marksA_len, vxs_len]
          have hcall := filter_any wr B v g2 hSz.go (by rw [gs_len hF.out, ← HN.out]; exact hn) (pg_len HPG2.out) n HK2.out (.slice (some ⟨qm, 0, none⟩) j j) (marksA (vxs L.vs)) (mb_in hMf HML.out.symm fun hk => by
            have := (hS.out.go.lt hk).2
            have := HQM.out
            omega) hml (fun h1 x hx p hp => by
            rw [hml]
            exact pg_par HPG2.out h1 x hx p hp)
          rw [HVN.out] at hcall
          clear hMf hSz hml
          go_wp2_with fail
          go_at_call 96
          refine hcall.mono ?_
          rintro e w4 ⟨⟨u, rfl⟩, g3, hS3, hF3⟩
          have HS4 := Bx.mk (show GStep w B v g w4 g3 from HSZ.out.trans (by rw [HVN.out]; exact hS3))
          have HF4 := Bx.mk (show gxs g3 = fwdG (gxs g) (n + 1 - 1) by
            rw [hF3, hF.out]
            obtain ⟨n', rfl⟩ : ∃ n', n = n' + 1 := ⟨n - 1, by omega⟩
            rw [Nat.add_sub_cancel, Nat.add_sub_cancel, fwdG, show fwdG (gxs g) n' = gxs g2 from hF.out.symm, gxs_at' g2 (n' + 1) HK2.out, ← HL.out])
          clear hcall hS3 hF3
          go_wp2_with fail
          go_roundw
          case rel => exact ⟨n + 1, g3, by omega, by have := HKN.out; omega, by go_num, HS4, HF4⟩
          case measure => simp [intOf]; omega
    · have hnk : n - 1 = K := by have := HKN.out; omega
      obtain ⟨H, hH⟩ : ∃ H, H = fwdG (gxs g) K := ⟨_, rfl⟩
      have HH := Bx.mk hH
      have hlH : H.length = N := by rw [hH, fwdG_len, gxs_len, HN.out]
      have HHL := Bx.mk hlH
      have HPH := Bx.mk (show PG H by
        rw [hH]
        refine fwdG_pg HP.out K ?_
        rw [gxs_len, ← HN.out]
        have := HKN.out; omega)
      have HF0 := Bx.mk (show gxs g2 = bwdG H 0 by rw [hF.out, hnk, hH]; rfl)
      have tz : decide ((n : Int) < (N : Int)) = false := decide_eq_false (by omega)
      have tz2 : decide (n < N) = false := decide_eq_false (by omega)
      clear hH hlH hnk hF
      go_wp2_with fail
      clear tz tz2
      go_loopw [7] (fun i wr => ∃ (n : Nat) (z : Int) (g3 : List Lv), n ≤ K ∧ i = .int .i64 z ∧ z = (N : Int) - 2 - n ∧ Bx (GStep w B v g wr g3) ∧ Bx (gxs g3 = bwdG H n)) (fun i _ => (intOf i + 1).toNat)
      case atStart => exact ⟨0, (N : Int) - 2, g2, by omega, rfl, by omega, hS, HF0⟩
      case round =>
        clear HF0 hS
        obtain ⟨n', z, g3, hn', rfl, hz, hS, hF⟩ := hrel
        by_cases hz0 : 0 ≤ z
        · obtain ⟨wo, rfl⟩ : ∃ wo : World, wo = wr := ⟨_, rfl⟩
          obtain ⟨k, rfl⟩ : ∃ k : Nat, z = (k : Int) := ⟨z.toNat, by omega⟩
          have hkN : k + 1 < N := by omega
          have hk0N : k < N := by omega
          have HKK := Bx.mk (show k = N - 2 - n' by omega)
          have HZ := Bx.mk hz
          have HK3 := Bx.mk (show k + 1 < g3.length by rw [gs_len' hF.out, HHL.out]; exact hkN)
          have HK30 := Bx.mk (show k < g3.length by have := HK3.out; omega)
          have hpg3 : PG (gxs g3) := by rw [hF.out]; exact bwdG_pg HPH.out n' (.inl (by rw [HHL.out]; omega))
          have HPG3 := Bx.mk hpg3
          have hgo := hS.out.go
          rw [HVN.out] at hgo
          obtain ⟨gb, rfl, l0, -⟩ := hgo.cellL k HK30.out
          obtain ⟨gb', he', x0, -⟩ := hgo.cellL (k + 1) HK3.out
          simp only [Option.some.injEq, Addr.mk.injEq, and_true] at he'
          subst he'
          have hvl := hgo.gl.lv _ (List.getElem_mem HK3.out)
          have hvl0 := hgo.gl.lv _ (List.getElem_mem HK30.out)
          have hll := pg_len hpg3 _ (List.getElem_mem HK3.out)
          have hll0 := pg_len hpg3 _ (List.getElem_mem HK30.out)
          have HPR := Bx.mk (pg_par hpg3 HK3.out)
          obtain ⟨X, hX⟩ : ∃ L, L = g3[k + 1]'HK3.out := ⟨_, rfl⟩
          obtain ⟨L, hL⟩ : ∃ L, L = g3[k]'HK30.out := ⟨_, rfl⟩
          rw [← hX] at x0 hvl hll HPR
          rw [← hL] at l0 hvl0 hll0 HPR
          have HX := Bx.mk hX
          have HL := Bx.mk hL
          obtain ⟨xa, xc, hxs, -⟩ := hvl.rd.form
          obtain ⟨la, lc, hls, -⟩ := hvl0.rd.form
          rw [hxs] at x0 hvl
          rw [hls] at l0
          obtain ⟨LN, hLN⟩ : ∃ LN, LN = L.vs.length := ⟨_, rfl⟩
          obtain ⟨XN, hXN⟩ : ∃ XN, XN = X.vs.length := ⟨_, rfl⟩
          have HLN := Bx.mk hLN
          have HXN := Bx.mk hXN
          rw [← hLN] at l0 hll0 HPR
          rw [← hXN] at x0 hll
          have HVL := Bx.mk hvl
          have hmk := run_makeSlice (P := Tryz.prog) wo 75 4 ib (.bool false) Tryz.underlying75 hib hib0 .i64 .i64 (LN : Nat) (LN : Nat) (by omega) (by omega) (by rw [Int.toNat_natCast, hib1]; omega) (by rw [hib2]; omega) (by omega)
          simp only [Int.toNat_natCast, hib1, made_marks] at hmk
          obtain ⟨qm, hqm⟩ : ∃ q, q = wo.heap.size := ⟨_, rfl⟩
          obtain ⟨W1, hW1⟩ : ∃ W1, W1 = wo.alloc (.cells (Array.replicate LN (Value.bool false)) 4) := ⟨_, rfl⟩
          have hb1 : Below wo.heap.size wo W1 := by rw [hW1]; exact (Below.refl _ _).alloc (Nat.le_refl _) _
          have HB1 := Bx.mk hb1
          have HM1 := Bx.mk (show MB W1 qm (mkB LN (fI (vxs X.vs) 0)) by
            have e : mkB LN (fI (vxs X.vs) 0) = List.replicate LN false := by
              unfold mkB
              apply List.ext_getElem
              · simp
              · intro i h1 h2
                simp [fI_zero]
            rw [hW1, e]; unfold MB
            rw [List.map_replicate, List.toArray_replicate]
            exact alloc_at hqm)
          have HQM := Bx.mk hqm
          have x1 := (hb1.cell (p := ⟨gb, k + 1, none⟩) (World.block_lt_of_cell? wo _ x0)).trans x0
          have hn'K : n' + 1 ≤ K := by have := HKN.out; omega
          clear hgo hL hX hvl hvl0 hls hxs hLN hXN hb1 hpg3 x0 hz
          go_upto_region 15 with fail
          rw [← hW1, ← hqm]
          clear hmk hW1 hqm l0
          go_wp2_with fail
          clear x1
          go_loopw [70] (fun i wz => ∃ j : Nat, j ≤ XN ∧ i = .int .i64 j ∧ Bx (MB wz qm (mkB LN (fI (vxs X.vs) j))) ∧ Bx (Below wo.heap.size wo wz)) (fun i _ => XN - (intOf i).toNat)
          case atStart => exact ⟨0, by omega, rfl, HM1, HB1⟩
          case round =>
            clear HM1 HB1
            obtain ⟨j, hj, rfl, hM, hBw⟩ := hrel
            by_cases hlt2 : j < XN
            · have hjl : j < X.vs.length := by rw [← HXN.out]; exact hlt2
              obtain ⟨b2, o2, rfl, -, c0, c1, c2⟩ := HVL.out.at3 wr hBw.out j hjl
              have HXA := Bx.mk ((HVL.out.at_ _ (List.getElem_mem hjl)))
              have HXE := Bx.mk (vxs_at X.vs j hjl)
              have hpr := HPR.out _ (List.getElem_mem hjl)
              obtain ⟨x, hx⟩ : ∃ x, x = X.vs[j] := ⟨_, rfl⟩
              rw [← hx] at c0 c1 c2 HXA HXE hpr
              have HPX := Bx.mk hpr
              obtain ⟨pa, pc, hpq, -⟩ := RqIn.form HXA.out.2.1
              obtain ⟨ua, uc, hup, -⟩ := HXA.out.1.1.form
              have HPC := Bx.mk (Ri.cells (hpq ▸ HXA.out.2.1))
              obtain ⟨PN, hPN⟩ : ∃ PN, PN = x.n.par.length := ⟨_, rfl⟩
              have HPN := Bx.mk hPN
              have hPNb : PN ≤ 100000 := by rw [hPN]; exact HXA.out.2.2.2.2.1
              rw [hup] at c1
              rw [hpq, ← hPN] at c2
              obtain ⟨W2, hW2⟩ : ∃ W2, W2 = wr.alloc (.cells #[.string (bstr x.n.pol), .slice ua x.n.ex.length uc, .slice pa PN pc] 65) := ⟨_, rfl⟩
              have hb2 : Below wr.heap.size wr W2 := by rw [hW2]; exact (Below.refl _ _).alloc (Nat.le_refl _) _
              obtain ⟨q10, hq10⟩ : ∃ q, q = wr.heap.size := ⟨_, rfl⟩
              have hr10 : W2.heap[q10]? = some (.cells #[.string (bstr x.n.pol), .slice ua x.n.ex.length uc, .slice pa PN pc] 65 (0, 0)) := by rw [hW2, hq10]; exact heap_alloc_new _ _
              have HM2 := Bx.mk (show MB W2 qm (mkB LN (fN (vxs X.vs) j x.n.par 0)) by
                rw [mkB_cong (fun r => fN_zero _ _ _ r)]
                exact (hb2.block qm (lt_of_some hM.out)).trans hM.out)
              have HB2 := Bx.mk (hBw.out.trans (hb2.mono hBw.out.size))
              have m10 := cell_of_row _ _ 2 _ _ _ hr10
              simp only [List.getElem?_toArray, List.getElem?_cons_zero, List.getElem?_cons_succ] at m10
              clear hx hpq hup hPN hr10 hb2 hjl hpr
              go_upto_region 18 with fail
              rw [← hW2, ← hq10]
              clear hW2 hq10 c0 c1 c2
              go_wp2_with fail
              clear m10
              go_loopw [77] (fun i wy => ∃ n : Nat, n ≤ PN ∧ i = .int .i64 n ∧ Bx (MB wy qm (mkB LN (fN (vxs X.vs) j x.n.par n))) ∧ Bx (Below wo.heap.size wo wy)) (fun i _ => PN - (intOf i).toNat)
              case atStart => exact ⟨0, by omega, rfl, HM2, HB2⟩
              case round =>
                clear HM2 HB2
                obtain ⟨n, hn2, rfl, hM3, hB3⟩ := hrel
                by_cases hlt3 : n < PN
                · have hnl : n < x.n.par.length := by rw [← HPN.out]; exact hlt3
                  obtain ⟨b4, o4, rfl, -, d0⟩ := HPC.out wr hB3.out n hnl
                  have hpi := HPX.out _ (List.getElem_mem hnl)
                  obtain ⟨p, hp⟩ : ∃ p : Nat, x.n.par[n] = (p : Int) := ⟨(x.n.par[n]).toNat, by omega⟩
                  have HFS := Bx.mk (fun r => fN_succ (vxs X.vs) j x.n.par n hnl p hp r)
                  rw [hp] at d0 hpi
                  have hpl : p < LN := by omega
                  have z1 := Go.Proofs.YtmagjdocondmhaaGreat.Rg.frozen_row (i := p) hM3.out
                  have mc := hM3.out.cell p (by rw [mkB_len]; exact hpl)
                  obtain ⟨W5, hW5⟩ : ∃ W5, W5 = wr.setCell ⟨qm, p, none⟩ (.bool true) := ⟨_, rfl⟩
                  have HM5 := Bx.mk (show MB W5 qm (mkB LN (fN (vxs X.vs) j x.n.par (n + 1))) by
                    have := hM3.out.set p true
                    rw [mkB_set HFS.out] at this
                    rw [hW5]; exact this)
                  have HB5 := Bx.mk (show Below wo.heap.size wo W5 by
                    rw [hW5]
                    exact hB3.out.setCell (by show wo.heap.size ≤ qm; have := HQM.out; omega) _)
                  have HW5 := Bx.mk hW5
                  clear hp hpi hnl hW5
                  go_wp2_with fail
                  rw [← HW5.out]
                  go_roundw
                  case rel => exact ⟨n + 1, by omega, by go_num, HM5, HB5⟩
                  case measure => simp [intOf]; omega
                · obtain rfl : n = PN := by omega
                  have HME := Bx.mk (show MB wr qm (mkB LN (fI (vxs X.vs) (j + 1))) by
                    have := hM3.out
                    rw [HPN.out, ← HXE.out] at this
                    rwa [mkB_cong (fun r => fN_all (vxs X.vs) j (by rw [vxs_len, ← HXN.out]; exact hlt2) r)])
                  go_wp2_with fail
                  go_roundw
                  case rel => exact ⟨j + 1, by omega, by go_num, HME, hB3⟩
                  case measure => simp [intOf]; omega
            · obtain rfl : j = XN := by omega
              have hMf : MB wr qm (marksB LN (vxs X.vs)) := by
                rw [marksB_eq, vxs_len, ← HXN.out]; exact hM.out
              have hSz := hS.out.below hBw.out
              have HSZ := Bx.mk hSz
              have hmll : (marksB LN (vxs X.vs)).length = LN := by rw [marksB_eq, mkB_len]
              have hml : (marksB LN (vxs X.vs)).length = (g3[k]'HK30.out).vs.length := by rw [hmll, ← HL.out]; exact HLN.out
              have hcall := filter_any wr B v g3 hSz.go (by rw [gs_len' hF.out, HHL.out]; exact hn) (pg_len HPG3.out) k HK30.out (.slice (some ⟨qm, 0, none⟩) LN LN) (marksB LN (vxs X.vs)) (mb_in hMf hmll.symm fun hk => by
                have := (hS.out.go.lt hk).2
                have := HQM.out
                omega) hml (fun h1 x hx p hp => by
                rw [hml]
                exact pg_par HPG3.out h1 x hx p hp)
              rw [HVN.out] at hcall
              clear hMf hSz hml hmll
              go_wp2_with fail
              go_at_call 96
              refine hcall.mono ?_
              rintro e w4 ⟨⟨u, rfl⟩, g4, hS4, hF4⟩
              have HS4 := Bx.mk (show GStep w B v g w4 g4 from HSZ.out.trans (by rw [HVN.out]; exact hS4))
              have HF4 := Bx.mk (show gxs g4 = bwdG H (n' + 1) by
                rw [hF4, bwdG, ← hF.out, HHL.out, ← HKK.out, gxs_at' g3 k HK30.out, gxs_at' g3 (k + 1) HK3.out, ← HL.out, ← HX.out, vxs_len, ← HLN.out])
              clear hcall hS4 hF4
              go_wp2_with fail
              go_roundw
              case rel => exact ⟨n' + 1, (k : Int) - 1, g4, hn'K, by first | rfl | go_num, by have := HZ.out; omega, HS4, HF4⟩
              case measure => first | (simp [intOf]; done) | (simp [intOf]; omega)
        · have hnk : n' = K := by have := HKN.out; omega
          have hgo := hS.out.go
          have hln3 : g3.length = N := by rw [gs_len' hF.out, HHL.out]
          have hpg3 : PG (gxs g3) := by
            rw [hF.out]
            refine bwdG_pg HPH.out n' ?_
            rw [HHL.out]
            have := HKN.out; omega
          have hcall := someL_any wr v g3 hgo.gl.q (by rw [hln3]; exact hn) (pg_len hpg3)
          rw [HVN.out] at hcall
          obtain ⟨EM, hEM⟩ : ∃ E, E = g3.any fun L => decide (L.vs.length = 0) := ⟨_, rfl⟩
          rw [← hEM] at hcall
          have HPRN := Bx.mk (show pruneG (gxs g) = if EM then [] else gxs g3 by
            unfold pruneG
            simp only
            rw [gxs_len, ← HN.out, ← HKN.out, ← HH.out, hEM, ← hnk, ← hF.out]
            have e : ((gxs g3).any fun l => decide (l.length = 0)) = g3.any fun L => decide (L.vs.length = 0) := by
              rw [List.any_map]
              congr 1
              funext L
              simp [vxs]
            rw [e])
          clear hnk hgo hln3 hpg3 hEM hz
          go_wp2_with fail
          go_at_call 97
          refine hcall.mono ?_
          rintro e w5 ⟨rfl, hb5⟩
          have HS5 := Bx.mk (hS.out.below hb5)
          clear hcall hb5
          cases EM with
          | true =>
            go_wp2_with fail
            rw [HQ.out]
            exact ⟨.slice none 0 0, [], rfl, GO.nil _ _, by rw [HPRN.out]; rfl, HS5.out.fr, fun q hq => by
              rcases hq with hq | ⟨L, hL, -⟩
              · cases hq
              · cases hL⟩
          | false =>
            go_wp2_with fail
            rw [HQ.out]
            exact ⟨v, g3, by rw [HVN.out]; rfl, HS5.out.go, by rw [HPRN.out]; rfl, HS5.out.fr, HS5.out.nb⟩
end Go.Proofs.YtmagjdocondmhaaGreat.Tr.Gr
