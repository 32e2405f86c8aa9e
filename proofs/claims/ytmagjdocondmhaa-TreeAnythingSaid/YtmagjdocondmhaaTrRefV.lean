/-
  The reference's TreeValid.
-/
import Derived.Test.YtmagjdocondmhaaTrRefI
import Derived.Test.YtmagjdocondmhaaTrRegB
import Derived.Test.YtmagjdocondmhaaTrRegV
import Derived.Test.YtmagjdocondmhaaTrRegV2
namespace Go.Proofs.Ytmagjdocondmhaa.Tr
open Go Go.RowKit Go.Proofs.Ytmagjdocondmhaa.Slc Go.Proofs.Ytmagjdocondmhaa.St Go.Proofs.Ytmagjdocondmhaa.Mp Go.Proofs.Ytmagjdocondmhaa.Rg
set_option linter.unusedVariables false
set_option linter.unusedSimpArgs false
attribute [local go_sem] Oper.semAt_some

/-- how many children each node has -/
def cntL (t : List Nd) (N k : Nat) : List Int := (List.range N).map fun (j : Nat) => (((List.range k).countP (fun i => decide (0 < i) && decide (t[i]!.p = (j : Int))) : Nat) : Int)
theorem cntL_length (t : List Nd) (N k : Nat) : (cntL t N k).length = N := by simp [cntL]
theorem cntL_at (t : List Nd) (N k j : Nat) (hj : j < N) : (cntL t N k)[j]! = (((List.range k).countP (fun i => decide (0 < i) && decide (t[i]!.p = (j : Int))) : Nat) : Int) := by
  unfold cntL
  rw [getElem!_pos _ j (by simpa using hj)]
  simp
theorem cntL_one (t : List Nd) (N : Nat) : cntL t N 1 = List.replicate N 0 := by
  unfold cntL
  apply List.ext_getElem
  · simp
  · intro i h1 h2
    simp [List.range_succ]
theorem cntL_succ (t : List Nd) (N k pp : Nat) (h0 : 0 < k) (hp : t[k]!.p = (pp : Int)) (hpN : pp < N) : cntL t N (k + 1) = (cntL t N k).set pp ((cntL t N k)[pp]! + 1) := by
  apply List.ext_getElem
  · simp [cntL]
  · intro j h1 h2
    have hj : j < N := by simpa [cntL] using h1
    have e0 := cntL_at t N k pp hpN
    generalize (cntL t N k)[pp]! = Z at *
    subst e0
    rw [List.getElem_set]
    simp only [cntL, List.getElem_map, List.getElem_range, List.range_succ, List.countP_append, List.countP_singleton, hp, decide_eq_true h0, Bool.true_and]
    by_cases e : pp = j
    · subst e; rw [if_pos rfl, if_pos (by simp)]; omega
    · rw [if_neg e, if_neg (by simp; omega)]; omega
theorem lt_or_same (a b : B) : (decide (a < b) || decide (a = b)) = !decide (b < a) := by
  by_cases h : b < a
  · rw [decide_eq_true h, decide_eq_false (List.lt_asymm h), decide_eq_false (fun e => by rw [e] at h; exact List.lt_irrefl _ h)]; rfl
  · rw [decide_eq_false h]
    by_cases h2 : a < b
    · rw [decide_eq_true h2]; rfl
    · rw [decide_eq_true (eqB h2 h)]; simp
set_option maxRecDepth 100000 in
set_option maxHeartbeats 4000000 in
theorem rvalid_q (w : World) (v : Value) (l : List Nt) (h : TQ w v l) (hn : l.length ≤ 100000) (D : Int) :
    Calls Try.prog 16 #[v, .int .i64 D] w fun e w' => e = .returned (.bool (rvalidP (nds l) D)) ∧ Below w.heap.size w w' := by
  obtain ⟨R, hR⟩ : ∃ R, R = rvalidP (nds l) D := ⟨_, rfl⟩
  rw [← hR]
  have HR := Bx.mk hR
  obtain ⟨ad, c, rfl, -⟩ := h.rd.form
  have HL := Bx.mk h
  have HC := Bx.mk (fun W hW k hk => h.at4 W hW k hk)
  obtain ⟨N, hN⟩ : ∃ N, N = l.length := ⟨_, rfl⟩
  have HN := Bx.mk hN
  rw [← hN] at hn ⊢
  clear h hR hN
  by_cases hD : D < 0
  · have HF := Bx.mk (show R = false by rw [HR.out]; unfold rvalidP; rw [decide_eq_true hD]; rfl)
    have t0 : decide (D < 0) = true := decide_eq_true hD
    clear hD
    go_enter Try.func16, Try.ntmps16
    go_wp2_with fail
    go_ret
    exact ⟨by rw [HF.out]; rfl, Below.refl _ _⟩
  have t0 : decide (D < 0) = false := decide_eq_false hD
  by_cases hNb : N > 2048
  · have HF := Bx.mk (show R = false by rw [HR.out]; unfold rvalidP; rw [nds_len, ← HN.out, decide_eq_true hNb]; simp)
    have t1 : decide ((N : Int) > 2048) = true := decide_eq_true (by omega)
    clear hD hNb
    go_enter Try.func16, Try.ntmps16
    go_wp2_with fail
    go_ret
    exact ⟨by rw [HF.out]; rfl, Below.refl _ _⟩
  have t1 : decide ((N : Int) > 2048) = false := decide_eq_false (by omega)
  by_cases hN0 : N = 0
  · have HF := Bx.mk (show R = true by
      rw [HR.out]; unfold rvalidP
      rw [nds_len, ← HN.out, decide_eq_false hD, decide_eq_false hNb, decide_eq_true hN0]; rfl)
    subst hN0
    clear hD hNb
    go_enter Try.func16, Try.ntmps16
    go_wp2_with fail
    go_ret
    exact ⟨by rw [HF.out]; rfl, Below.refl _ _⟩
  have t2 : ((N : Int) == 0) = false := by simp; omega
  have HREST := Bx.mk (show rvalidP (nds l) D = (fit0 (nds l)[0]! && ((List.range N).all (fun i => decide (i = 0) || !(rbadA (nds l) i D || (rbadB (nds l) i || rbadC (nds l) i))) &&
    (List.range N).all (fun i => !(decide ((nds l)[i]!.d < D) && decide ((List.range N).countP (fun j => decide (0 < j) && decide ((nds l)[j]!.p = (i : Int))) = 0))))) by
      unfold rvalidP
      rw [nds_len, ← HN.out, decide_eq_false hD, decide_eq_false hNb, decide_eq_false hN0]; rfl)
  have hNp : 0 < N := by omega
  have hN2 : N ≤ 2048 := by omega
  have hl0 : 0 < l.length := by rw [← HN.out]; exact hNp
  obtain ⟨b, o, rfl, c0, c1, c2, c3⟩ := HC.out w (Below.refl _ _) 0 hl0
  have HCL := Bx.mk (show ∀ W, Below w.heap.size w W → ∀ k (hk : k < l.length), W.cell? ⟨b, o + k * 4, none⟩ = some (.int .i64 (nds l)[k]!.d) ∧ W.cell? ⟨b, o + k * 4 + 1, none⟩ = some (.int .i64 (nds l)[k]!.p) ∧ W.cell? ⟨b, o + k * 4 + 2, none⟩ = some (.string (bstr (nds l)[k]!.pol)) ∧ W.cell? ⟨b, o + k * 4 + 3, none⟩ = some (.slice (l[k]).u.ad (l[k]).u.n (l[k]).u.c) from fun W hW k hk => by
    obtain ⟨b', o', e, h⟩ := HC.out W hW k hk
    simp only [Option.some.injEq, Addr.mk.injEq, and_true] at e
    obtain ⟨rfl, rfl⟩ := e
    exact h)
  have HAT := Bx.mk (HL.out.at_ l[0] (List.getElem_mem hl0))
  have HX0 := Bx.mk (show (nds l)[0]! = (l[0]).n from nds_at l 0 hl0)
  simp only [Nat.zero_mul, Nat.add_zero] at c0 c1 c2 c3
  obtain ⟨x0, hx0⟩ : ∃ x, x = l[0] := ⟨_, rfl⟩
  rw [← hx0] at c3 HAT HX0
  rw [HX0.out] at c0 c1 c2 HREST
  clear hx0 hD hNb hN0 hl0
  obtain ⟨F, hF⟩ : ∃ F, F = fit0 x0.n := ⟨_, rfl⟩
  rw [← hF] at HREST
  have HF := Bx.mk hF
  clear hF
  go_enter Try.func16, Try.ntmps16
  go_upto_region 5 with fail
  go_cut [47] (fun c wx => c = .bool (!F) ∧ Below w.heap.size w wx)
  case first =>
    as_aux_lemma =>
      have l3 := same_any x0.n.pol
      have HBB4 := World.block_lt_of_cell? w _ c0
      have n0 := fun (e : Ext w) => (e.bel.cell (p := ⟨b, o, none⟩) HBB4).trans c0
      have n1 := fun (e : Ext w) => (e.bel.cell (p := ⟨b, o + 1, none⟩) HBB4).trans c1
      have n2 := fun (e : Ext w) => (e.bel.cell (p := ⟨b, o + 2, none⟩) HBB4).trans c2
      by_cases q0 : x0.n.d = 0
      · rw [q0] at n0 c0
        by_cases q1 : x0.n.p = -1
        · rw [q1] at n1 c1
          by_cases q2 : x0.n.pol = anyP
          · rw [decide_eq_true q2] at l3
            have hsm := fun W (hW : Below w.heap.size w W) u (hu : Rd W encS u [anyP]) => rsame_q W x0.u.val u x0.n.ex [anyP] (HAT.out.1.below hW) (.inr hu) (by have := HAT.out.2.1.1; omega)
            have HFF := Bx.mk (show (!decide (x0.n.ex = [anyP])) = !F by rw [HF.out]; unfold fit0 onlyB spec; simp [q0, q1, q2])
            simp only [Sl.val] at hsm
            refine reg5_d hNp c0 c1 c2 c3 HBB4 l3 hsm ?_
            intro W' hb
            intros
            go_wp2_with fail
            go_meet
            exact ⟨by rw [HFF.out], hb⟩
          · rw [decide_eq_false q2] at l3
            have HFF := Bx.mk (show F = false by rw [HF.out]; unfold fit0 spec; simp [q2])
            refine reg5_c hNp n0 n1 n2 l3 ?_
            intro W' hb
            intros
            go_wp2_with fail
            go_meet
            exact ⟨by rw [HFF.out]; rfl, hb⟩
        · have HFF := Bx.mk (show F = false by rw [HF.out]; unfold fit0; simp [q1])
          refine reg5_b hNp n0 n1 (by simp [q1]) (by simp [q1]) ?_
          intro W' hb
          intros
          go_wp2_with fail
          go_meet
          exact ⟨by rw [HFF.out]; rfl, hb⟩
      · have HFF := Bx.mk (show F = false by rw [HF.out]; unfold fit0; simp [q0])
        refine reg5_a hNp n0 (by simp [q0]) (by simp [q0]) ?_
        intro W' hb
        intros
        go_wp2_with fail
        go_meet
        exact ⟨by rw [HFF.out]; rfl, hb⟩
  case rest =>
    obtain ⟨rfl, hbc⟩ := hcut
    have HBC := Bx.mk hbc
    clear c0 c1 c2 c3 hbc
    cases F with
    | false =>
      have HFF := Bx.mk (show R = false by rw [HR.out, HREST.out]; rfl)
      go_wp2_with fail
      go_ret
      exact ⟨by rw [HFF.out]; rfl, HBC.out⟩
    | true =>
    have HRE := HREST.out
    rw [Bool.true_and] at HRE
    have HREST := Bx.mk HRE
    clear HRE
    obtain ⟨ib, hib, hib0, hib1, hib2⟩ := info_parts (show (Try.prog.info? 3).map (fun i => (i.zero, i.size, i.bytes)) = some (some (.int .i64 0), 1, 8) by kernel_rfl)
    have hmk := run_makeSlice (P := Try.prog) wc 22 3 ib (.int .i64 0) Try.underlying22 hib hib0 .i64 .i64 (N : Nat) (N : Nat) (by omega) (by omega) (by rw [Int.toNat_natCast, hib1]; omega) (by rw [hib2]; omega) (by omega)
    simp only [Int.toNat_natCast, hib1, made_ints] at hmk
    obtain ⟨q, hq⟩ : ∃ q, q = wc.heap.size := ⟨_, rfl⟩
    obtain ⟨W1, hW1⟩ : ∃ W1, W1 = wc.alloc (.cells (Array.replicate N (Value.int .i64 0)) 3) := ⟨_, rfl⟩
    have HB1 := Bx.mk (show Below w.heap.size w W1 by rw [hW1]; exact HBC.out.alloc HBC.out.size _)
    have HM1 := Bx.mk (show MI W1 q (cntL (nds l) N 1) by rw [cntL_one, hW1]; unfold MI; rw [List.map_replicate, List.toArray_replicate]; exact alloc_at hq)
    have HQ := Bx.mk (show w.heap.size ≤ q by rw [hq]; exact HBC.out.size)
    go_wp2_with fail
    rw [← hW1, ← hq]
    clear hmk hW1 hq
    go_loopw [6] (fun i wr => ∃ k : Nat, 1 ≤ k ∧ k ≤ N ∧ i = .int .i64 k ∧ Bx (∀ j, 0 < j → j < k → (rbadA (nds l) j D || (rbadB (nds l) j || rbadC (nds l) j)) = false) ∧ Bx (MI wr q (cntL (nds l) N k)) ∧ Bx (Below w.heap.size w wr)) (fun i _ => N - (intOf i).toNat)
    case atStart => exact ⟨1, by omega, by omega, rfl, ⟨fun j h0 hj => by omega⟩, HM1, HB1⟩
    case round =>
      clear HM1 HB1
      obtain ⟨k, hk1, hk, rfl, hG, hM, hBw⟩ := hrel
      by_cases hlt : k < N
      · have hkl : k < l.length := by rw [← HN.out]; exact hlt
        have HX := Bx.mk (show (nds l)[k]! = (l[k]).n from nds_at l k hkl)
        have HXA := Bx.mk (HL.out.at_ l[k] (List.getElem_mem hkl))
        have HCX := Bx.mk (fun W (hW : Below wr.heap.size wr W) => HCL.out W (hBw.out.trans (hW.mono hBw.out.size)) k hkl)
        obtain ⟨x, hx⟩ : ∃ x, x = l[k] := ⟨_, rfl⟩
        rw [← hx] at HX HXA HCX
        rw [HX.out] at HCX
        have HNO := Bx.mk (show (rbadA (nds l) k D || (rbadB (nds l) k || rbadC (nds l) k)) = true → R = false from fun h => by
          rw [HR.out, HREST.out, Bool.and_eq_false_iff]
          left
          rw [List.all_eq_false]
          exact ⟨k, List.mem_range.2 hlt, by rw [h, decide_eq_false (by omega)]; simp⟩)
        obtain ⟨BA, hBA⟩ : ∃ BA, BA = rbadA (nds l) k D := ⟨_, rfl⟩
        obtain ⟨BB, hBB⟩ : ∃ BB, BB = rbadB (nds l) k := ⟨_, rfl⟩
        obtain ⟨BC, hBC⟩ : ∃ BC, BC = rbadC (nds l) k := ⟨_, rfl⟩
        have HGN := Bx.mk (show (BA || (BB || BC)) = false → ∀ j, 0 < j → j < k + 1 → (rbadA (nds l) j D || (rbadB (nds l) j || rbadC (nds l) j)) = false from fun h j h0 hj => by
          by_cases e : j = k
          · subst e; rw [← hBA, ← hBB, ← hBC]; exact h
          · exact hG.out j h0 (by omega))
        rw [← hBA, ← hBB, ← hBC] at HNO
        obtain ⟨pd, hpd⟩ : ∃ pd, pd = pn (nds l) x.n := ⟨_, rfl⟩
        have HPD := Bx.mk hpd
        unfold rbadA at hBA
        unfold rbadB at hBB
        unfold rbadC at hBC
        rw [HX.out, ← hpd] at hBA hBB
        rw [HX.out] at hBC
        have HBA := Bx.mk hBA
        have HBB := Bx.mk hBB
        have HBC := Bx.mk hBC
        have HPN := Bx.mk (show ∀ (h0 : 0 ≤ x.n.p) (hN : x.n.p < N), ∀ W, Below wr.heap.size wr W → W.cell? ⟨b, o + x.n.p.toNat * 4, none⟩ = some (.int .i64 pd.d) ∧ W.cell? ⟨b, o + x.n.p.toNat * 4 + 2, none⟩ = some (.string (bstr pd.pol)) from fun h0 hN W hW => by
          have := HCL.out W (hBw.out.trans (hW.mono hBw.out.size)) x.n.p.toNat (by rw [← HN.out]; omega)
          rw [hpd]
          exact ⟨this.1, this.2.2.1⟩)
        obtain ⟨c0, c1, c2, c3⟩ := HCX.out wr (Below.refl _ _)
        clear hx hBA hBB hBC hpd hkl
        go_upto_region 12 with fail
        go_cut [100] (fun c wx => c = .bool BA ∧ Below wr.heap.size wr wx)
        case first =>
          as_aux_lemma =>
            have n0 := fun (e : Ext wr) => (HCX.out e.out e.bel).1
            have n3 := fun (e : Ext wr) => (HCX.out e.out e.bel).2.2.2
            have hasc := fun (e : Ext wr) => rasc_q e.out x.u.val x.n.ex (HXA.out.1.below (hBw.out.trans (e.bel.mono hBw.out.size))) (by have := HXA.out.2.1.1; omega)
            simp only [Sl.val] at hasc
            have HBD := HBA.out
            clear c0 c1 c2 c3
            cases tA : decide (x.n.p < 0) with
            | true =>
              have HBAD := Bx.mk (show BA = true by rw [HBD, tA]; rfl)
              refine reg12_a tA ?_
              intro W' hb
              intros
              go_wp2_with fail
              go_meet
              exact ⟨by rw [HBAD.out], hb⟩
            | false =>
              cases tB : decide (x.n.p ≥ (k : Int)) with
              | true =>
                have HBAD := Bx.mk (show BA = true by rw [HBD, tA, tB]; rfl)
                refine reg12_b tA tB tB ?_
                intro W' hb
                intros
                go_wp2_with fail
                go_meet
                exact ⟨by rw [HBAD.out], hb⟩
              | false =>
                have hp0 : 0 ≤ x.n.p := by have := of_decide_eq_false tA; omega
                have hpk : x.n.p < k := by have := of_decide_eq_false tB; omega
                have hpN : x.n.p < N := by omega
                have m0 := fun (e : Ext wr) => (HPN.out hp0 hpN e.out e.bel).1
                obtain ⟨MD, hMD⟩ : ∃ z, z = IntKind.i64.wrap (pd.d + 1) := ⟨_, rfl⟩
                have hmd : IntKind.i64.wrap (pd.d + 1) = MD := hMD.symm
                rw [hmd, tA, tB] at HBD
                cases tC : (x.n.d == MD) with
                | false =>
                  have tC1 : (x.n.d != MD) = true := by rw [bne, tC]; rfl
                  have tC2 : ¬ (x.n.d = MD) := by simpa using tC
                  have HBAD := Bx.mk (show BA = true by rw [HBD, tC1]; rfl)
                  refine reg12_c tA tB tB hlt hp0 hpk hpN n0 m0 hmd tC tC1 tC2 ?_
                  intro W' hb
                  intros
                  go_wp2_with fail
                  go_meet
                  exact ⟨by rw [HBAD.out], hb⟩
                | true =>
                  have tC1 : (x.n.d != MD) = false := by rw [bne, tC]; rfl
                  cases tD : decide (x.n.d > D) with
                  | true =>
                    have HBAD := Bx.mk (show BA = true by rw [HBD, tC1, tD]; rfl)
                    refine reg12_d tA tB tB hlt hp0 hpk hpN n0 m0 hmd tC tC1 tD ?_
                    intro W' hb
                    intros
                    go_wp2_with fail
                    go_meet
                    exact ⟨by rw [HBAD.out], hb⟩
                  | false =>
                    have HBAD := Bx.mk (show (!ascB x.n.ex) = BA by rw [HBD, tC1, tD]; rfl)
                    refine reg12_e tA tB tB hlt hp0 hpk hpN n0 m0 hmd tC tC1 tD n3 hasc ?_
                    intro W' hb
                    intros
                    go_wp2_with fail
                    go_meet
                    exact ⟨by rw [HBAD.out], hb⟩
        case rest =>
          obtain ⟨rfl, hb12⟩ := hcut
          have HB12 := Bx.mk hb12
          clear c0 c1 c2 c3 hb12
          cases BA with
          | true =>
            have HFF := Bx.mk (HNO.out (by rfl))
            have HBW := Bx.mk (hBw.out.trans (HB12.out.mono hBw.out.size))
            go_wp2_with fail
            go_ret
            exact ⟨by rw [HFF.out]; rfl, HBW.out⟩
          | false =>
          have hpr : 0 ≤ x.n.p ∧ x.n.p < k := by
            have := HBA.out
            simp only [Bool.false_eq, Bool.or_eq_false_iff, decide_eq_false_iff_not] at this
            omega
          have hp0 := hpr.1
          have hpk := hpr.2
          have hpN : x.n.p < N := by omega
          have HNO2 := Bx.mk (show (BB || BC) = true → R = false from fun h => HNO.out (by rw [Bool.false_or]; exact h))
          have HGN2 := Bx.mk (show (BB || BC) = false → _ from fun h => HGN.out (by rw [Bool.false_or]; exact h))
          obtain ⟨c0, c1, c2, c3⟩ := HCX.out wc HB12.out
          obtain ⟨m0, m2⟩ := HPN.out hp0 hpN wc HB12.out
          obtain ⟨SP, hSP⟩ : ∃ SP, SP = spec x.n := ⟨_, rfl⟩
          obtain ⟨SM, hSM⟩ : ∃ SM, SM = spec pd := ⟨_, rfl⟩
          obtain ⟨IN, hIN⟩ : ∃ IN, IN = decide (anyP ∈ x.n.ex) := ⟨_, rfl⟩
          have l3 := same_any x.n.pol
          have l4 := same_any pd.pol
          rw [show decide (x.n.pol = anyP) = spec x.n from rfl, ← hSP] at l3
          rw [show decide (pd.pol = anyP) = spec pd from rfl, ← hSM] at l4
          have HBX := Bx.mk (show BB = ((SP && (!SM || decide (x.n.ex.length ≠ 1))) || (SP != IN)) by rw [HBB.out, hSP, hSM, hIN])
          have hin := in_q wc x.u.val x.n.ex anyP (HXA.out.1.below (hBw.out.trans (HB12.out.mono hBw.out.size))) (by have := HXA.out.2.1.1; omega)
          rw [anyP_str, ← hIN] at hin
          have HUN := Bx.mk (show x.u.n = x.n.ex.length by
            obtain ⟨_, _, e, -⟩ := HXA.out.1.form
            simp only [Sl.val, Value.slice.injEq] at e
            exact e.2.1)
          rw [HUN.out] at c3
          simp only [Sl.val] at hin
          rw [HUN.out] at hin
          have HL2 := Bx.mk (And.intro (less_bytes x.n.pol) (And.intro (fun z => less_bytes z x.n.pol) (same_bytes x.n.pol)))
          generalize hXL : x.n.ex.length = XL at *
          clear hpr hSP hSM hIN
          go_upto_region 15 with fail
          go_cut [134] (fun c wx => c = .bool BB ∧ wx = wc)
          case first =>
            as_aux_lemma =>
              cases SP with
              | true =>
                cases SM with
                | false =>
                  have HBAD := Bx.mk (show BB = true by rw [HBX.out]; rfl)
                  go_wp2_with fail
                  go_meet
                  exact ⟨by rw [HBAD.out], rfl⟩
                | true =>
                  by_cases hX1 : XL = 1
                  · subst hX1
                    have HBAD := Bx.mk (show BB = !IN by rw [HBX.out]; cases IN <;> rfl)
                    go_wp2_with fail
                    go_at_call 33
                    refine hin.mono ?_
                    rintro e w8 ⟨rfl, rfl⟩
                    cases IN <;> (go_wp2_with fail; go_meet; exact ⟨by rw [HBAD.out]; rfl, rfl⟩)
                  · have t5 : ((XL : Int) != 1) = true := by simp; omega
                    have t6 : ((XL : Int) == 1) = false := by simp; omega
                    have HBAD := Bx.mk (show BB = true by rw [HBX.out, decide_eq_true hX1]; rfl)
                    go_wp2_with fail
                    go_meet
                    exact ⟨by rw [HBAD.out], rfl⟩
              | false =>
                have HBAD := Bx.mk (show BB = IN by rw [HBX.out]; cases IN <;> rfl)
                go_wp2_with fail
                go_at_call 33
                refine hin.mono ?_
                rintro e w8 ⟨rfl, rfl⟩
                cases IN <;> (go_wp2_with fail; go_meet; exact ⟨by rw [HBAD.out], rfl⟩)
          case rest =>
            obtain ⟨rfl, hwc⟩ := hcut
            subst hwc
            clear c0 c1 c2 c3 m0 m2 l3 l4 hin
            have HBW := Bx.mk (hBw.out.trans (HB12.out.mono hBw.out.size))
            cases BB with
            | true =>
              have HFF := Bx.mk (HNO2.out (by rfl))
              go_wp2_with fail
              go_ret
              exact ⟨by rw [HFF.out]; rfl, HBW.out⟩
            | false =>
            have hMc : MI wc q (cntL (nds l) N k) := (HB12.out.block q (lt_of_some hM.out)).trans hM.out
            obtain ⟨C, hC⟩ : ∃ C, C = (cntL (nds l) N k)[x.n.p.toNat]! := ⟨_, rfl⟩
            have hCb : 0 ≤ C ∧ C ≤ 4096 := by
              rw [hC, cntL_at _ _ _ _ (by omega)]
              have := List.countP_le_length (p := fun i => decide (0 < i) && decide ((nds l)[i]!.p = ((x.n.p.toNat : Nat) : Int))) (l := List.range k)
              rw [List.length_range] at this
              omega
            have hcc := hMc.cell x.n.p.toNat (by rw [cntL_length]; omega)
            rw [← hC] at hcc
            have hfz := frozen_row (i := x.n.p.toNat) hMc
            have hwr : IntKind.i64.wrap (C + 1) = C + 1 := IntWalk.i64_in _ (by omega)
            have HM2 := Bx.mk (show MI (wc.setCell ⟨q, x.n.p.toNat, none⟩ (.int .i64 (C + 1))) q (cntL (nds l) N (k + 1)) by
              rw [cntL_succ (nds l) N k x.n.p.toNat (by omega) (by rw [HX.out]; omega) (by omega), ← hC]
              exact hMc.set _ _)
            obtain ⟨W2, hW2⟩ : ∃ W2, W2 = wc.setCell ⟨q, x.n.p.toNat, none⟩ (.int .i64 (C + 1)) := ⟨_, rfl⟩
            rw [← hW2] at HM2
            have HBW2 := Bx.mk (show Below w.heap.size w W2 by rw [hW2]; exact HBW.out.setCell HQ.out _)
            have HNO3 := Bx.mk (show BC = true → R = false from fun h => HNO2.out (by rw [Bool.false_or]; exact h))
            have HGN3 := Bx.mk (show BC = false → _ from fun h => HGN2.out (by rw [Bool.false_or]; exact h))
            clear hMc hC hCb
            go_upto_region 18 with fail
            rw [← hW2]
            clear hW2 hcc hfz hwr
            go_cut [204] (fun c wx => c = .bool BC ∧ Below W2.heap.size W2 wx)
            case first =>
              as_aux_lemma =>
                by_cases hk1' : k = 1
                · have HBAD := Bx.mk (show BC = false by rw [HBC.out, hk1']; rfl)
                  have tj : decide ((k : Int) > 1) = false := decide_eq_false (by omega)
                  refine reg18_a hlt tj tj (decide_eq_false (by omega)) ?_
                  intro W' hb
                  intros
                  go_wp2_with fail
                  go_meet
                  exact ⟨by rw [HBAD.out], hb⟩
                · obtain ⟨j, hjk⟩ : ∃ j, k = j + 1 := ⟨k - 1, by omega⟩
                  have hjl : j < l.length := by rw [← HN.out]; omega
                  have hjN : j < N := by omega
                  have n0 := fun (e : Ext W2) => (HCL.out e.out (HBW2.out.trans (e.bel.mono HBW2.out.size)) j hjl).1
                  have n1 := fun (e : Ext W2) => (HCL.out e.out (HBW2.out.trans (e.bel.mono HBW2.out.size)) j hjl).2.1
                  have n2 := fun (e : Ext W2) => (HCL.out e.out (HBW2.out.trans (e.bel.mono HBW2.out.size)) j hjl).2.2.1
                  have x0' := fun (e : Ext W2) => (HCL.out e.out (HBW2.out.trans (e.bel.mono HBW2.out.size)) k (by rw [← HN.out]; exact hlt)).1
                  have x2' := fun (e : Ext W2) => (HCL.out e.out (HBW2.out.trans (e.bel.mono HBW2.out.size)) k (by rw [← HN.out]; exact hlt)).2.2.1
                  rw [HX.out] at x0' x2'
                  have HBD := HBC.out
                  rw [show k - 1 = j by omega] at HBD
                  obtain ⟨y, hy⟩ : ∃ y, y = (nds l)[j]! := ⟨_, rfl⟩
                  rw [← hy] at n0 n1 n2 HBD
                  have wj : IntKind.i64.wrap ((k : Int) - 1) = (j : Int) := by rw [IntWalk.i64_in _ (by omega)]; omega
                  have tj : decide ((k : Int) > 1) = true := decide_eq_true (by omega)
                  have tj3 : decide (1 < k) = true := decide_eq_true (by omega)
                  rw [decide_eq_true (show k > 1 by omega), Bool.true_and] at HBD
                  have hle := lt_or_same x.n.pol y.pol
                  clear hjk hy
                  by_cases td : x.n.d < y.d
                  · have HBAD := Bx.mk (show BC = true by rw [HBD, decide_eq_true td]; rfl)
                    refine reg18_b hlt hjN x0' x2' n0 n1 n2 wj tj tj tj3 (decide_eq_true td) ?_
                    intro W' hb
                    intros
                    go_wp2_with fail
                    go_meet
                    exact ⟨by rw [HBAD.out], hb⟩
                  · by_cases te : x.n.d = y.d
                    · by_cases tp : x.n.p < y.p
                      · have HBAD := Bx.mk (show BC = true by rw [HBD, decide_eq_false td, decide_eq_true te, decide_eq_true tp]; rfl)
                        refine reg18_d hlt hjN x0' x2' n0 n1 n2 wj tj tj tj3 (decide_eq_false td) (by simpa using te) (decide_eq_true tp) ?_
                        clear te
                        intro W' hb
                        intros
                        go_wp2_with fail
                        go_meet
                        exact ⟨by rw [HBAD.out], hb⟩
                      · by_cases tq : x.n.p = y.p
                        · have HBAD := Bx.mk (show (decide (x.n.pol < y.pol) || decide (x.n.pol = y.pol)) = BC by rw [hle, HBD, decide_eq_false td, decide_eq_true te, decide_eq_false tp, decide_eq_true tq]; rfl)
                          refine reg18_f hlt hjN x0' x2' n0 n1 n2 wj tj tj tj3 (decide_eq_false td) (by simpa using te) (decide_eq_false tp) (by simpa using tq) (less_bytes x.n.pol y.pol) (same_bytes x.n.pol y.pol) ?_
                          clear te
                          try clear tq
                          intro W' hb
                          intros
                          go_wp2_with fail
                          go_meet
                          exact ⟨by first | rw [HBAD.out] | rw [← hle, HBAD.out], hb⟩
                        · have HBAD := Bx.mk (show BC = false by rw [HBD, decide_eq_false td, decide_eq_true te, decide_eq_false tp, decide_eq_false tq]; rfl)
                          refine reg18_e hlt hjN x0' x2' n0 n1 n2 wj tj tj tj3 (decide_eq_false td) (by simpa using te) (decide_eq_false tp) (by simpa using tq) ?_
                          clear te
                          try clear tq
                          intro W' hb
                          intros
                          go_wp2_with fail
                          go_meet
                          exact ⟨by rw [HBAD.out], hb⟩
                    · have HBAD := Bx.mk (show BC = false by rw [HBD, decide_eq_false td, decide_eq_false te]; rfl)
                      refine reg18_c hlt hjN x0' x2' n0 n1 n2 wj tj tj tj3 (decide_eq_false td) (by simpa using te) ?_
                      intro W' hb
                      intros
                      go_wp2_with fail
                      go_meet
                      exact ⟨by rw [HBAD.out], hb⟩
            case rest =>
              obtain ⟨rfl, hbc⟩ := hcut
              have HBW3 := Bx.mk (HBW2.out.trans (hbc.mono HBW2.out.size))
              have HM3 := Bx.mk (show MI wc q (cntL (nds l) N (k + 1)) from (hbc.block q (lt_of_some HM2.out)).trans HM2.out)
              clear hbc
              cases BC with
              | true =>
                have HFF := Bx.mk (HNO3.out (by rfl))
                go_wp2_with fail
                go_ret
                exact ⟨by rw [HFF.out]; rfl, HBW3.out⟩
              | false =>
                have HG3 := Bx.mk (HGN3.out (by rfl))
                go_wp2_with fail
                go_roundw
                case rel => exact ⟨k + 1, by omega, by omega, by go_num, HG3, HM3, HBW3⟩
                case measure => simp [intOf]; omega
      · obtain rfl : k = N := by omega
        obtain ⟨G, hGG⟩ : ∃ G : Nat → Bool, G = fun (i : Nat) => !(decide ((nds l)[i]!.d < D) && decide ((List.range k).countP (fun j => decide (0 < j) && decide ((nds l)[j]!.p = (i : Int))) = 0)) := ⟨_, rfl⟩
        have HR2 := Bx.mk (show R = (List.range k).all G by
          rw [HR.out, HREST.out, hGG]
          have : (List.range k).all (fun i => decide (i = 0) || !(rbadA (nds l) i D || (rbadB (nds l) i || rbadC (nds l) i))) = true := by
            rw [List.all_eq_true]
            intro i hi
            by_cases e : i = 0
            · rw [decide_eq_true e]; rfl
            · rw [hG.out i (by omega) (List.mem_range.1 hi)]; simp
          rw [this, Bool.true_and])
        have HGA := Bx.mk (show ∀ i, i < k → G i = !(decide ((nds l)[i]!.d < D) && decide ((cntL (nds l) k k)[i]! = 0)) from fun i hi => by
          rw [hGG, cntL_at _ _ _ _ hi]
          simp only [Int.natCast_eq_zero])
        have HBWR := hBw
        clear hGG hG
        go_wp2_with fail
        go_loop [9] (fun iv => ∃ i : Nat, iv = .int .i64 (i : Nat) ∧ i ≤ k ∧ Bx (∀ j, j < i → G j = true)) (fun iv => k - (intOf iv).toNat)
        case atStart => exact ⟨0, rfl, by omega, ⟨fun j hj => by omega⟩⟩
        case round =>
          obtain ⟨i, rfl, hi, hB⟩ := hrel
          by_cases hlt : i < k
          · have hil : i < l.length := by rw [← HN.out]; exact hlt
            obtain ⟨c0, -, -, -⟩ := HCL.out wr HBWR.out i hil
            have hm := hM.out.cell i (by rw [cntL_length]; exact hlt)
            have HGI := Bx.mk (HGA.out i hlt)
            have HF := Bx.mk (show G i = false → R = false from fun h => by
              rw [HR2.out, List.all_eq_false]
              exact ⟨i, List.mem_range.2 hlt, by rw [h]; simp⟩)
            have HX := Bx.mk (show G i = true → ∀ j, j < i + 1 → G j = true from fun h j hj => by
              by_cases e : j = i
              · subst e; exact h
              · exact hB.out j (by omega))
            generalize (nds l)[i]!.d = DD at *
            generalize (cntL (nds l) k k)[i]! = CC at *
            clear hil
            by_cases q : DD < D
            · have t0 : decide (DD < D) = true := decide_eq_true q
              by_cases z : CC = 0
              · have t1 : (CC == 0) = true := by simpa using z
                have HFF := Bx.mk (HF.out (by rw [HGI.out, t0, decide_eq_true z]; rfl))
                clear q z
                go_wp2_with fail
                go_ret
                exact ⟨by rw [HFF.out]; rfl, HBWR.out⟩
              · have t1 : (CC == 0) = false := by simpa using z
                have HXX := Bx.mk (HX.out (by rw [HGI.out, decide_eq_false z]; simp))
                clear q z
                go_wp2_with fail
                go_round
                case rel => exact ⟨i + 1, by go_num, by omega, HXX⟩
                case measure => simp [intOf]; omega
            · have t0 : decide (DD < D) = false := decide_eq_false q
              have HXX := Bx.mk (HX.out (by rw [HGI.out, t0]; rfl))
              clear q
              go_wp2_with fail
              go_round
              case rel => exact ⟨i + 1, by go_num, by omega, HXX⟩
              case measure => simp [intOf]; omega
          · have HFF := Bx.mk (show R = true by
              rw [HR2.out, List.all_eq_true]
              intro j hj
              exact hB.out j (by have := List.mem_range.1 hj; omega))
            go_wp2_with fail
            go_ret
            exact ⟨by rw [HFF.out]; rfl, HBWR.out⟩
theorem rvalid_any (w : World) (v : Value) (l : List Nt) (h : TL w v l) (hn : l.length ≤ 100000) (D : Int) :
    Calls Try.prog 16 #[v, .int .i64 D] w fun e w' => e = .returned (.bool (rvalidP (nds l) D)) ∧ Below w.heap.size w w' := rvalid_q w v l h.tq hn D
end Go.Proofs.Ytmagjdocondmhaa.Tr
