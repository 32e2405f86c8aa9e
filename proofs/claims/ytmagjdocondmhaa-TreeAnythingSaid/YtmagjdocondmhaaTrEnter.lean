/-
  ptree.Enter.
-/
import Derived.Test.YtmagjdocondmhaaTrPolW
import Derived.Test.YtmagjdocondmhaaTrGrown
import Derived.Test.YtmagjdocondmhaaTrStay
namespace Go.Proofs.Ytmagjdocondmhaa.Tr
open Go Go.RowKit Go.Proofs.Ytmagjdocondmhaa.Slc Go.Proofs.Ytmagjdocondmhaa.St Go.Proofs.Ytmagjdocondmhaa.Mp
set_option linter.unusedVariables false
set_option linter.unusedSimpArgs false
attribute [local go_sem] Oper.semAt_some

/-- a set of strings as a map -/
def exF (L : List B) : B → Option Bool := fun p => if p ∈ L then some true else none
theorem exF_nil : exF [] = fun _ => none := by funext p; simp [exF]
theorem exF_snoc (L : List B) (p : B) : exF (L ++ [p]) = fun j => if j = p then some true else exF L j := by
  funext j; unfold exF
  by_cases h : j = p
  · simp [h]
  · simp [h]
/-- the policies that are expected at a depth, along the first k nodes -/
def exL (t : List Nd) (E : Int) (k : Nat) : List B := (t.take k).flatMap fun n => if n.d = E then n.ex else []
theorem exL_succ (t : List Nd) (E : Int) (k : Nat) (hk : k < t.length) : exL t E (k + 1) = exL t E k ++ if t[k]!.d = E then t[k]!.ex else [] := by
  unfold exL
  rw [List.take_succ_eq_append_getElem hk, List.flatMap_append, getElem!_pos t k hk]
  simp
theorem exL_get (t : List Nd) (D : Int) (p : B) : ((exF (exL t (D - 1) t.length)) p).getD false = expdP t D p := by
  unfold exF exL expdP
  rw [List.take_length]
  by_cases h : p ∈ t.flatMap fun n => if n.d = D - 1 then n.ex else []
  · rw [if_pos h]
    rw [List.mem_flatMap] at h
    obtain ⟨n, hn, hp⟩ := h
    symm
    show t.any _ = true
    rw [List.any_eq_true]
    refine ⟨n, hn, ?_⟩
    by_cases q : n.d = D - 1
    · rw [if_pos q] at hp; simp [q, hp]
    · rw [if_neg q] at hp; cases hp
  · rw [if_neg h]
    symm
    show t.any _ = false
    rw [List.any_eq_false]
    intro n hn hq
    simp only [Bool.and_eq_true, decide_eq_true_eq] at hq
    exact h (List.mem_flatMap.2 ⟨n, hn, by rw [if_pos hq.1]; exact hq.2⟩)
theorem child_want (t : List Nd) (D : Int) (n : Nd) (pol : List B) (all : Bool) : setB (pol.filter (wantF (exF (exL t (D - 1) t.length)) n) ++ if all then n.ex else []) = childP t D n pol all := by
  unfold childP
  congr 2
  apply List.filter_congr
  intro p _
  unfold wantF wantP
  rw [exL_get]
theorem RdIn.apd {wr w' : World} {Bk a b : Nat} {v v' : Value} {xs news : List Value} {α : Type} {enc : α → List Value} {u : Value} {L : List α} (h : RdIn wr (fun k => v.ownBlock ≠ some k) enc u L) (h' : Apd wr Bk 56 4 v a b xs news v' w') : RdIn w' (fun k => v'.ownBlock ≠ some k) enc u L := by
  refine RdIn.mono (S := fun k => v.ownBlock ≠ some k ∧ k < wr.heap.size) ((h.mono fun k hk h1 => ⟨h1, hk⟩).keep h'.grown.size fun k hk hlt => h'.grown.block k hlt fun e => hk.1 e.symm) ?_
  intro k _ hk e
  rcases h'.blk with q | q
  · exact hk.1 (by rw [← q]; exact e)
  · rw [q] at e; simp only [Option.some.injEq] at e; omega
theorem RdIn.below {w w' : World} {S : Nat → Prop} {α : Type} {enc : α → List Value} {u : Value} {L : List α} (h : RdIn w S enc u L) (hb : Below w.heap.size w w') : RdIn w' S enc u L := h.keep hb.size fun k _ hk => hb.block k hk
/-- a fresh node with one expected policy -/
theorem new_node (w : World) (D i : Int) (p : B) (hp : p.length ≤ 1000000) : ∃ y : Nt, y = ⟨newN D i p, ⟨some ⟨w.heap.size, 0, none⟩, 1, 1⟩⟩ ∧
    NtIn ((w.alloc (.cells #[.string (bstr p)] 9)).alloc (.cells #[.int .i64 D, .int .i64 i, .string (bstr p), .slice (some ⟨w.heap.size, 0, none⟩) 1 1] 56)) (fun k => k = w.heap.size) y ∧
    SrcV ((w.alloc (.cells #[.string (bstr p)] 9)).alloc (.cells #[.int .i64 D, .int .i64 i, .string (bstr p), .slice (some ⟨w.heap.size, 0, none⟩) 1 1] 56)) 4 (.slice (some ⟨w.heap.size + 1, 0, none⟩) 1 1) 1 ([y].flatMap encN) := by
  refine ⟨_, rfl, ⟨⟨?_, fun k hk => by cases hk; rfl⟩, ⟨by simp [newN], fun b hb => ?_⟩, hp⟩, ?_⟩
  · have := own_alloc (Bk := w.heap.size) (e := 9) encS_ok w [p] #[.string (bstr p)] rfl (Nat.le_refl _) (by unfold maxLen; simp)
    exact (this.below ((Below.refl _ _).alloc (Nat.le_refl _) _)).rd
  · have hb' : b ∈ [p] := hb
    rw [List.mem_singleton] at hb'
    rw [hb']; exact hp
  · have := src_node (w.alloc (.cells #[.string (bstr p)] 9)) ⟨newN D i p, ⟨some ⟨w.heap.size, 0, none⟩, 1, 1⟩⟩
    rw [World.size_alloc] at this
    exact this
/-- what Enter says -/
def EnP (w : World) (R : List Nd × Int) (e : Ending) (w' : World) : Prop := ∃ v' l', e = .returned (.tuple #[v', .int .i64 R.2]) ∧ TO w' w.heap.size v' l' ∧ nds l' = R.1 ∧ Below w.heap.size w w'
set_option maxRecDepth 100000 in
set_option maxHeartbeats 4000000 in
theorem enter_any (w : World) (v pv : Value) (l : List Nt) (ps : List B) (h : TL w v l) (hp : Rd w encS pv ps) (hn : l.length ≤ 100000) (hpl : ps.length ≤ 100000) (hpx : ∀ p ∈ ps, p.length ≤ 1000000) (D : Int) (hD : I64 D) (cnt : Bool) :
    Calls Try.prog 21 #[v, .int .i64 D, pv, .bool cnt] w fun e w' => EnP w (enterP (nds l) D ps cnt) e w' := by
  obtain ⟨i0, hi0, hz0, hz1, hz2⟩ := info_parts info_node
  have hset := fun (W : World) (hW : Below w.heap.size w W) => set_any W pv ps (hp.below hW) (by omega)
  obtain ⟨R, hR⟩ : ∃ R, R = enterP (nds l) D ps cnt := ⟨_, rfl⟩
  rw [← hR]
  have HR := Bx.mk hR
  unfold enterP at hR
  obtain ⟨ad, c, rfl, -⟩ := h.rd.form
  obtain ⟨pa, pc, rfl, -⟩ := hp.form
  have hval := fun hd : 1 ≤ D => valid_any w _ l h hn (D - 1)
  have HL := Bx.mk h
  have HC := Bx.mk h.cells.2
  have HPX := Bx.mk hpx
  have HSET := Bx.mk hset
  obtain ⟨N, hN⟩ : ∃ N, N = l.length := ⟨_, rfl⟩
  have HN := Bx.mk hN
  rw [← hN] at hn hval ⊢
  clear h hp hN hpx hset
  unfold EnP I64 at *
  by_cases h1 : D < 1
  · have t0 : decide (D < 1) = true := decide_eq_true h1
    have HF := Bx.mk (show R = ([], 7) by rw [hR, t0]; rfl)
    clear hval h1 hR
    go_enter Try.func21, Try.ntmps21
    go_wp2_with fail
    go_ret2
    exact ⟨_, [], by rw [HF.out]; rfl, TO.nil _ _, by rw [HF.out]; rfl, Below.refl _ _⟩
  have h1' : 1 ≤ D := by omega
  have t0 : decide (D < 1) = false := decide_eq_false h1
  have hval' := hval h1'
  rw [t0, Bool.false_or] at hR
  obtain ⟨V, hV⟩ : ∃ V, V = validB (nds l) (D - 1) := ⟨_, rfl⟩
  rw [← hV] at hval' hR
  have HV := Bx.mk hV
  have HRR := Bx.mk hR
  clear hval hV hR h1
  go_enter Try.func21, Try.ntmps21
  go_wp2_with fail
  go_at_call 15
  refine hval'.mono ?_
  rintro e w1 ⟨rfl, hb1⟩
  clear hval'
  cases V with
  | false =>
    have HF := Bx.mk (show R = ([], 7) by rw [HRR.out]; rfl)
    go_wp2_with fail
    go_ret2
    exact ⟨_, [], by rw [HF.out]; rfl, TO.nil _ _, by rw [HF.out]; rfl, hb1⟩
  | true =>
  have HVV := Bx.mk ((valid_iff _ _).1 HV.out.symm)
  have hset1 := HSET.out w1 hb1
  have HB1 := Bx.mk hb1
  clear hb1
  go_wp2_with fail
  go_at_call 38
  refine hset1.mono ?_
  rintro e w2 ⟨v2, rfl, ho2, hb2⟩
  have HB2 := Bx.mk (HB1.out.trans (hb2.mono HB1.out.size))
  have hct := contains_any w2 v2 (setB ps) anyP ho2.rd (by have := setB_length ps; omega)
  obtain ⟨a2, c2, rfl, -⟩ := ho2.rd.form
  have HO2 := Bx.mk ho2
  obtain ⟨S, hS⟩ : ∃ S, S = setB ps := ⟨_, rfl⟩
  rw [← hS] at HO2 hct ⊢
  have HS := Bx.mk hS
  have hSl : S.length ≤ 100000 := by rw [hS]; have := setB_length ps; omega
  clear hset1 ho2 hb2 hS
  obtain ⟨A, hA⟩ : ∃ A, A = (cnt && decide (anyP ∈ S)) := ⟨_, rfl⟩
  have HA := Bx.mk hA
  clear hA
  go_upto_region 4 with fail
  go_cut [10] (fun c wx => c = .bool A ∧ w2 = wx)
  case first =>
    cases cnt with
    | false =>
      go_wp2_with fail
      go_meet
      exact ⟨by rw [HA.out]; rfl, rfl⟩
    | true =>
      rw [anyP_str] at hct
      go_wp2_with fail
      go_at_call 39
      refine hct.mono ?_
      rintro e w3 ⟨rfl, rfl⟩
      go_wp2_with fail
      go_meet
      exact ⟨by rw [HA.out]; rfl, rfl⟩
  case rest =>
  obtain ⟨rfl, rfl⟩ := hcut
  clear hct
  have hmm := @run_makeMap Try.prog
  obtain ⟨W3, hW3⟩ : ∃ W3, W3 = w2.alloc (.map #[] 0) := ⟨_, rfl⟩
  obtain ⟨bm, hbm⟩ : ∃ bm, bm = w2.heap.size := ⟨_, rfl⟩
  have HBM := Bx.mk hbm
  have HM0 := Bx.mk (show OwnF W3 kS rdB edB bm 0 (exF (exL (nds l) (D - 1) 0)) by
    have e : exF (exL (nds l) (D - 1) 0) = fun _ => none := by unfold exL; simp [exF_nil]
    rw [e, hW3, hbm]; exact OwnF.made w2 kS rdB edB)
  have HB3 := Bx.mk (show Below bm w2 W3 by rw [hW3, hbm]; exact (Below.refl _ _).alloc (Nat.le_refl _) _)
  go_wp2_with fail
  rw [← hW3, ← hbm]
  clear hW3 hmm hbm
  have hw2s := HB2.out.size
  go_loopw [42] (fun i wr => ∃ k : Nat, k ≤ N ∧ i = .int .i64 k ∧ Bx (∃ q, q ≤ k * 100000 ∧ OwnF wr kS rdB edB bm q (exF (exL (nds l) (D - 1) k))) ∧ Bx (Below bm w2 wr)) (fun i _ => N - (intOf i).toNat)
  case atStart => exact ⟨0, by omega, rfl, ⟨_, by omega, HM0.out⟩, HB3⟩
  case round =>
    clear HM0 HB3
    obtain ⟨k, hk, rfl, hM, hBw⟩ := hrel
    have HBW := Bx.mk (HB2.out.trans (hBw.out.mono (by have := HBM.out; omega)))
    by_cases hlt : k < N
    · have hkl : k < l.length := by rw [← HN.out]; exact hlt
      obtain ⟨b, o, rfl, hbl, c0, c1, c2, c3⟩ := HC.out wr HBW.out k hkl
      have HX := Bx.mk (show (nds l)[k]! = (l[k]).n from nds_at l k hkl)
      have HXA := Bx.mk (HL.out.at_ l[k] (List.getElem_mem hkl))
      obtain ⟨x, hx⟩ : ∃ x, x = l[k] := ⟨_, rfl⟩
      rw [← hx] at c0 c1 c2 c3 HX HXA
      obtain ⟨ua, uc, hu, -⟩ := HXA.out.1.form
      have HXC := Bx.mk (show ∀ W : World, Below w.heap.size w W → ∀ j (hj : j < x.n.ex.length), ∃ b o, ua = some ⟨b, o, none⟩ ∧ b < w.heap.size ∧ W.cell? ⟨b, o + j, none⟩ = some (.string (bstr x.n.ex[j])) from (strs_cells (hu ▸ HXA.out.1)).2)
      rw [hu] at c3
      have HXS := Bx.mk (exL_succ (nds l) (D - 1) k (by rw [nds_len]; exact hkl))
      rw [HX.out] at HXS
      obtain ⟨M, hMx⟩ : ∃ M, M = x.n.ex.length := ⟨_, rfl⟩
      rw [← hMx] at c3
      have HMX := Bx.mk hMx
      have hM1 : M ≤ 100000 := by rw [hMx]; exact HXA.out.2.1.1
      clear hx hbl hu hMx hkl
      obtain ⟨W1, hW1⟩ : ∃ W1, W1 = wr.alloc (.cells #[.int .i64 x.n.d, .int .i64 x.n.p, .string (bstr x.n.pol), .slice ua M uc] 56) := ⟨_, rfl⟩
      obtain ⟨bn, hbn⟩ : ∃ bn, bn = wr.heap.size := ⟨_, rfl⟩
      have hq1 : W1.heap[bn]? = some (.cells #[.int .i64 x.n.d, .int .i64 x.n.p, .string (bstr x.n.pol), .slice ua M uc] 56 (0, 0)) := by rw [hW1, hbn]; exact heap_alloc_new _ _
      have HBA := Bx.mk (show Below wr.heap.size wr W1 by rw [hW1]; exact (Below.refl _ _).alloc (Nat.le_refl _) _)
      have hsz := hBw.out.size
      have HBWA := Bx.mk (show Below bm w2 W1 from hBw.out.trans (HBA.out.mono (by have := HBM.out; omega)))
      have HMA := Bx.mk (show ∃ q, q ≤ k * 100000 ∧ OwnF W1 kS rdB edB bm q (exF (exL (nds l) (D - 1) k)) by
        obtain ⟨q, hq, ho⟩ := hM.out
        exact ⟨q, hq, ho.below HBA.out⟩)
      go_upto_region 9 with fail
      rw [← hW1, ← hbn]
      clear hW1 hbn c0 c1 c2 c3
      have m0 := cell_of_row _ _ 0 _ _ _ hq1
      have m3 := cell_of_row _ _ 3 _ _ _ hq1
      simp only [List.getElem?_toArray, List.getElem?_cons_zero, List.getElem?_cons_succ] at m0 m3
      clear hq1 hsz
      by_cases td : x.n.d = D - 1
      · have tq : (x.n.d == D - 1) = true := by simp [td]
        rw [if_pos td] at HXS
        clear td
        go_wp2_with fail
        go_loopw [54] (fun i wr2 => ∃ j : Nat, j ≤ M ∧ i = .int .i64 j ∧ Bx (∃ q, q ≤ k * 100000 + j ∧ OwnF wr2 kS rdB edB bm q (exF (exL (nds l) (D - 1) k ++ x.n.ex.take j))) ∧ Bx (Below bm w2 wr2)) (fun i _ => M - (intOf i).toNat)
        case atStart => exact ⟨0, by omega, rfl, ⟨by simpa using HMA.out⟩, HBWA⟩
        case round =>
          clear HMA HBWA m0 m3 tq
          obtain ⟨j, hj, rfl, hM2, hBw2⟩ := hrel
          by_cases hjm : j < M
          · have hjl : j < x.n.ex.length := by rw [← HMX.out]; exact hjm
            obtain ⟨bx, ox, rfl, -, cx⟩ := HXC.out wr (HB2.out.trans (hBw2.out.mono (by have := HBM.out; omega))) j hjl
            have hpl2 := HXA.out.2.1.2 x.n.ex[j] (List.getElem_mem hjl)
            have HTK := Bx.mk (show x.n.ex.take (j + 1) = x.n.ex.take j ++ [x.n.ex[j]] from List.take_succ_eq_append_getElem hjl)
            obtain ⟨p, hpp⟩ : ∃ p, p = x.n.ex[j] := ⟨_, rfl⟩
            rw [← hpp] at cx hpl2 HTK
            obtain ⟨q, hq, ho⟩ := hM2.out
            obtain ⟨w5, hrun, ho5, hg5⟩ := ho.putS u_mapSB (by unfold maxLen; omega) (k := p) (by unfold maxLen; omega) true (.bool true) (rdB_mk _)
            have hrun' : (Instr.mapUpdate 66 (.map (some bm)) (.string (bstr p)) (.bool true)).run Try.prog wr = .ok () w5 := hrun
            have HO5 := Bx.mk (show OwnF w5 kS rdB edB bm (q + 1) (exF (exL (nds l) (D - 1) k ++ x.n.ex.take (j + 1))) by rw [HTK.out, ← List.append_assoc, exF_snoc]; exact ho5)
            have HB5 := Bx.mk (show Below bm w2 w5 from hBw2.out.grown hg5 (by have := hBw2.out.size; have := HBM.out; omega) fun k hk => by simp only [Option.some.injEq] at hk; omega)
            have HQ := Bx.mk hq
            clear hpp hjl ho ho5 hg5 hrun hq
            generalize bstr p = PS at *
            go_wp2_with fail
            go_roundw
            case rel => exact ⟨j + 1, by omega, by go_num, ⟨_, by have := HQ.out; omega, HO5.out⟩, HB5⟩
            case measure => simp [intOf]; omega
          · obtain rfl : j = M := by omega
            have HM3 := Bx.mk (show ∃ q, q ≤ (k + 1) * 100000 ∧ OwnF wr kS rdB edB bm q (exF (exL (nds l) (D - 1) (k + 1))) by
              obtain ⟨q, hq, ho⟩ := hM2.out
              refine ⟨q, by omega, ?_⟩
              rw [HMX.out, List.take_length] at ho
              rw [HXS.out]; exact ho)
            go_wp2_with fail
            go_roundw
            case rel => exact ⟨k + 1, by omega, by go_num, HM3, hBw2⟩
            case measure => simp [intOf]; omega
      · have tq : (x.n.d == D - 1) = false := by simp [td]
        rw [if_neg td, List.append_nil] at HXS
        clear td
        have HM3 := Bx.mk (show ∃ q, q ≤ (k + 1) * 100000 ∧ OwnF W1 kS rdB edB bm q (exF (exL (nds l) (D - 1) (k + 1))) by
          obtain ⟨q, hq, ho⟩ := HMA.out
          have hq' : q ≤ (k + 1) * 100000 := Nat.le_trans hq (by rw [Nat.succ_mul]; exact Nat.le_add_right _ _)
          refine ⟨q, hq', ?_⟩
          rw [HXS.out]; exact ho)
        go_wp2_with fail
        go_roundw
        case rel => exact ⟨k + 1, by omega, by go_num, HM3, HBWA⟩
        case measure => simp [intOf]; omega
    · obtain rfl : N = k := by omega
      obtain ⟨w4, rfl⟩ : ∃ w4 : World, w4 = wr := ⟨_, rfl⟩
      have HMF := Bx.mk (show ∃ q, OwnF w4 kS rdB edB bm q (exF (exL (nds l) (D - 1) (nds l).length)) by
        obtain ⟨q, -, ho⟩ := hM.out
        exact ⟨q, by rw [nds_len, ← HN.out]; exact ho⟩)
      have hBww := HBW.out
      have HB24 := Bx.mk (show Below w2.heap.size w2 w4 by have := hBw.out; rw [HBM.out] at this; exact this)
      clear hM hBw
      go_wp2_with fail
      go_loopw [16, 64] (fun mv i wr => ∃ (k : Nat) (ml : List Nt), k ≤ N ∧ i = .int .i64 k ∧ ml.length ≤ 2048 ∧ Bx (GT w4 w4.heap.size wr mv ml) ∧ Bx (nds ml = moreK (nds l) D S A k)) (fun _ i _ => N - (intOf i).toNat)
      case atStart => exact ⟨0, [], by omega, rfl, by simp, ⟨GT.nil _ _ (Nat.le_refl _)⟩, ⟨by simp [moreK, nds]⟩⟩
      case round =>
        obtain ⟨k, ml, hk, rfl, hml, hG, hF⟩ := hrel
        have HBW2 := Bx.mk (hBww.trans (hG.out.bel.mono hBww.size))
        obtain ⟨av, cv, rfl, -⟩ := hG.out.form
        by_cases hlt : k < N
        · have hkl : k < l.length := by rw [← HN.out]; exact hlt
          obtain ⟨b, o, rfl, hbl, c0, c1, c2, c3⟩ := HC.out wr HBW2.out k hkl
          have HX := Bx.mk (show (nds l)[k]! = (l[k]).n from nds_at l k hkl)
          have HXA := Bx.mk (HL.out.at_ l[k] (List.getElem_mem hkl))
          obtain ⟨x, hx⟩ : ∃ x, x = l[k] := ⟨_, rfl⟩
          rw [← hx] at c0 c1 c2 c3 HX HXA
          have HMS := Bx.mk (moreK_succ (nds l) D S A k)
          rw [HX.out] at HMS
          simp only [Sl.val] at c3
          clear hx hbl hkl
          obtain ⟨W1, hW1⟩ : ∃ W1, W1 = wr.alloc (.cells #[.int .i64 x.n.d, .int .i64 x.n.p, .string (bstr x.n.pol), .slice x.u.ad x.u.n x.u.c] 56) := ⟨_, rfl⟩
          obtain ⟨bn, hbn⟩ : ∃ bn, bn = wr.heap.size := ⟨_, rfl⟩
          have hq1 : W1.heap[bn]? = some (.cells #[.int .i64 x.n.d, .int .i64 x.n.p, .string (bstr x.n.pol), .slice x.u.ad x.u.n x.u.c] 56 (0, 0)) := by rw [hW1, hbn]; exact heap_alloc_new _ _
          have HBA := Bx.mk (show Below wr.heap.size wr W1 by rw [hW1]; exact (Below.refl _ _).alloc (Nat.le_refl _) _)
          have HGA := Bx.mk (hG.out.below HBA.out)
          have hBA0 : Below w.heap.size w W1 := HBW2.out.trans (HBA.out.mono HBW2.out.size)
          have HBA0 := Bx.mk hBA0
          go_upto_region 20 with fail
          rw [← hW1, ← hbn]
          clear hW1 hbn c0 c1 c2 c3
          have m0 := cell_of_row _ _ 0 _ _ _ hq1
          have m1 := cell_of_row _ _ 1 _ _ _ hq1
          have m2 := cell_of_row _ _ 2 _ _ _ hq1
          have m3 := cell_of_row _ _ 3 _ _ _ hq1
          simp only [List.getElem?_toArray, List.getElem?_cons_zero, List.getElem?_cons_succ] at m0 m1 m2 m3
          clear hq1
          by_cases td : x.n.d < D - 1
          · have tq : decide (x.n.d < D - 1) = true := decide_eq_true td
            rw [if_pos td, List.append_nil] at HMS
            have HF2 := Bx.mk (show nds ml = moreK (nds l) D S A (k + 1) by rw [hF.out, HMS.out])
            clear td
            go_wp2_with fail
            go_roundw
            case rel => exact ⟨k + 1, ml, by omega, by go_num, hml, HGA, HF2⟩
            case measure => simp [intOf]; omega
          · have tq : decide (x.n.d < D - 1) = false := decide_eq_false td
            rw [if_neg td] at HMS
            clear td
            obtain ⟨qm, hqm⟩ := HMF.out
            have h24 := HB24.out.size
            have h2W : Below w2.heap.size w2 W1 := (HB24.out.trans (hG.out.bel.mono h24)).trans (HBA.out.mono (Nat.le_trans h24 hG.out.bel.size))
            have h4W : Below w4.heap.size w4 W1 := hG.out.bel.trans (HBA.out.mono hG.out.bel.size)
            have HSX := Bx.mk (show ∀ p ∈ S, p.length ≤ 1000000 from fun p hp => HPX.out p (setB_mem.1 (HS.out ▸ hp)))
            have hch := children_any W1 x (.slice a2 S.length c2) S bm qm _ A (HXA.out.below hBA0) (HO2.out.rd.below h2W) hSl HSX.out (hqm.below h4W)
            rw [child_want] at hch
            unfold nodV at hch
            simp only [Sl.val] at hch
            obtain ⟨C, hC⟩ : ∃ C, C = childP (nds l) D x.n S A := ⟨_, rfl⟩
            rw [← hC] at hch HMS
            have HCX := Bx.mk (show ∀ p ∈ C, p.length ≤ 1000000 from fun p hp => by
              rw [hC] at hp
              rcases childP_mem.1 hp with ⟨q, -⟩ | ⟨-, q⟩
              · exact HSX.out p q
              · exact HXA.out.2.1.2 p q)
            have HCL := Bx.mk (show C.length ≤ 200000 by
              rw [hC]; unfold childP
              have h1 := setB_length (S.filter (wantP (nds l) D x.n) ++ if A then x.n.ex else [])
              have h2 := List.length_filter_le (wantP (nds l) D x.n) S
              have h3 := HXA.out.2.1.1
              rw [List.length_append] at h1
              have h4 : (if A = true then x.n.ex else []).length ≤ x.n.ex.length := by split <;> simp
              omega)
            have HW1s := Bx.mk h4W.size
            clear hqm h2W h4W h24 hC
            go_wp2_with fail
            go_at_call 40
            refine hch.mono ?_
            rintro e w5 ⟨v5, rfl, ho5, hb5⟩
            obtain ⟨a5, c5, rfl, -⟩ := ho5.rd.form
            have HG5 := Bx.mk (HGA.out.below hb5)
            have HRI := Bx.mk (show RdIn w5 (fun k => (Value.slice av ml.length cv).ownBlock ≠ some k) encS (.slice a5 C.length c5) C from ⟨ho5.rd, fun j hj e => by
              have h1 := (ho5.lt j hj).1
              have h2 := (HGA.out.to.own.lt j e).2
              omega⟩)
            obtain ⟨CL, hCL⟩ : ∃ n, n = C.length := ⟨_, rfl⟩
            have HCN := Bx.mk hCL
            have hcl : CL ≤ 200000 := by rw [hCL]; exact HCL.out
            rw [← hCL] at HRI ⊢
            clear hch ho5 hb5 hBA0 m0 m1 m2 m3 hCL tq
            go_wp2_with fail
            go_loopw [16, 80] (fun mv i wr2 => ∃ (j : Nat) (m2 : List Nt), j ≤ CL ∧ i = .int .i64 j ∧ m2.length ≤ 2048 + j ∧ Bx (GT w4 w4.heap.size wr2 mv m2) ∧ Bx (nds m2 = nds ml ++ (C.take j).map (newN D (k : Nat))) ∧ Bx (RdIn wr2 (fun k => mv.ownBlock ≠ some k) encS (.slice a5 CL c5) C)) (fun _ i _ => CL - (intOf i).toNat)
            case atStart => exact ⟨0, ml, by omega, rfl, by omega, HG5, ⟨by simp⟩, HRI⟩
            case round =>
              clear HG5 HRI
              obtain ⟨j, m2, hj, rfl, hm2, hG2, hF2, hRI⟩ := hrel
              obtain ⟨av2, cv2, rfl, -⟩ := hG2.out.form
              by_cases hjc : j < CL
              · have hjl : j < C.length := by rw [← HCN.out]; exact hjc
                obtain ⟨bx, ox, rfl, -, cx⟩ := (strs_cells hRI.out.1).2 wr (Below.refl _ _) j hjl
                have HTK := Bx.mk (show C.take (j + 1) = C.take j ++ [C[j]] from List.take_succ_eq_append_getElem hjl)
                have hpl2 := HCX.out C[j] (List.getElem_mem hjl)
                obtain ⟨p, hpp⟩ : ∃ p, p = C[j] := ⟨_, rfl⟩
                rw [← hpp] at cx HTK hpl2
                obtain ⟨y, hy, hyn, hys⟩ := new_node wr D (k : Nat) p hpl2
                have hb2 : Below wr.heap.size wr ((wr.alloc (.cells #[.string (bstr p)] 9)).alloc (.cells #[.int .i64 D, .int .i64 (k : Nat), .string (bstr p), .slice (some ⟨wr.heap.size, 0, none⟩) 1 1] 56)) := ((Below.refl _ _).alloc (Nat.le_refl _) _).alloc (by simp) _
                have HGB := Bx.mk (hG2.out.below hb2)
                have HRB := Bx.mk (RdIn.below hRI.out hb2)
                have HYN := Bx.mk (hyn.mono (S' := fun k => (Value.slice av2 m2.length cv2).ownBlock ≠ some k) fun k _ hk e => by
                  have := (hG2.out.to.own.lt k e).2
                  have hk' : k = wr.heap.size := hk
                  omega)
                have HYE := Bx.mk (show y.n = newN D (k : Nat) p by rw [hy])
                have HYS := Bx.mk hys
                have hm1 : m2.length + 1 ≤ maxLen := by unfold maxLen; omega
                have hmb : (m2.length + 1) * 56 ≤ 140737488355328 := by omega
                have hbz := HGB.out.sz
                clear hpp hjl hpl2 hy hyn hys hb2
                generalize hps : bstr p = PS at *
                clear hps
                go_wp2_with (at_builtin; refine wpList_append_any rfl _ _ _ rfl w4.heap.size 56 i0 _ 4 56 und_nodes hi0 hz0 hz1 hz2 rfl (by decide) _ m2.length (m2.flatMap encN) rfl HGB.out.to.own _ 1 ([y].flatMap encN) rfl HYS.out hm1 hmb hbz ?_)
                intro v9 w9 hapd
                have HG9 := Bx.mk (HGB.out.apd (m := [y]) (fun z hz => by rw [List.mem_singleton] at hz; subst hz; exact HYN.out) rfl rfl rfl rfl hapd)
                have HR9 := Bx.mk (RdIn.apd HRB.out hapd)
                have HF9 := Bx.mk (show nds (m2 ++ [y]) = nds ml ++ (C.take (j + 1)).map (newN D (k : Nat)) by rw [HTK.out, List.map_append, ← List.append_assoc, ← hF2.out]; simp [nds, HYE.out])
                clear hapd hm1 hmb hbz
                go_wp2_with fail
                go_roundw
                case rel => exact ⟨j + 1, m2 ++ [y], by omega, by go_num, by simp; omega, HG9, HF9, HR9⟩
                case measure => simp [intOf]; omega
              · obtain rfl : j = CL := by omega
                have HFF := Bx.mk (show nds m2 = moreK (nds l) D S A (k + 1) by rw [hF2.out, HMS.out, hF.out, HCN.out, List.take_length])
                have HBWF := Bx.mk (show Below w.heap.size w wr from hBww.trans (hG2.out.bel.mono hBww.size))
                by_cases hlim : 2048 < N + m2.length
                · have tl : decide ((N : Int) + (m2.length : Int) > 2048) = true := decide_eq_true (by omega)
                  have HFR := Bx.mk (show R = ([], 2) by
                    rw [HRR.out]
                    simp only [Bool.not_true, Bool.false_eq_true, if_false]
                    have h1 := congrArg List.length HFF.out
                    rw [nds_len] at h1
                    have h2 := moreK_mono (nds l) D S A (show k + 1 ≤ N by omega)
                    rw [← HS.out, ← HA.out, nds_len, ← HN.out, if_pos (by omega)])
                  clear hlim
                  go_wp2_with fail
                  go_ret2
                  exact ⟨_, [], by rw [HFR.out]; rfl, TO.nil _ _, by rw [HFR.out]; rfl, HBWF.out⟩
                · have tl : decide ((N : Int) + (m2.length : Int) > 2048) = false := decide_eq_false (by omega)
                  have hm2l : m2.length ≤ 2048 := by omega
                  clear hlim
                  go_wp2_with fail
                  go_roundw
                  case rel => exact ⟨k + 1, m2, by omega, by go_num, hm2l, hG2, HFF⟩
                  case measure => simp [intOf]; omega
        · obtain rfl : N = k := by omega
          have hgr := grown_any wr (.slice ad l.length c) (.slice av ml.length cv) l ml (HL.out.below HBW2.out) hG.out.to.tl (by have := HN.out; omega) (by omega)
          rw [← HN.out] at hgr
          have HFF := Bx.mk (show nds ml = moreE (nds l) D ps cnt by rw [hF.out]; unfold moreE allE; rw [nds_len, ← HN.out, HA.out, HS.out])
          clear hF hG
          go_wp2_with fail
          go_at_call 41
          refine hgr.mono ?_
          rintro e w6 (⟨hlen, rfl, hb6⟩ | ⟨hlen, v6, l6, rfl, ho6, hn6, hb6⟩)
          · have HFR := Bx.mk (show R = ([], 2) by
              rw [HRR.out]
              simp only [Bool.not_true, Bool.false_eq_true, if_false]
              have h1 := congrArg List.length HFF.out
              unfold moreE allE at h1
              rw [nds_len] at h1
              rw [nds_len] at h1 ⊢
              rw [if_pos (by omega)])
            have HB6 := Bx.mk (HBW2.out.trans (hb6.mono HBW2.out.size))
            clear hgr hb6
            go_wp2_with fail
            go_ret2
            exact ⟨_, [], by rw [HFR.out]; rfl, TO.nil _ _, by rw [HFR.out]; rfl, HB6.out⟩
          · rw [HFF.out] at hn6
            have hlm : (nds l).length + (moreE (nds l) D ps cnt).length ≤ 2048 := by rw [← HFF.out, nds_len, nds_len]; exact hlen
            obtain ⟨e1, e2, e3⟩ := enter_stay HVV.out h1' ps cnt hlm
            rw [← hn6] at e1 e2 e3
            have hl6 : l6.length ≤ 5000 := by
              have h1 := congrArg List.length hn6
              rw [nds_len, sort_ins HVV.out.srt, insL_length] at h1
              omega
            have hpr := prune_any w6 v6 l6 ho6.tl hl6 (fun i hi => e3.pge i (by rw [nds_len]; exact hi)) D
            have HFR := Bx.mk (show R = (pruneP (nds l6) D, 0) by rw [HR.out]; exact e1)
            have HB6 := Bx.mk (HBW2.out.trans (hb6.mono HBW2.out.size))
            obtain ⟨a6, c6, rfl, -⟩ := ho6.own.rd.form
            clear hgr hb6 ho6 hn6 hlm e1 e2 e3
            go_wp2_with fail
            go_at_call 42
            refine hpr.mono ?_
            rintro e w7 ⟨v7, l7, rfl, ho7, hn7, hb7⟩
            obtain ⟨a7, c7, rfl, -⟩ := ho7.own.rd.form
            have HO7 := Bx.mk (ho7.mono HB6.out.size)
            have HN7 := Bx.mk hn7
            have HB7 := Bx.mk (HB6.out.trans (hb7.mono HB6.out.size))
            clear hpr ho7 hn7 hb7
            go_wp2_with fail
            go_ret2
            exact ⟨_, l7, by rw [HFR.out]; rfl, HO7.out, by rw [HFR.out, HN7.out], HB7.out⟩
end Go.Proofs.Ytmagjdocondmhaa.Tr
