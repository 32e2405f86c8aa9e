/-
  The reference's TreeEnter.
-/
/-
  The reference's TreeMap.
-/
import Derived.Test.YtmagjdocondmhaaTrRefV
import Derived.Test.YtmagjdocondmhaaTrRefI
import Derived.Test.YtmagjdocondmhaaTrEnter
import Derived.Test.YtmagjdocondmhaaTrRefM
namespace Go.Proofs.Ytmagjdocondmhaa.Tr
open Go Go.RowKit Go.Proofs.Ytmagjdocondmhaa.Slc Go.Proofs.Ytmagjdocondmhaa.St Go.Proofs.Ytmagjdocondmhaa.Mp Go.Proofs.Ytmagjdocondmhaa.Rg
set_option linter.unusedVariables false
set_option linter.unusedSimpArgs false
attribute [local go_sem] Oper.semAt_some

/-- the reference's tree that grows -/
structure RI (w : World) (l : List Nt) (D : Int) (wr : World) (ov : Value) (xs : List Nd) : Prop where
  ex : ∃ l', TO wr w.heap.size ov l' ∧ nds l' = insL (nds l) xs
  dd : ∀ n ∈ xs, n.d = D
  bel : Below w.heap.size w wr
section
variable {w wr w' : World} {l : List Nt} {D : Int} {ov : Value} {xs : List Nd}
theorem RI.below (h : RI w l D wr ov xs) (hb : Below wr.heap.size wr w') : RI w l D w' ov xs :=
  ⟨by obtain ⟨l', h1, h2⟩ := h.ex; exact ⟨l', h1.below hb, h2⟩, h.dd, h.bel.trans (hb.mono h.bel.size)⟩
theorem RI.list (h : RI w l D wr ov xs) : ∃ l', TO wr w.heap.size ov l' ∧ nds l' = insL (nds l) xs ∧ l'.length = l.length + xs.length := by
  obtain ⟨l', h1, h2⟩ := h.ex
  have := congrArg List.length h2
  rw [nds_len, insL_length, nds_len] at this
  exact ⟨l', h1, h2, this⟩
theorem RI.form (h : RI w l D wr ov xs) : ∃ T ad c, T = l.length + xs.length ∧ ov = .slice ad T c := by
  obtain ⟨l', h1, h2, h3⟩ := h.list
  obtain ⟨ad, c, e, -⟩ := h1.own.rd.form
  exact ⟨_, ad, c, h3, e⟩
theorem ri_insertB (h : RI w l D wr ov xs) (hs : Srt ltT (nds l)) (hd : ∀ n ∈ nds l, n.d ≤ D) (hlen : l.length + xs.length ≤ 100000) (y : Nd) (hy : y.d = D) (u : Sl) (w1 : World) (hb1 : Below wr.heap.size wr w1) (hx : NtAt w1 ⟨y, u⟩) :
    Calls Try.prog 44 #[ov, .agg #[.int .i64 y.d, .int .i64 y.p, .string (bstr y.pol), .slice u.ad u.n u.c]] w1 fun e w' => ∃ v', e = .returned v' ∧ RI w l D w' v' (xs ++ [y]) ∧ Below w1.heap.size w1 w' := by
  obtain ⟨l', h1, h2, h3⟩ := h.list
  have hc := rinsert_any w1 ov l' _ (h1.tl.below hb1) hx (by omega) (by rw [h2]; exact insL_srt hs xs) (by
    rw [h2]; intro n hn
    show n.d ≤ y.d
    rw [hy]
    rcases insL_mem.1 hn with q | q
    · exact hd n q
    · rw [h.dd n q]; exact Int.le_refl _)
  refine Calls.mono hc ?_
  rintro e w2 ⟨v2, l2, rfl, ho, hn2, hb2⟩
  have hb3 := hb1.trans (hb2.mono hb1.size)
  refine ⟨v2, rfl, ⟨⟨l2, ho.mono (Nat.le_trans h.bel.size hb1.size), by rw [hn2, h2, insL_snoc]⟩, ?_, h.bel.trans (hb3.mono h.bel.size)⟩, hb2⟩
  intro n hn
  rcases List.mem_append.1 hn with q | q
  · exact h.dd n q
  · rw [List.mem_singleton] at q; subst q; exact hy
theorem ri_insert (h : RI w l D wr ov xs) (hs : Srt ltT (nds l)) (hd : ∀ n ∈ nds l, n.d ≤ D) (hlen : l.length + xs.length ≤ 100000) (y : Nd) (hy : y.d = D) (u : Sl) (w1 : World) (hb1 : Below wr.heap.size wr w1) (hx : NtAt w1 ⟨y, u⟩) :
    Calls Try.prog 44 #[ov, .agg #[.int .i64 y.d, .int .i64 y.p, .string (bstr y.pol), .slice u.ad u.n u.c]] w1 fun e w' => ∃ v', e = .returned v' ∧ RI w l D w' v' (xs ++ [y]) :=
  (ri_insertB h hs hd hlen y hy u w1 hb1 hx).mono fun _ _ ⟨v, h1, h2, _⟩ => ⟨v, h1, h2⟩
theorem ri_new (h : RI w l D wr ov xs) (hs : Srt ltT (nds l)) (hd : ∀ n ∈ nds l, n.d ≤ D) (hlen : l.length + xs.length ≤ 100000) (i : Int) (p : B) (hp : p.length ≤ 1000000) :
    Calls Try.prog 44 #[ov, .agg #[.int .i64 D, .int .i64 i, .string (bstr p), .slice (some ⟨wr.heap.size, 0, none⟩) 1 1]] (wr.alloc (.cells #[.string (bstr p)] 9)) fun e w' => ∃ v', e = .returned v' ∧ RI w l D w' v' (xs ++ [newN D i p]) := by
  refine ri_insert h hs hd hlen (newN D i p) rfl ⟨some ⟨wr.heap.size, 0, none⟩, 1, 1⟩ _ ((Below.refl _ _).alloc (Nat.le_refl _) _) ⟨?_, ⟨by simp [newN], fun b hb => ?_⟩, hp⟩
  · exact (own_alloc (Bk := wr.heap.size) (e := 9) encS_ok wr [p] #[.string (bstr p)] rfl (Nat.le_refl _) (by unfold maxLen; simp)).rd
  · have hb' : b ∈ [p] := hb
    rw [List.mem_singleton] at hb'
    rw [hb']; exact hp
end
/-- a copy of a tree -/
theorem ri_copy {w wr : World} {v : Value} {l : List Nt} {D : Int} (h : ∀ x ∈ l, NtAt w x) (hb : Below w.heap.size w wr) (ho : Slc.Own wr w.heap.size 56 4 encN v l) : RI w l D wr v [] :=
  ⟨⟨l, TO.of ho (Nat.le_refl _) hb h, rfl⟩, fun n hn => (by cases hn), hb⟩
theorem r1L_succ (t : List Nd) (D : Int) (S : List B) (k : Nat) (hk : k < S.length) : r1L t D (S.take (k + 1)) = r1L t D (S.take k) ++ if S[k] = anyP then [] else r1P t D S[k] := by
  unfold r1L
  rw [List.take_succ_eq_append_getElem hk, List.flatMap_append]
  simp
theorem ksP_succ (t : List Nd) (D : Int) (p : B) (k : Nat) : ksP t D p (k + 1) = ksP t D p k ++ if decide (t[k]!.d = D - 1) && decide (p ∈ t[k]!.ex) then [k] else [] := by
  unfold ksP
  rw [List.range_succ, List.filter_append]
  cases h : (decide (t[k]!.d = D - 1) && decide (p ∈ t[k]!.ex)) <;> simp [List.filter_cons, h, -List.getElem!_eq_getElem?_getD]
theorem ksP_len (t : List Nd) (D : Int) (p : B) (k : Nat) : (ksP t D p k).length ≤ k := by
  unfold ksP
  exact Nat.le_trans (List.length_filter_le _ _) (by simp)
theorem r1P_len (t : List Nd) (D : Int) (p : B) : (r1P t D p).length ≤ t.length := by
  unfold r1P
  split
  · split
    · rename_i h
      obtain ⟨i, hi, -⟩ := idxP_some h
      simp; omega
    · simp
  · rw [List.length_map]; exact ksP_len _ _ _ _
theorem r1L_len (t : List Nd) (D : Int) : ∀ (S : List B), (r1L t D S).length ≤ S.length * t.length
  | [] => by simp [r1L]
  | p :: S => by
    have h1 := r1L_len t D S
    have h2 := r1P_len t D p
    have e : r1L t D (p :: S) = (if p = anyP then [] else r1P t D p) ++ r1L t D S := by simp [r1L]
    rw [e, List.length_append, List.length_cons, Nat.succ_mul]
    split
    · simp; try omega
    · omega
theorem r2I_snoc (t : List Nd) (D : Int) (k : Nat) (xs : List Nd) (ps : List B) (j : Nat) (hj : j < ps.length) : r2I t D k xs (ps.take (j + 1)) = if kidB (t ++ r2I t D k xs (ps.take j)) (k : Nat) ps[j] then r2I t D k xs (ps.take j) else r2I t D k xs (ps.take j) ++ [newN D (k : Nat) ps[j]] := by
  unfold r2I
  rw [List.take_succ_eq_append_getElem hj, List.foldl_append]; rfl
theorem r2I_len (t : List Nd) (D : Int) (k : Nat) : ∀ (ps : List B) (xs : List Nd), (r2I t D k xs ps).length ≤ xs.length + ps.length
  | [], xs => by simp [r2I]
  | p :: ps, xs => by
    have e : r2I t D k xs (p :: ps) = r2I t D k (if kidB (t ++ xs) (k : Nat) p then xs else xs ++ [newN D (k : Nat) p]) ps := rfl
    rw [e]
    refine Nat.le_trans (r2I_len t D k ps _) ?_
    split
    · simp; try omega
    · simp; try omega
theorem r2L_len (t : List Nd) (D : Int) (xs : List Nd) (E : Nat) (hE : ∀ n ∈ t, n.ex.length ≤ E) : ∀ k, k ≤ t.length → (r2L t D xs k).length ≤ xs.length + k * E
  | 0, _ => by simp [r2L]
  | k + 1, hk => by
    have h1 := r2L_len t D xs E hE k (by omega)
    rw [Nat.succ_mul, r2L]
    split
    · have h2 := r2I_len t D k t[k]!.ex (r2L t D xs k)
      have h3 := hE _ (mem_at.2 ⟨k, by omega, rfl⟩)
      omega
    · omega
theorem len1 {N P E k m : Nat} (hk : k < P) (hm : m < N) (h : N * (P + E + 1) ≤ 100000) {a : Nat} (ha : a ≤ k * N) {b : Nat} (hb : b ≤ m) : N + (a + b) ≤ 100000 := by
  have h1 : N * (k + 1 + 1) ≤ N * (P + E + 1) := Nat.mul_le_mul_left _ (by omega)
  rw [Nat.mul_comm N (k + 1 + 1), Nat.succ_mul, Nat.succ_mul] at h1
  omega
theorem len2 {N P E k j : Nat} (hk : k < N) (hj : j < E) (h : N * (P + E + 1) ≤ 100000) {x a b : Nat} (hx : x ≤ P * N) (ha : a ≤ x + k * E) (hb : b ≤ a + j) : N + b ≤ 100000 := by
  have h1 : (k + 1) * E ≤ N * E := Nat.mul_le_mul_right _ (by omega)
  rw [Nat.succ_mul] at h1
  rw [Nat.mul_add, Nat.mul_add, Nat.mul_comm N P] at h
  omega
set_option maxRecDepth 100000 in
set_option maxHeartbeats 4000000 in
theorem renter_any (w : World) (v pv : Value) (l : List Nt) (ps : List B) (h : TL w v l) (hp : Rd w encS pv ps) (E : Nat) (hE : ∀ n ∈ nds l, n.ex.length ≤ E) (hn : l.length * (ps.length + E + 1) ≤ 100000) (hpl : ps.length ≤ 100000) (hpx : ∀ p ∈ ps, p.length ≤ 1000000) (D : Int) (hD : I64 D) (cnt : Bool) :
    Calls Try.prog 22 #[v, .int .i64 D, pv, .bool cnt] w fun e w' => EnP w (renterP (nds l) D ps cnt) e w' := by
  obtain ⟨i0, hi0, hz0, hz1, hz2⟩ := info_parts info_node
  have hln : l.length ≤ 100000 := Nat.le_trans (Nat.le_mul_of_pos_right _ (by omega)) hn
  have hval := rvalid_any w v l h hln (D - 1)
  obtain ⟨ad, c, rfl, -⟩ := h.rd.form
  obtain ⟨pd, pc, rfl, -⟩ := hp.form
  obtain ⟨R, hR⟩ : ∃ R, R = renterP (nds l) D ps cnt := ⟨_, rfl⟩
  rw [← hR]
  have HR := Bx.mk hR
  have HL := Bx.mk h
  have HP := Bx.mk hp
  have HPX := Bx.mk hpx
  have HPL := Bx.mk hpl
  have HE := Bx.mk hE
  have HBND := Bx.mk hn
  have HLN := Bx.mk hln
  obtain ⟨N, hN⟩ : ∃ N, N = l.length := ⟨_, rfl⟩
  have HN := Bx.mk hN
  obtain ⟨PL, hPL⟩ : ∃ PL, PL = ps.length := ⟨_, rfl⟩
  have HPLL := Bx.mk hPL
  have hNb : N ≤ 100000 := by omega
  have hPb : PL ≤ 100000 := by omega
  rw [← hN] at hval ⊢
  rw [← hPL]
  clear h hp hpx hE hn hln hR hN hPL hpl
  by_cases hD1 : D < 1
  · have t0 : decide (D < 1) = true := decide_eq_true hD1
    have HFR := Bx.mk (show R = ([], 7) by rw [HR.out]; unfold renterP; rw [t0]; rfl)
    clear hval hD1
    go_enter Try.func22, Try.ntmps22
    go_wp2_with fail
    go_ret2
    exact ⟨_, [], by rw [HFR.out]; rfl, TO.nil _ _, by rw [HFR.out]; rfl, Below.refl _ _⟩
  have t0 : decide (D < 1) = false := decide_eq_false hD1
  obtain ⟨D1, hD1e⟩ : ∃ D1, D1 = D - 1 := ⟨_, rfl⟩
  have wD : IntKind.i64.wrap (D - 1) = D1 := by rw [hD1e]; exact IntWalk.i64_in _ (by obtain ⟨_, h2⟩ := hD; omega)
  rw [← hD1e] at hval
  have HD1 := Bx.mk hD1e
  have HDP := Bx.mk (show 1 ≤ D by omega)
  obtain ⟨V, hV⟩ : ∃ V, V = rvalidP (nds l) D1 := ⟨_, rfl⟩
  rw [← hV] at hval
  have HV := Bx.mk (show V = validB (nds l) (D - 1) by rw [hV, hD1e]; exact rvalid_eq _ _)
  clear hV hD1e hD1 hD
  go_enter Try.func22, Try.ntmps22
  go_wp2_with fail
  go_at_call 16
  refine hval.mono ?_
  rintro e w1 ⟨rfl, hb1⟩
  have HB1 := Bx.mk hb1
  clear hval hb1
  cases V with
  | false =>
    have HFR := Bx.mk (show R = ([], 7) by rw [HR.out]; unfold renterP; rw [← HV.out]; simp)
    go_wp2_with fail
    go_ret2
    exact ⟨_, [], by rw [HFR.out]; rfl, TO.nil _ _, by rw [HFR.out]; rfl, HB1.out⟩
  | true =>
  have HVV := Bx.mk ((valid_iff _ _).1 HV.out.symm)
  have HRR := Bx.mk (show R = if (insL (nds l) (renterX (nds l) D ps cnt)).length > 2048 then ([], 2) else (pruneP (insL (nds l) (renterX (nds l) D ps cnt)) D, 0) by
    rw [HR.out]; unfold renterP; rw [← HV.out, t0]; rfl)
  have hset := rset_any w1 _ ps (HP.out.below HB1.out) HPL.out
  rw [← HPLL.out] at hset
  go_wp2_with fail
  go_at_call 43
  refine hset.mono ?_
  rintro e w2 ⟨sv, rfl, hs2, hb2⟩
  clear hset
  obtain ⟨S, hS⟩ : ∃ S, S = setB ps := ⟨_, rfl⟩
  rw [← hS] at hs2
  have HS := Bx.mk hS
  obtain ⟨sa, sc, rfl, -⟩ := hs2.rd.form
  have HSC := Bx.mk (strs_cells hs2.rd).2
  have HSR := Bx.mk hs2.rd
  have HSX := Bx.mk (show ∀ p ∈ S, p.length ≤ 1000000 from fun p hp => HPX.out p (setB_mem.1 (by rw [← hS]; exact hp)))
  obtain ⟨SL, hSL⟩ : ∃ SL, SL = S.length := ⟨_, rfl⟩
  have HSL := Bx.mk hSL
  have hSLP : SL ≤ PL := by rw [hSL, hS, HPLL.out]; exact setB_length _
  rw [← hSL]
  have HB2 := Bx.mk (HB1.out.trans (hb2.mono HB1.out.size))
  have HL2 := Bx.mk (HL.out.below HB2.out)
  have HC := Bx.mk HL2.out.cells.2
  have HSRT := Bx.mk HVV.out.srt
  have HDD := Bx.mk (show ∀ n ∈ nds l, n.d ≤ D from fun n hn => by
    obtain ⟨i, hi, rfl⟩ := mem_at.1 hn
    have := HVV.out.le i hi
    omega)
  have HBD := Bx.mk (show N * (PL + E + 1) ≤ 100000 by rw [HN.out, HPLL.out]; exact HBND.out)
  have hr3 : (w2.alloc (.cells #[] 56)).heap[w2.heap.size]? = some (.cells #[] 56 (0, 0)) := heap_alloc_new _ _
  have hb3 : Below w2.heap.size w2 (w2.alloc (.cells #[] 56)) := (Below.refl _ _).alloc (Nat.le_refl _) _
  have HSRC := Bx.mk (show SrcV (w2.alloc (.cells #[] 56)) 4 (.slice ad N c) N (l.flatMap encN) by
    have := (HL2.out.rd.below hb3).src encN_ok
    rw [← HN.out] at this; exact this)
  have HB3 := Bx.mk hb3
  have hm1 : N ≤ maxLen := by unfold maxLen; omega
  have hm2 : N * 56 ≤ 140737488355328 := by omega
  have hz3 : w2.heap.size ≤ (w2.alloc (.cells #[] 56)).heap.size := hb3.size
  clear hS hSL hs2 hb2 hb3
  go_wp2_with (at_builtin; refine wpList_append_fresh rfl _ _ _ rfl w2.heap.size 56 i0 _ 4 56 und_nodes hi0 hz0 hz1 hz2 rfl (by decide) w2.heap.size rfl hr3 (Nat.le_refl _) hz3 _ N (l.flatMap encN) rfl HSRC.out hm1 hm2 ?_)
  intro v4 w4 hown hb4 _
  have HRI4 := Bx.mk (show RI w2 l D w4 v4 [] from ri_copy HL2.out.at_ (HB3.out.trans (hb4.mono (by first | omega | simp))) (Own.of (l := l) hown HN.out rfl))
  clear hown hb4 hr3 hm1 hm2 hz3 HSRC HB3
  obtain ⟨T4, a4, c4, hT4, rfl⟩ := HRI4.out.form
  have HT4 := Bx.mk hT4
  clear hT4
  go_upto_block 0 with fail
  go_cut [11] (fun ov wx => Bx (RI w2 l D wx ov (r1L (nds l) D S)))
  case first =>
    go_wp2_with fail
    go_loopw [11, 12] (fun ov i wr => ∃ (k : Nat) (xs : List Nd), k ≤ SL ∧ i = .int .i64 k ∧ Bx (RI w2 l D wr ov xs) ∧ Bx (xs = r1L (nds l) D (S.take k))) (fun _ i _ => SL - (intOf i).toNat)
    case atStart => exact ⟨0, [], by omega, rfl, HRI4, ⟨by simp [r1L]⟩⟩
    case round =>
      obtain ⟨k, xs, hk, rfl, hRI, hF⟩ := hrel
      obtain ⟨T, av, cv, hT, rfl⟩ := hRI.out.form
      have HT := Bx.mk hT
      clear hT
      by_cases hlt : k < SL
      · have hkl : k < S.length := by rw [← HSL.out]; exact hlt
        obtain ⟨b, o, rfl, hbl, c0⟩ := HSC.out wr hRI.out.bel k hkl
        have HSU := Bx.mk (r1L_succ (nds l) D S k hkl)
        have hpl2 : (S[k]).length ≤ 1000000 := HSX.out _ (List.getElem_mem hkl)
        obtain ⟨p, hpe⟩ : ∃ p, p = S[k] := ⟨_, rfl⟩
        rw [← hpe] at c0 HSU hpl2
        have HPP := Bx.mk hpl2
        have l3 := same_any p
        have hxl : xs.length ≤ k * N := by
          rw [hF.out]
          have := r1L_len (nds l) D (S.take k)
          rw [nds_len, ← HN.out, List.length_take] at this
          exact Nat.le_trans this (Nat.mul_le_mul_right _ (by omega))
        have HXL := Bx.mk hxl
        obtain ⟨P, hP⟩ : ∃ P, P = bstr p := ⟨_, rfl⟩
        have HPE := Bx.mk hP
        rw [← hP] at c0 l3
        clear hpe hkl hbl hpl2 hxl hP
        by_cases hpany : p = anyP
        · rw [decide_eq_true hpany] at l3
          have HF9 := Bx.mk (show xs = r1L (nds l) D (S.take (k + 1)) by rw [HSU.out, if_pos hpany, ← hF.out, List.append_nil])
          clear hpany
          go_wp2_with fail
          go_roundw
          case rel => exact ⟨k + 1, xs, by omega, by go_num, hRI, HF9⟩
          case measure => simp [intOf]; omega
        · rw [decide_eq_false hpany] at l3
          have HSV := Bx.mk (show r1L (nds l) D (S.take (k + 1)) = xs ++ r1P (nds l) D p by rw [HSU.out, if_neg hpany, ← hF.out])
          clear hpany
          go_upto_block 2 with fail
          clear c0 l3
          go_cut [11, 14] (fun ov fv wx => fv = .bool (decide (ksP (nds l) D p N ≠ [])) ∧ Bx (RI w2 l D wx ov (xs ++ (ksP (nds l) D p N).map fun (i : Nat) => newN D (i : Nat) p)))
          case first =>
            go_wp2_with fail
            go_loopw [11, 14, 15] (fun ov fv j wr2 => ∃ (m : Nat) (ys : List Nd) (F : Bool), m ≤ N ∧ j = .int .i64 m ∧ fv = .bool F ∧ Bx (F = decide (ksP (nds l) D p m ≠ [])) ∧ Bx (RI w2 l D wr2 ov ys) ∧ Bx (ys = xs ++ (ksP (nds l) D p m).map fun (i : Nat) => newN D (i : Nat) p)) (fun _ _ j _ => N - (intOf j).toNat)
            case atStart => exact ⟨0, xs, false, by omega, rfl, rfl, ⟨by simp [ksP]⟩, hRI, ⟨by simp [ksP]⟩⟩
            case round =>
              obtain ⟨m, ys, F, hm, rfl, rfl, hFF, hRI2, hY⟩ := hrel
              obtain ⟨T2, av2, cv2, hT2, rfl⟩ := hRI2.out.form
              have HT2 := Bx.mk hT2
              clear hT2
              by_cases hlt2 : m < N
              · have hml : m < l.length := by rw [← HN.out]; exact hlt2
                obtain ⟨b2, o2, rfl, hbl2, c0, c1, c2, c3⟩ := HC.out wr hRI2.out.bel m hml
                have HX := Bx.mk (show (nds l)[m]! = (l[m]).n from nds_at l m hml)
                have HXA := Bx.mk (HL2.out.at_ l[m] (List.getElem_mem hml))
                obtain ⟨x, hx⟩ : ∃ x, x = l[m] := ⟨_, rfl⟩
                rw [← hx] at c0 c1 c2 c3 HX HXA
                simp only [Sl.val] at c3
                have HKS := Bx.mk (ksP_succ (nds l) D p m)
                rw [HX.out, ← HD1.out] at HKS
                clear hx hbl2 hml
                by_cases hd : x.n.d = D1
                · have t1 : (x.n.d == D1) = true := by simpa using hd
                  have hin := in_any wr x.u.val x.n.ex p (HXA.out.1.below hRI2.out.bel) (by have := HXA.out.2.1.1; omega)
                  rw [← HPE.out] at hin
                  simp only [Sl.val] at hin
                  obtain ⟨IN, hIN⟩ : ∃ IN, IN = decide (p ∈ x.n.ex) := ⟨_, rfl⟩
                  rw [← hIN] at hin
                  rw [decide_eq_true hd, Bool.true_and, ← hIN] at HKS
                  clear hIN hd
                  go_wp2_with fail
                  go_at_call 33
                  refine hin.mono ?_
                  rintro e w5 ⟨rfl, rfl⟩
                  clear hin
                  cases IN with
                  | true =>
                    have hbnd : l.length + ys.length ≤ 100000 := by
                      rw [hY.out, ← HN.out, List.length_append, List.length_map]
                      exact len1 (Nat.lt_of_lt_of_le hlt hSLP) hlt2 HBD.out HXL.out (ksP_len _ _ _ _)
                    have hins := ri_new hRI2.out HSRT.out HDD.out hbnd (m : Nat) p HPP.out
                    rw [← HPE.out] at hins
                    clear hbnd
                    go_wp2_with fail
                    go_at_call 44
                    refine hins.mono ?_
                    rintro e w6 ⟨v6, rfl, hri6⟩
                    have HRI6 := Bx.mk hri6
                    obtain ⟨T6, a6, c6, hT6, rfl⟩ := hri6.form
                    clear hins hri6 hT6
                    have HF6 := Bx.mk (show true = decide (ksP (nds l) D p (m + 1) ≠ []) by rw [HKS.out]; simp)
                    have HY6 := Bx.mk (show ys ++ [newN D (m : Nat) p] = xs ++ (ksP (nds l) D p (m + 1)).map fun (i : Nat) => newN D (i : Nat) p by rw [HKS.out, hY.out]; simp)
                    go_wp2_with fail
                    go_roundw
                    case rel => exact ⟨m + 1, _, true, by omega, by go_num, rfl, HF6, HRI6, HY6⟩
                    case measure => simp [intOf]; omega
                  | false =>
                    have HF6 := Bx.mk (show F = decide (ksP (nds l) D p (m + 1) ≠ []) by rw [HKS.out, hFF.out]; simp)
                    have HY6 := Bx.mk (show ys = xs ++ (ksP (nds l) D p (m + 1)).map fun (i : Nat) => newN D (i : Nat) p by rw [HKS.out, hY.out]; simp)
                    go_wp2_with fail
                    go_roundw
                    case rel => exact ⟨m + 1, ys, F, by omega, by go_num, rfl, HF6, hRI2, HY6⟩
                    case measure => simp [intOf]; omega
                · have t1 : (x.n.d == D1) = false := by simpa using hd
                  rw [decide_eq_false hd, Bool.false_and] at HKS
                  have HF6 := Bx.mk (show F = decide (ksP (nds l) D p (m + 1) ≠ []) by rw [HKS.out, hFF.out]; simp)
                  have HY6 := Bx.mk (show ys = xs ++ (ksP (nds l) D p (m + 1)).map fun (i : Nat) => newN D (i : Nat) p by rw [HKS.out, hY.out]; simp)
                  clear hd
                  go_wp2_with fail
                  go_roundw
                  case rel => exact ⟨m + 1, ys, F, by omega, by go_num, rfl, HF6, hRI2, HY6⟩
                  case measure => simp [intOf]; omega
              · obtain rfl : m = N := by omega
                go_wp2_with fail
                go_meet
                exact ⟨by rw [hFF.out], ⟨by rw [← hY.out]; exact hRI2.out⟩⟩
          case rest =>
            obtain ⟨rfl, hri5⟩ := hcut
            obtain ⟨T5, av5, cv5, hT5, rfl⟩ := hri5.out.form
            have HT5 := Bx.mk hT5
            clear hT5
            have hspa := spat_any wc (.slice ad l.length c) l (HL2.out.below hri5.out.bel) (by have := HLN.out; omega) D1
            rw [← HN.out] at hspa
            obtain ⟨sp, hsp⟩ : ∃ sp, sp = spAt (nds l) D1 := ⟨_, rfl⟩
            rw [← hsp] at hspa
            have HSP := Bx.mk hsp
            obtain ⟨K, hK⟩ : ∃ K, K = ksP (nds l) D p N := ⟨_, rfl⟩
            have HK := Bx.mk hK
            rw [← hK] at hri5 ⊢
            have HR1P := Bx.mk (show r1P (nds l) D p = if K = [] then (if sp ≥ 0 then [newN D sp p] else []) else K.map fun (i : Nat) => newN D (i : Nat) p by
              unfold r1P; rw [nds_len, ← HN.out, ← hK, hsp, HD1.out])
            clear hK hsp
            go_wp2_with fail
            go_at_call 45
            refine hspa.mono ?_
            rintro e w6 ⟨rfl, rfl⟩
            clear hspa
            by_cases hKe : K = []
            · have t5 : decide (K ≠ []) = false := decide_eq_false (by simp [hKe])
              have HR1 := Bx.mk (show r1P (nds l) D p = if sp ≥ 0 then [newN D sp p] else [] by rw [HR1P.out, if_pos hKe])
              have HRI6 := Bx.mk (show RI w2 l D wc (.slice av5 T5 cv5) xs by have := hri5.out; rw [hKe] at this; simpa using this)
              rw [t5]
              clear t5 hKe HR1P hri5
              by_cases hsp0 : sp ≥ 0
              · have t6 : decide (sp ≥ 0) = true := decide_eq_true hsp0
                have t7 : decide (0 ≤ sp) = true := decide_eq_true hsp0
                have HF9 := Bx.mk (show xs ++ [newN D sp p] = r1L (nds l) D (S.take (k + 1)) by rw [HSV.out, HR1.out, if_pos hsp0])
                have hbnd : l.length + xs.length ≤ 100000 := by
                  obtain ⟨i, hi, -⟩ := idxP_some (show 0 ≤ idxP (nds l) (fun n => decide (n.d = D1) && spec n) from by have := HSP.out; unfold spAt at this; omega)
                  rw [nds_len, ← HN.out] at hi
                  have := len1 (m := i) (b := 0) (Nat.lt_of_lt_of_le hlt hSLP) hi HBD.out HXL.out (by omega)
                  rw [← HN.out]; simpa using this
                have hins := ri_new HRI6.out HSRT.out HDD.out hbnd sp p HPP.out
                rw [← HPE.out] at hins
                clear hbnd
                go_wp2_with fail
                go_at_call 44
                refine hins.mono ?_
                rintro e w6 ⟨v6, rfl, hri6⟩
                have HRI7 := Bx.mk hri6
                obtain ⟨T6, a6, c6, hT6, rfl⟩ := hri6.form
                clear hins hri6 hT6
                go_wp2_with fail
                go_roundw
                case rel => exact ⟨k + 1, _, by omega, by go_num, HRI7, HF9⟩
                case measure => simp [intOf]; omega
              · have t6 : decide (sp ≥ 0) = false := decide_eq_false hsp0
                have t7 : decide (0 ≤ sp) = false := decide_eq_false hsp0
                have HF9 := Bx.mk (show xs = r1L (nds l) D (S.take (k + 1)) by rw [HSV.out, HR1.out, if_neg hsp0, List.append_nil])
                go_wp2_with fail
                go_roundw
                case rel => exact ⟨k + 1, xs, by omega, by go_num, HRI6, HF9⟩
                case measure => simp [intOf]; omega
            · have t5 : decide (K ≠ []) = true := decide_eq_true hKe
              have HF9 := Bx.mk (show xs ++ K.map (fun (i : Nat) => newN D (i : Nat) p) = r1L (nds l) D (S.take (k + 1)) by rw [HSV.out, HR1P.out, if_neg hKe])
              rw [t5]
              clear t5 hKe HR1P
              go_wp2_with fail
              go_roundw
              case rel => exact ⟨k + 1, _, by omega, by go_num, hri5, HF9⟩
              case measure => simp [intOf]; omega
      · obtain rfl : k = SL := by omega
        go_wp2_with fail
        go_meet
        exact ⟨by have := hRI.out; rw [hF.out, HSL.out, List.take_length] at this; exact this⟩
  case rest =>
    have HRI5 := hcut
    obtain ⟨T5, av5, cv5, hT5, rfl⟩ := hcut.out.form
    clear hcut hT5 HRI4 HT4
    obtain ⟨A, hA⟩ : ∃ A, A = (cnt && decide (anyP ∈ S)) := ⟨_, rfl⟩
    obtain ⟨X, hX⟩ : ∃ X, X = r1L (nds l) D S := ⟨_, rfl⟩
    rw [← hX] at HRI5
    have HXL := Bx.mk (show X.length ≤ PL * N by
      rw [hX]
      have := r1L_len (nds l) D S
      rw [nds_len, ← HN.out, ← HSL.out] at this
      exact Nat.le_trans this (Nat.mul_le_mul_right _ hSLP))
    have HXX := Bx.mk (show renterX (nds l) D ps cnt = if A then r2L (nds l) D X N else X by
      unfold renterX; rw [← HS.out, ← hA, ← hX, nds_len, ← HN.out])
    have HA := Bx.mk hA
    clear hA hX
    go_upto_region 20 with fail
    go_cut [99] (fun cv wx => cv = .bool A ∧ wx = wc)
    case first =>
      cases cnt with
      | false =>
        have HA2 := Bx.mk (show A = false from HA.out)
        go_wp2_with fail
        go_meet
        exact ⟨by rw [HA2.out], rfl⟩
      | true =>
        have HA2 := Bx.mk (show A = decide (anyP ∈ S) from HA.out)
        have hin := in_any wc (.slice sa SL sc) S anyP (by have := HSR.out.below HRI5.out.bel; rw [← HSL.out] at this; exact this) (by have := HPL.out; have := HPLL.out; have := HSL.out; omega)
        rw [anyP_str, ← HA2.out] at hin
        go_wp2_with fail
        go_at_call 33
        refine hin.mono ?_
        rintro e w6 ⟨rfl, rfl⟩
        go_wp2_with fail
        go_meet
        exact ⟨rfl, rfl⟩
    case rest =>
      obtain ⟨rfl, hwc⟩ := hcut
      subst hwc
      go_upto_if 99 with fail
      go_cut [11] (fun ov wx => Bx (RI w2 l D wx ov (renterX (nds l) D ps cnt)))
      case first =>
        cases A with
        | false =>
          have HX2 := Bx.mk (show renterX (nds l) D ps cnt = X from HXX.out)
          go_wp2_with fail
          go_meet
          exact ⟨by rw [HX2.out]; exact HRI5.out⟩
        | true =>
          have HX2 := Bx.mk (show renterX (nds l) D ps cnt = r2L (nds l) D X N from HXX.out)
          go_wp2_with fail
          go_loopw [11, 17] (fun ov i wr => ∃ (k : Nat) (xs : List Nd), k ≤ N ∧ i = .int .i64 k ∧ Bx (RI w2 l D wr ov xs) ∧ Bx (xs = r2L (nds l) D X k)) (fun _ i _ => N - (intOf i).toNat)
          case atStart => exact ⟨0, X, by omega, rfl, HRI5, ⟨rfl⟩⟩
          case round =>
            obtain ⟨k, xs, hk, rfl, hRI, hF⟩ := hrel
            obtain ⟨T, av, cv, hT, rfl⟩ := hRI.out.form
            clear hT
            by_cases hlt : k < N
            · have hkl : k < l.length := by rw [← HN.out]; exact hlt
              have HX := Bx.mk (show (nds l)[k]! = (l[k]).n from nds_at l k hkl)
              have HXA := Bx.mk (HL2.out.at_ l[k] (List.getElem_mem hkl))
              have HCK := Bx.mk (fun W hW => HC.out W hW k hkl)
              have HEK := Bx.mk (HE.out _ (mem_at.2 ⟨k, by rw [nds_len]; exact hkl, HX.out⟩))
              obtain ⟨x, hx⟩ : ∃ x, x = l[k] := ⟨_, rfl⟩
              rw [← hx] at HX HXA HCK HEK
              have hRS : r2L (nds l) D X (k + 1) = if x.n.d = D1 then r2I (nds l) D k xs x.n.ex else xs := by
                rw [r2L, HX.out, ← HD1.out, ← hF.out]
              have HRS := Bx.mk hRS
              have HXLK := Bx.mk (show xs.length ≤ X.length + k * E by
                rw [hF.out]; exact r2L_len (nds l) D X E HE.out k (by rw [nds_len]; omega))
              obtain ⟨EL, hEL⟩ : ∃ EL, EL = x.n.ex.length := ⟨_, rfl⟩
              have HEL := Bx.mk hEL
              have hELb : EL ≤ 100000 := by rw [hEL]; exact HXA.out.2.1.1
              have HUN := Bx.mk (show x.u.n = EL by
                obtain ⟨_, _, e, -⟩ := HXA.out.1.form
                simp only [Sl.val, Value.slice.injEq] at e
                rw [hEL]; exact e.2.1)
              clear hx hRS hkl hEL
              go_wp2_with fail
              go_loopw [11, 18] (fun ov i wr2 => ∃ (j : Nat) (ys : List Nd), j ≤ EL ∧ i = .int .i64 j ∧ Bx (x.n.d = D1 ∨ j = 0) ∧ Bx (RI w2 l D wr2 ov ys) ∧ Bx (ys = r2I (nds l) D k xs (x.n.ex.take j))) (fun _ i _ => EL - (intOf i).toNat)
              case atStart => exact ⟨0, xs, by omega, rfl, ⟨.inr rfl⟩, hRI, ⟨by simp [r2I]⟩⟩
              case round =>
                obtain ⟨j, ys, hj, rfl, hor, hRI2, hY⟩ := hrel
                obtain ⟨T2, av2, cv2, hT2, rfl⟩ := hRI2.out.form
                obtain ⟨b2, o2, rfl, hbl2, c0, c1, c2, c3⟩ := HCK.out wr hRI2.out.bel
                simp only [Sl.val] at c3
                rw [HUN.out] at c3
                clear hT2 hbl2
                by_cases hlt2 : j < EL
                · have hjl : j < x.n.ex.length := by rw [← HEL.out]; exact hlt2
                  by_cases hd : x.n.d = D1
                  · have t1 : (x.n.d == D1) = true := by simpa using hd
                    have hex := HXA.out.1.below hRI2.out.bel
                    rw [show x.u.val = .slice x.u.ad EL x.u.c by unfold Sl.val; rw [HUN.out]] at hex
                    obtain ⟨b3, o3, hxa, hbl3, e0⟩ := (strs_cells hex).2 wr (Below.refl _ _) j hjl
                    rw [hxa] at c3
                    obtain ⟨p, hpe⟩ : ∃ p, p = x.n.ex[j] := ⟨_, rfl⟩
                    rw [← hpe] at e0
                    have HPP := Bx.mk (show p.length ≤ 1000000 by rw [hpe]; exact HXA.out.2.1.2 _ (List.getElem_mem hjl))
                    obtain ⟨l2, hto2, hn2, hl2⟩ := hRI2.out.list
                    have hbnd : l.length + ys.length ≤ 100000 := by
                      have h1 := r2I_len (nds l) D k (x.n.ex.take j) xs
                      rw [← hY.out, List.length_take] at h1
                      have h2 := HEK.out
                      rw [← HEL.out] at h2
                      rw [← HN.out]
                      exact len2 hlt (Nat.lt_of_lt_of_le hlt2 h2) HBD.out HXL.out HXLK.out (Nat.le_trans h1 (by omega))
                    have hch := child_any wr (.slice av2 T2 cv2) l2 hto2.tl (by omega) (k : Nat) p
                    rw [hn2, kidB_ins] at hch
                    have hins := ri_new hRI2.out HSRT.out HDD.out hbnd (k : Nat) p HPP.out
                    have HSN := Bx.mk (r2I_snoc (nds l) D k xs x.n.ex j hjl)
                    rw [← hpe, ← hY.out] at HSN
                    obtain ⟨KB, hKB⟩ : ∃ KB, KB = kidB (nds l ++ ys) (k : Nat) p := ⟨_, rfl⟩
                    rw [← hKB] at hch HSN
                    obtain ⟨P, hP⟩ : ∃ P, P = bstr p := ⟨_, rfl⟩
                    rw [← hP] at hch hins e0
                    clear hKB hP hpe hex hto2 hn2 hl2 hbnd hxa hbl3 hjl
                    go_wp2_with fail
                    go_at_call 46
                    refine hch.mono ?_
                    rintro e w6 ⟨rfl, rfl⟩
                    clear hch
                    cases KB with
                    | true =>
                      have HY6 := Bx.mk (show ys = r2I (nds l) D k xs (x.n.ex.take (j + 1)) by rw [HSN.out]; rfl)
                      have HOR := Bx.mk (show x.n.d = D1 ∨ j + 1 = 0 from .inl hd)
                      clear hd hins
                      go_wp2_with fail
                      go_roundw
                      case rel => exact ⟨j + 1, ys, by omega, by go_num, HOR, hRI2, HY6⟩
                      case measure => simp [intOf]; omega
                    | false =>
                      have HY6 := Bx.mk (show ys ++ [newN D (k : Nat) p] = r2I (nds l) D k xs (x.n.ex.take (j + 1)) by rw [HSN.out]; rfl)
                      have HOR := Bx.mk (show x.n.d = D1 ∨ j + 1 = 0 from .inl hd)
                      clear hd
                      go_wp2_with fail
                      go_at_call 44
                      refine hins.mono ?_
                      rintro e w6 ⟨v6, rfl, hri6⟩
                      have HRI7 := Bx.mk hri6
                      obtain ⟨T6, a6, c6, hT6, rfl⟩ := hri6.form
                      clear hins hri6 hT6
                      go_wp2_with fail
                      go_roundw
                      case rel => exact ⟨j + 1, _, by omega, by go_num, HOR, HRI7, HY6⟩
                      case measure => simp [intOf]; omega
                  · have t1 : (x.n.d == D1) = false := by simpa using hd
                    have HNX := Bx.mk (show ys = r2L (nds l) D X (k + 1) by
                      rw [HRS.out, if_neg hd, hY.out]
                      rcases hor.out with q | q
                      · exact absurd q hd
                      · rw [q]; rfl)
                    clear hd
                    go_wp2_with fail
                    go_roundw
                    case rel => exact ⟨k + 1, ys, by omega, by go_num, hRI2, HNX⟩
                    case measure => simp [intOf]; omega
                · obtain rfl : j = EL := by omega
                  have HNX := Bx.mk (show ys = r2L (nds l) D X (k + 1) by
                    rw [HRS.out, hY.out, HEL.out, List.take_length]
                    by_cases hd : x.n.d = D1
                    · rw [if_pos hd]
                    · rw [if_neg hd]
                      rcases hor.out with q | q
                      · exact absurd q hd
                      · rw [HEL.out] at q; rw [List.eq_nil_of_length_eq_zero q]; rfl)
                  go_wp2_with fail
                  go_roundw
                  case rel => exact ⟨k + 1, ys, by omega, by go_num, hRI2, HNX⟩
                  case measure => simp [intOf]; omega
            · obtain rfl : N = k := by omega
              go_wp2_with fail
              go_meet
              exact ⟨by rw [HX2.out, ← hF.out]; exact hRI.out⟩
      case rest =>
        have HRI7 := hcut
        obtain ⟨T7, av7, cv7, hT7, rfl⟩ := hcut.out.form
        obtain ⟨l7, hto7, hn7, hl7⟩ := hcut.out.list
        have HT7 := Bx.mk hT7
        have HIL := Bx.mk (show (insL (nds l) (renterX (nds l) D ps cnt)).length = T7 by rw [insL_length, nds_len, hT7])
        have HB7 := Bx.mk (HB2.out.trans (hcut.out.bel.mono HB2.out.size))
        by_cases hlim : T7 > 2048
        · have tl : decide ((T7 : Int) > 2048) = true := decide_eq_true (by omega)
          have HFR := Bx.mk (show R = ([], 2) by rw [HRR.out, HIL.out, if_pos hlim])
          clear hlim hT7 hto7 hn7 hl7 hcut
          go_wp2_with fail
          go_ret2
          exact ⟨_, [], by rw [HFR.out]; rfl, TO.nil _ _, by rw [HFR.out]; rfl, HB7.out⟩
        · have tl : decide ((T7 : Int) > 2048) = false := decide_eq_false (by omega)
          have HFR := Bx.mk (show R = (pruneP (nds l7) D, 0) by rw [HRR.out, HIL.out, if_neg hlim, hn7])
          have hem := enter_more HVV.out ps cnt
          have hse := sort_ins HVV.out.srt (moreE (nds l) D ps cnt)
          have hem' : insL (nds l) (moreE (nds l) D ps cnt) = insL (nds l) (renterX (nds l) D ps cnt) := hem
          obtain ⟨-, -, e3⟩ := enter_stay HVV.out HDP.out ps cnt (by
            have h1 := congrArg List.length hem'
            rw [insL_length, HIL.out] at h1
            omega)
          rw [hse, hem', ← hn7] at e3
          have hpr := rprune_any wc (.slice av7 T7 cv7) l7 hto7.tl (by omega) (fun i hi => e3.pge i (by rw [nds_len]; exact hi)) D
          clear hlim hT7 hto7 hn7 hl7 hcut hem hse hem' e3
          go_wp2_with fail
          go_at_call 47
          refine hpr.mono ?_
          rintro e w8 ⟨v8, l8, rfl, ho8, hn8, hb8⟩
          obtain ⟨a8, c8, rfl, -⟩ := ho8.own.rd.form
          have HO8 := Bx.mk (ho8.mono HB7.out.size)
          have HN8 := Bx.mk hn8
          have HB8 := Bx.mk (HB7.out.trans (hb8.mono HB7.out.size))
          clear hpr ho8 hn8 hb8
          go_wp2_with fail
          go_ret2
          exact ⟨_, l8, by rw [HFR.out]; rfl, HO8.out, by rw [HFR.out, HN8.out], HB8.out⟩
end Go.Proofs.Ytmagjdocondmhaa.Tr

namespace Go.Proofs.Ytmagjdocondmhaa.Tr
open Go Go.RowKit Go.Proofs.Ytmagjdocondmhaa.Slc Go.Proofs.Ytmagjdocondmhaa.St Go.Proofs.Ytmagjdocondmhaa.Mp Go.Proofs.Ytmagjdocondmhaa.Rg
set_option linter.unusedVariables false
set_option linter.unusedSimpArgs false
attribute [local go_sem] Oper.semAt_some

/-- an own tree beside a block of marks -/
structure MpS (wr : World) (B q : Nat) (ov : Value) (nl : List Nt) (mk : List Bool) : Prop where
  own : Slc.Own wr B 56 4 encN ov nl
  ne : ∀ k, ov.ownBlock = some k → k ≠ q
  nm : ∀ x ∈ nl, NtIn wr (fun k => ov.ownBlock ≠ some k ∧ k ≠ q) x
  mm : MB wr q mk
section
variable {wr w' : World} {B q : Nat} {ov : Value} {nl : List Nt} {mk : List Bool}
theorem MpS.below (h : MpS wr B q ov nl mk) (hb : Below wr.heap.size wr w') : MpS w' B q ov nl mk :=
  ⟨h.own.below hb, h.ne, fun x hx => (h.nm x hx).below hb, (hb.block q (lt_of_some h.mm)).trans h.mm⟩
theorem MpS.mark (h : MpS wr B q ov nl mk) (i : Nat) (b : Bool) : MpS (wr.setCell ⟨q, i, none⟩ (.bool b)) B q ov nl (mk.set i b) := by
  have hb : ∀ k, k ≠ q → (wr.setCell ⟨q, i, none⟩ (.bool b)).heap[k]? = wr.heap[k]? := fun k hk => heap_setCell_other _ _ _ _ hk
  exact ⟨h.own.keep fun k hk _ => hb k (h.ne k hk), h.ne, fun x hx => (h.nm x hx).keep (by simp) fun k hk _ => hb k hk.2, h.mm.set i b⟩
theorem MpS.put (h : MpS wr B q ov nl mk) (k : Nat) (hk : k < nl.length) (y : Nt) (h1 : y.n.d = (nl[k]).n.d) (h2 : y.n.p = (nl[k]).n.p) (h3 : y.n.pol = (nl[k]).n.pol) (hy : NtIn wr (fun b => ov.ownBlock ≠ some b ∧ b ≠ q) y) :
    ∃ g cap, ov = .slice (some ⟨g, 0, none⟩) nl.length cap ∧ B ≤ g ∧ (∀ i, wr.frozen? ⟨g, i, none⟩ = false) ∧ wr.cell? ⟨g, k * 4 + 3, none⟩ = some (nl[k]).u.val ∧ MpS (wr.setCell ⟨g, k * 4 + 3, none⟩ y.u.val) B q ov (nl.set k y) mk := by
  obtain ⟨g, cap, hv, hb, hg, hf, ho, hgr⟩ := h.own.set1 encN_ok k 3 hk (by omega) y.u.val y (by simp [encN, h1, h2, h3])
  have hob : ∀ b, ov.ownBlock = some b ↔ g = b := fun b => by rw [hv]; simp [Value.ownBlock]
  have hgq : g ≠ q := h.ne g ((hob g).2 rfl)
  have hkeep : ∀ x, NtIn wr (fun b => ov.ownBlock ≠ some b ∧ b ≠ q) x → NtIn (wr.setCell ⟨g, k * 4 + 3, none⟩ y.u.val) (fun b => ov.ownBlock ≠ some b ∧ b ≠ q) x := fun x hx => hx.keep hgr.size fun b hb hlt => hgr.block b hlt fun e => hb.1 ((hob b).2 (by simpa using e.symm))
  refine ⟨g, cap, hv, hb, hf, ?_, ⟨ho, h.ne, fun x hx => ?_, h.mm.other (fun e => hgq e.symm) _⟩⟩
  · have := h.own
    rw [hv] at this
    exact Slc.Own.cell encN_ok this k hk 3 (by omega) _ rfl
  · rcases List.mem_or_eq_of_mem_set hx with q | rfl
    · exact hkeep x (h.nm x q)
    · exact hkeep _ hy
theorem MpS.to (h : MpS wr B q ov nl mk) : TO wr B ov nl := ⟨h.own, fun x hx => (h.nm x hx).mono fun k _ hk => hk.1⟩
end
/-- the marks so far -/
def mkK (t : List Nd) (D : Int) (ms : List (B × B)) (ok : Bool) (N k : Nat) : List Bool := (List.range k).map (fun i => ok || rmapC t D ms i) ++ List.replicate (N - k) false
theorem mkK_length (t : List Nd) (D : Int) (ms : List (B × B)) (ok : Bool) (N k : Nat) (h : k ≤ N) : (mkK t D ms ok N k).length = N := by simp [mkK]; omega
theorem mkK_zero (t : List Nd) (D : Int) (ms : List (B × B)) (ok : Bool) (N : Nat) : mkK t D ms ok N 0 = List.replicate N false := by simp [mkK]
theorem mkK_succ (t : List Nd) (D : Int) (ms : List (B × B)) (ok : Bool) (N k : Nat) (h : k < N) : mkK t D ms ok N (k + 1) = (mkK t D ms ok N k).set k (ok || rmapC t D ms k) := by
  unfold mkK
  rw [List.set_append_right _ _ (by simp), List.length_map, List.length_range, Nat.sub_self, List.range_succ, List.map_append, List.append_assoc, show N - k = (N - (k + 1)) + 1 by omega, List.replicate_succ, List.set_cons_zero]
  rfl
theorem mkK_at (t : List Nd) (D : Int) (ms : List (B × B)) (ok : Bool) (N i : Nat) (h : i < N) : (mkK t D ms ok N N)[i]! = (ok || rmapC t D ms i) := by
  unfold mkK
  rw [Nat.sub_self, List.replicate_zero, List.append_nil, getElem!_pos _ i (by simpa using h)]
  simp
theorem dnM_congr (t : List Nd) {c c' : Nat → Bool} : ∀ k, (∀ i, i < k → c i = c' i) → dnM t c k = dnM t c' k
  | 0, _ => rfl
  | k + 1, h => by rw [dnM, dnM, dnM_congr t k fun i hi => h i (by omega), h k (by omega)]
/-- the nodes so far -/
def rnwK (t : List Nd) (D : Int) (ms : List (B × B)) (k : Nat) : List Nd := (t.take k).map (rnowN ms D) ++ t.drop k
theorem rnwK_set {t : List Nd} {D : Int} {ms : List (B × B)} {k : Nat} (hk : k < t.length) : rnwK t D ms (k + 1) = (rnwK t D ms k).set k (rnowN ms D t[k]!) := by
  unfold rnwK
  have hl : ((t.take k).map (rnowN ms D)).length = k := by rw [List.length_map, List.length_take]; omega
  rw [List.set_append_right _ _ (by omega), hl, Nat.sub_self, List.take_succ_eq_append_getElem hk, List.map_append, List.append_assoc, List.drop_eq_getElem_cons hk, List.set_cons_zero, getElem!_pos t k hk]
  rfl
theorem rnwK_at {t : List Nd} {D : Int} {ms : List (B × B)} {k : Nat} (hk : k < t.length) : (rnwK t D ms k)[k]! = t[k]! := by
  unfold rnwK
  have hl : ((t.take k).map (rnowN ms D)).length = k := by rw [List.length_map, List.length_take]; omega
  rw [getElem!_append_right' (by omega), hl, Nat.sub_self, List.drop_eq_getElem_cons hk, getElem!_pos t k hk]; rfl
theorem rnwK_same {t : List Nd} {D : Int} {ms : List (B × B)} {k : Nat} (hk : k < t.length) (h : rnowN ms D t[k]! = t[k]!) : rnwK t D ms (k + 1) = rnwK t D ms k := by
  unfold rnwK
  rw [List.take_succ_eq_append_getElem hk, List.map_append, List.append_assoc]
  congr 1
  rw [getElem!_pos t k hk] at h
  rw [List.map_singleton, h]
  exact (List.drop_eq_getElem_cons hk).symm
theorem rnwK_all (t : List Nd) (D : Int) (ms : List (B × B)) : rnwK t D ms t.length = t.map (rnowN ms D) := by
  unfold rnwK; rw [List.take_length, List.drop_length, List.append_nil]
theorem rnwK_length (t : List Nd) (D : Int) (ms : List (B × B)) (k : Nat) : (rnwK t D ms k).length = t.length := by
  unfold rnwK
  rw [List.length_append, List.length_map, List.length_take, List.length_drop]; omega
theorem rnow_srt {t : List Nd} {D : Int} (h : Srt ltT t) (ms : List (B × B)) : Srt ltT (t.map (rnowN ms D)) := by
  unfold Srt
  rw [List.pairwise_map]
  have e : ∀ n, (rnowN ms D n).d = n.d ∧ (rnowN ms D n).p = n.p ∧ (rnowN ms D n).pol = n.pol := by
    intro n; unfold rnowN; split <;> exact ⟨rfl, rfl, rfl⟩
  refine h.imp ?_
  intro a b hab
  unfold ltT befI at hab ⊢
  rw [(e a).1, (e a).2.1, (e a).2.2, (e b).1, (e b).2.1, (e b).2.2]
  exact hab
/-- the nodes that are put in, along the first k issuers -/
def xK (t : List Nd) (D : Int) (ms : List (B × B)) (S : List B) (pk : Int) (k : Nat) : List Nd := ((S.take k).filter fun q => !thereP t D q).map fun q => ⟨D, pk, q, subL ms q⟩
theorem xK_succ (t : List Nd) (D : Int) (ms : List (B × B)) (S : List B) (pk : Int) (k : Nat) (hk : k < S.length) : xK t D ms S pk (k + 1) = xK t D ms S pk k ++ if thereP t D S[k] then [] else [⟨D, pk, S[k], subL ms S[k]⟩] := by
  unfold xK
  rw [List.take_succ_eq_append_getElem hk, List.filter_append, List.map_append]
  cases h : thereP t D S[k] <;> simp [List.filter_cons, h]
theorem xK_len (t : List Nd) (D : Int) (ms : List (B × B)) (S : List B) (pk : Int) (k : Nat) : (xK t D ms S pk k).length ≤ k := by
  unfold xK
  rw [List.length_map]
  exact Nat.le_trans (List.length_filter_le _ _) (by simp; omega)
/-- the facts of the last region of TreeMap's loop -/
def MrF (w2 : World) (nl : List Nt) (D : Int) (tv fv lv ov : Value) (b o kk fb fo : Nat) (k pk : Int) (P : ByteArray) (xs : List Nd) (y : Nd) : Nat → Value → World → Prop
  | 0, v, _ => v = ov
  | 1, v, _ => v = .int .i64 D
  | 2, v, _ => v = tv
  | 3, v, _ => v = .int .i64 (kk : Nat)
  | 4, v, _ => v = .pointer (some ⟨b, o + kk * 4, none⟩)
  | 5, v, _ => v = .pointer (some ⟨b, o + kk * 4 + 1, none⟩)
  | 6, v, _ => v = .int .i64 pk
  | 7, v, _ => v = fv
  | 8, v, _ => v = .int .i64 k
  | 9, v, _ => v = .pointer (some ⟨fb, fo, none⟩)
  | 10, v, _ => v = .string P
  | 11, v, _ => v = lv
  | 12, v, _ => v = fv
  | 13, v, _ => v = .int .i64 k
  | 14, v, _ => v = .pointer (some ⟨fb, fo, none⟩)
  | 15, v, _ => v = .string P
  | 16, v, w => ∃ a n c, v = .slice a n c ∧ Rd w encS (.slice a n c) y.ex
  | 17, v, w => ∃ a n c, v = .agg #[.int .i64 D, .int .i64 pk, .string P, .slice a n c] ∧ Rd w encS (.slice a n c) y.ex
  | 18, v, w => RI w2 nl D w v (xs ++ [y])
  | _, _, _ => True
theorem MrF.stable (w2 : World) (nl : List Nt) (D : Int) (tv fv lv ov : Value) (b o kk fb fo : Nat) (k pk : Int) (P : ByteArray) (xs : List Nd) (y : Nd) (i : Nat) (v : Value) (w w' : World) (h : MrF w2 nl D tv fv lv ov b o kk fb fo k pk P xs y i v w) (hb : Below w.heap.size w w') : MrF w2 nl D tv fv lv ov b o kk fb fo k pk P xs y i v w' := by
  match i with
  | 0 | 1 | 2 | 3 | 4 | 5 | 6 | 7 | 8 | 9 | 10 | 11 | 12 | 13 | 14 | 15 => exact h
  | 16 => obtain ⟨a, n, c, h1, h2⟩ := h; exact ⟨a, n, c, h1, h2.below hb⟩
  | 17 => obtain ⟨a, n, c, h1, h2⟩ := h; exact ⟨a, n, c, h1, h2.below hb⟩
  | 18 => exact RI.below h hb
  | _ + 19 => exact trivial
set_option maxRecDepth 100000 in
set_option maxHeartbeats 4000000 in
theorem rmap_any (w : World) (v lv : Value) (l : List Nt) (ms : List (B × B)) (h : TL w v l) (hm : Rd w encP lv ms) (hn : l.length ≤ 100000) (hml : ms.length ≤ 90000) (hmx : ∀ m ∈ ms, m.1.length ≤ 1000000 ∧ m.2.length ≤ 1000000) (D : Int) (ok : Bool) :
    Calls Try.prog 25 #[v, .int .i64 D, lv, .bool ok] w fun e w' => EnP w (rmapP (nds l) D ms ok) e w' := by
  obtain ⟨i0, hi0, hz0, hz1, hz2⟩ := info_parts info_node
  obtain ⟨ib, hib, hib0, hib1, hib2⟩ := info_parts info_bool
  have hval := rvalid_any w v l h hn D
  obtain ⟨ad, c, rfl, -⟩ := h.rd.form
  obtain ⟨pd, pc, rfl, -⟩ := hm.form
  obtain ⟨R, hR⟩ : ∃ R, R = rmapP (nds l) D ms ok := ⟨_, rfl⟩
  rw [← hR]
  have HR := Bx.mk hR
  have HL := Bx.mk h
  have HP := Bx.mk hm
  have HML := Bx.mk hml
  have HMX := Bx.mk hmx
  have HLN := Bx.mk hn
  obtain ⟨N, hN⟩ : ∃ N, N = l.length := ⟨_, rfl⟩
  have HN := Bx.mk hN
  obtain ⟨PL, hPL⟩ : ∃ PL, PL = ms.length := ⟨_, rfl⟩
  have HPL := Bx.mk hPL
  rw [← hN] at hval ⊢
  rw [← hPL]
  clear h hm hmx hn hml hR hN hPL
  by_cases hD1 : D < 1
  · have t0 : decide (D < 1) = true := decide_eq_true hD1
    have HFR := Bx.mk (show R = ([], 7) by rw [HR.out]; unfold rmapP; rw [t0]; rfl)
    clear hval hD1
    go_enter Try.func25, Try.ntmps25
    go_wp2_with fail
    go_ret2
    exact ⟨_, [], by rw [HFR.out]; rfl, TO.nil _ _, by rw [HFR.out]; rfl, Below.refl _ _⟩
  have t0 : decide (D < 1) = false := decide_eq_false hD1
  have HDP := Bx.mk (show 1 ≤ D by omega)
  obtain ⟨V, hV⟩ : ∃ V, V = rvalidP (nds l) D := ⟨_, rfl⟩
  rw [← hV] at hval
  have HV := Bx.mk (show V = validB (nds l) D by rw [hV]; exact rvalid_eq _ _)
  clear hV hD1
  go_enter Try.func25, Try.ntmps25
  go_wp2_with fail
  go_at_call 16
  refine hval.mono ?_
  rintro e w1 ⟨rfl, hb1⟩
  have HB1 := Bx.mk hb1
  clear hval hb1
  cases V with
  | false =>
    have HFR := Bx.mk (show R = ([], 7) by rw [HR.out]; unfold rmapP; rw [← HV.out]; simp)
    go_wp2_with fail
    go_ret2
    exact ⟨_, [], by rw [HFR.out]; rfl, TO.nil _ _, by rw [HFR.out]; rfl, HB1.out⟩
  | true =>
  have HVV := Bx.mk ((valid_iff _ _).1 HV.out.symm)
  have HRR := Bx.mk (show R = if !ok then (pruneP (keepP (nds l) (dnM (nds l) (rmapC (nds l) D ms) (nds l).length)) D, 0) else
      if (insL ((nds l).map (rnowN ms D)) (rmapX (nds l) D ms)).length > 2048 then ([], 2) else (pruneP (insL ((nds l).map (rnowN ms D)) (rmapX (nds l) D ms)) D, 0) by
    rw [HR.out]; unfold rmapP; rw [← HV.out, t0]; rfl)
  have hN2 : N ≤ 2048 := by have := HVV.out.len; rw [nds_len, ← HN.out] at this; exact this
  have hset := sources_any w1 _ ms (HP.out.below HB1.out) (by have := HML.out; omega)
  rw [← HPL.out] at hset
  go_wp2_with fail
  go_at_call 54
  refine hset.mono ?_
  rintro e w2 ⟨sv, rfl, hs2, hb2⟩
  clear hset
  obtain ⟨S, hS⟩ : ∃ S, S = srcL ms := ⟨_, rfl⟩
  rw [← hS] at hs2
  have HS := Bx.mk hS
  obtain ⟨sa, sc, rfl, -⟩ := hs2.rd.form
  have HSC := Bx.mk (strs_cells hs2.rd).2
  have HSR := Bx.mk hs2.rd
  have HSX := Bx.mk (show ∀ p ∈ S, p.length ≤ 1000000 from fun p hp => by
    rw [hS] at hp
    unfold srcL at hp
    rw [setB_mem, List.mem_map] at hp
    obtain ⟨m, hm, rfl⟩ := hp
    exact (HMX.out m (List.mem_filter.1 hm).1).1)
  obtain ⟨SL, hSL⟩ : ∃ SL, SL = S.length := ⟨_, rfl⟩
  have HSL := Bx.mk hSL
  have hSLP : SL ≤ 90000 := by
    have h1 := setB_length ((ms.filter okM).map (·.1))
    rw [List.length_map] at h1
    have h2 := List.length_filter_le okM ms
    have h3 := HML.out
    rw [hSL, hS]; unfold srcL; omega
  rw [← hSL]
  have HB2 := Bx.mk (HB1.out.trans (hb2.mono HB1.out.size))
  have HL2 := Bx.mk (HL.out.below HB2.out)
  have HP2 := Bx.mk (HP.out.below HB2.out)
  have HC := Bx.mk HL2.out.cells.2
  have HSRT := Bx.mk HVV.out.srt
  have hr3 : (w2.alloc (.cells #[] 56)).heap[w2.heap.size]? = some (.cells #[] 56 (0, 0)) := heap_alloc_new _ _
  have hb3 : Below w2.heap.size w2 (w2.alloc (.cells #[] 56)) := (Below.refl _ _).alloc (Nat.le_refl _) _
  have HSRC := Bx.mk (show SrcV (w2.alloc (.cells #[] 56)) 4 (.slice ad N c) N (l.flatMap encN) by
    have := (HL2.out.rd.below hb3).src encN_ok
    rw [← HN.out] at this; exact this)
  have HB3 := Bx.mk hb3
  have hm1 : N ≤ maxLen := by unfold maxLen; omega
  have hm2 : N * 56 ≤ 140737488355328 := by omega
  have hz3 : w2.heap.size ≤ (w2.alloc (.cells #[] 56)).heap.size := hb3.size
  clear hS hSL hs2 hb2 hb3
  go_wp2_with (at_builtin; refine wpList_append_fresh rfl _ _ _ rfl w2.heap.size 56 i0 _ 4 56 und_nodes hi0 hz0 hz1 hz2 rfl (by decide) w2.heap.size rfl hr3 (Nat.le_refl _) hz3 _ N (l.flatMap encN) rfl HSRC.out hm1 hm2 ?_)
  intro v4 w4 hown hb4 _
  have HO4 := Bx.mk (Own.of (l := l) hown HN.out rfl)
  have HB4 := Bx.mk (HB3.out.trans (hb4.mono (by first | omega | simp)))
  clear hown hb4 hr3 hm1 hm2 hz3 HSRC HB3
  obtain ⟨oa, oc, rfl, -⟩ := HO4.out.rd.form
  rw [← HN.out] at HO4 ⊢
  have hmk := run_makeSlice (P := Try.prog) w4 76 4 ib (.bool false) Try.underlying76 hib hib0 .i64 .i64 (N : Nat) (N : Nat) (by omega) (by omega) (by rw [Int.toNat_natCast, hib1]; omega) (by rw [hib2]; omega) (by omega)
  simp only [Int.toNat_natCast, hib1, made_marks] at hmk
  obtain ⟨q, hq⟩ : ∃ q, q = w4.heap.size := ⟨_, rfl⟩
  obtain ⟨W1, hW1⟩ : ∃ W1, W1 = w4.alloc (.cells (Array.replicate N (Value.bool false)) 4) := ⟨_, rfl⟩
  have HBW1 := Bx.mk (show Below w4.heap.size w4 W1 by rw [hW1]; exact (Below.refl _ _).alloc (Nat.le_refl _) _)
  have HMS1 := Bx.mk (show MpS W1 w2.heap.size q (.slice oa N oc) l (mkK (nds l) D ms ok N 0) from
    ⟨HO4.out.below HBW1.out, fun k hk => by have := (HO4.out.lt k hk).2; omega,
     fun x hx => ((NtIn.of (HL2.out.at_ x hx)).below (HB4.out.trans (HBW1.out.mono HB4.out.size))).mono fun k _ hk => by
      have hz := HB4.out.size
      refine ⟨fun e => ?_, by omega⟩
      have := (HO4.out.lt k e).1
      omega,
     by rw [mkK_zero, hW1]; unfold MB; rw [List.map_replicate, List.toArray_replicate]; exact alloc_at hq⟩)
  have HBB1 := Bx.mk (show Below w2.heap.size w2 W1 from HB4.out.trans (HBW1.out.mono HB4.out.size))
  have HQ := Bx.mk (show w2.heap.size ≤ q by rw [hq]; exact HB4.out.size)
  go_upto_block 0 with fail
  rw [← hW1, ← hq]
  clear hmk hW1 hq HBW1 HO4
  go_cut [11] (fun ov wx => ov = .slice oa N oc ∧ ∃ nl, Bx (MpS wx w2.heap.size q (.slice oa N oc) nl (mkK (nds l) D ms ok N N)) ∧ Bx (nds nl = (nds l).map (rnowN ms D)) ∧ Bx (Below w2.heap.size w2 wx))
  case first =>
    go_wp2_with fail
    go_loopw [13] (fun i wr => ∃ (k : Nat) (nl : List Nt), k ≤ N ∧ i = .int .i64 k ∧ Bx (MpS wr w2.heap.size q (.slice oa N oc) nl (mkK (nds l) D ms ok N k)) ∧ Bx (nds nl = rnwK (nds l) D ms k) ∧ Bx (Below w2.heap.size w2 wr)) (fun i _ => N - (intOf i).toNat)
    case atStart => exact ⟨0, l, by omega, rfl, HMS1, ⟨by simp [rnwK]⟩, HBB1⟩
    case round =>
      obtain ⟨k, nl, hk, rfl, hMS, hNL, hBw⟩ := hrel
      have HNLL := Bx.mk (show nl.length = N by
        have := congrArg List.length hNL.out
        rw [nds_len, rnwK_length, nds_len] at this
        rw [this, HN.out])
      by_cases hlt : k < N
      · have hkl : k < l.length := by rw [← HN.out]; exact hlt
        obtain ⟨b, o, rfl, hbl, c0, c1, c2, c3⟩ := HC.out wr hBw.out k hkl
        have HX := Bx.mk (show (nds l)[k]! = (l[k]).n from nds_at l k hkl)
        have HXL := Bx.mk (HL2.out.at_ l[k] (List.getElem_mem hkl)).2.2
        obtain ⟨x, hx⟩ : ∃ x, x = l[k] := ⟨_, rfl⟩
        rw [← hx] at c0 c1 c2 c3 HX HXL
        simp only [Sl.val] at c3
        have HCK := Bx.mk (fun W hW => HC.out W hW k hkl)
        have HKT := Bx.mk (show k < (nds l).length by rw [nds_len]; exact hkl)
        obtain ⟨MP, hMP⟩ : ∃ MP, MP = (decide (x.n.d = D) && decide (x.n.pol ∈ S)) := ⟨_, rfl⟩
        have HMP := Bx.mk hMP
        have HRC := Bx.mk (show rmapC (nds l) D ms k = !MP by unfold rmapC; rw [HX.out, ← HS.out, hMP])
        have HNW := Bx.mk (show rnowN ms D x.n = if MP then ⟨x.n.d, x.n.p, x.n.pol, subL ms x.n.pol⟩ else x.n by unfold rnowN; rw [← HS.out, hMP])
        rw [← hx] at HCK
        clear hx hbl hMP hkl
        go_upto_region 9 with fail
        go_cut [14] (fun c wx => c = .bool MP ∧ wx = wr)
        case first =>
          by_cases hd : x.n.d = D
          · have t1 : (x.n.d == D) = true := by simpa using hd
            have HM2 := Bx.mk (show MP = decide (x.n.pol ∈ S) by rw [HMP.out, decide_eq_true hd]; rfl)
            have hin := in_any wr (.slice sa SL sc) S x.n.pol (by have := HSR.out.below hBw.out; rw [← HSL.out] at this; exact this) (by have := HSL.out; omega)
            rw [← HM2.out] at hin
            generalize bstr x.n.pol = X at *
            clear hd
            go_wp2_with fail
            go_at_call 33
            refine hin.mono ?_
            rintro e w6 ⟨rfl, rfl⟩
            go_wp2_with fail
            go_meet
            exact ⟨rfl, rfl⟩
          · have t1 : (x.n.d == D) = false := by simpa using hd
            have HM2 := Bx.mk (show MP = false by rw [HMP.out, decide_eq_false hd]; rfl)
            clear hd
            go_wp2_with fail
            go_meet
            exact ⟨by rw [HM2.out], rfl⟩
        case rest =>
          obtain ⟨rfl, hwc⟩ := hcut
          subst hwc
          clear c0 c1 c2 c3
          have hm0 := hMS.out.mm.cell k (by rw [mkK_length _ _ _ _ _ _ hk]; exact hlt)
          have hfz := frozen_row (i := k) hMS.out.mm
          obtain ⟨old, hold⟩ : ∃ b, b = (mkK (nds l) D ms ok N k)[k]! := ⟨_, rfl⟩
          rw [← hold] at hm0
          have HMS2 := Bx.mk (show MpS (wc.setCell ⟨q, k, none⟩ (.bool (ok || !MP))) w2.heap.size q (.slice oa N oc) nl (mkK (nds l) D ms ok N (k + 1)) by
            rw [mkK_succ _ _ _ _ _ _ hlt, HRC.out]; exact hMS.out.mark k _)
          have HBW2 := Bx.mk (hBw.out.setCell (p := ⟨q, k, none⟩) HQ.out (.bool (ok || !MP)))
          clear hold
          go_upto_region 10 with fail
          go_cut [] (fun wx => wx = wc.setCell ⟨q, k, none⟩ (.bool (ok || !MP)))
          case first =>
            cases ok with
            | true =>
              go_wp2_with fail
              go_meet
              rfl
            | false =>
              go_wp2_with fail
              go_meet
              rfl
          case rest =>
            clear hm0 hfz hMS hBw
            subst hcut
            obtain ⟨W2, hW2⟩ : ∃ W2, W2 = wc.setCell ⟨q, k, none⟩ (.bool (ok || !MP)) := ⟨_, rfl⟩
            rw [← hW2] at HMS2 HBW2 ⊢
            clear hW2
            cases MP with
            | false =>
              have HN3 := Bx.mk (show nds nl = rnwK (nds l) D ms (k + 1) by rw [rnwK_same HKT.out (by rw [HX.out, HNW.out]; rfl)]; exact hNL.out)
              go_wp2_with fail
              go_roundw
              case rel => exact ⟨k + 1, nl, by omega, by go_num, HMS2, HN3, HBW2⟩
              case measure => simp [intOf]; omega
            | true =>
              obtain ⟨b', o', hbo, -, c0, c1, c2, c3⟩ := HCK.out W2 HBW2.out
              simp only [Option.some.injEq, Addr.mk.injEq, and_true] at hbo
              obtain ⟨rfl, rfl⟩ := hbo
              have hsub := subjects_any W2 (.slice pd ms.length pc) ms x.n.pol (HP2.out.below HBW2.out) (by have := HML.out; omega)
              rw [← HPL.out] at hsub
              clear c0 c1 c3
              generalize hXX : bstr x.n.pol = X at *
              clear hXX
              go_wp2_with fail
              go_at_call 55
              refine hsub.mono ?_
              rintro e w5 ⟨v5, rfl, ho5, hb5⟩
              clear hsub c2
              obtain ⟨a5, c5, hv5, -⟩ := ho5.rd.form
              obtain ⟨n5, hn5⟩ : ∃ n5, n5 = (subL ms x.n.pol).length := ⟨_, rfl⟩
              rw [← hn5] at hv5
              subst hv5
              obtain ⟨y, hy⟩ : ∃ y : Nt, y = ⟨⟨x.n.d, x.n.p, x.n.pol, subL ms x.n.pol⟩, ⟨a5, n5, c5⟩⟩ := ⟨_, rfl⟩
              have hkn : k < nl.length := by rw [HNLL.out]; exact hlt
              have hnk : (nl[k]).n = x.n := by rw [← nds_at nl k hkn, hNL.out, rnwK_at HKT.out, HX.out]
              have hms5 := HMS2.out.below hb5
              have hyn : NtIn w5 (fun b => (Value.slice oa N oc).ownBlock ≠ some b ∧ b ≠ q) y := by
                rw [hy]
                refine ⟨⟨ho5.rd, fun j hj => ?_⟩, subL_few (by have := HML.out; omega) HMX.out x.n.pol, HXL.out⟩
                have h1 := (ho5.lt j hj).1
                refine ⟨fun e => ?_, ?_⟩
                · have := (HMS2.out.own.lt j e).2; omega
                · have := lt_of_some HMS2.out.mm; omega
              obtain ⟨g, cap, hv, hgB, hfz, hcell, hput⟩ := hms5.put k hkn y (by rw [hy, hnk]) (by rw [hy, hnk]) (by rw [hy, hnk]) hyn
              simp only [Value.slice.injEq] at hv
              obtain ⟨rfl, -, rfl⟩ := hv
              have hfz3 := hfz (k * 4 + 3)
              rw [show y.u.val = .slice a5 n5 c5 by rw [hy]; rfl] at hput
              have HPUT := Bx.mk hput
              have HN3 := Bx.mk (show nds (nl.set k y) = rnwK (nds l) D ms (k + 1) by
                rw [rnwK_set HKT.out, ← hNL.out, HX.out, HNW.out]
                simp [nds, List.map_set, hy])
              have HB5 := Bx.mk ((HBW2.out.trans (hb5.mono HBW2.out.size)).setCell (p := ⟨g, k * 4 + 3, none⟩) hgB (.slice a5 n5 c5))
              obtain ⟨os, hos⟩ : ∃ s : Sl, s = (nl[k]).u := ⟨_, rfl⟩
              rw [← hos] at hcell
              simp only [Sl.val] at hcell
              clear hos hkn hnk hms5 hyn hput hfz hn5 ho5 hb5 hgB hy
              go_wp2_with fail
              go_roundw
              case rel => exact ⟨k + 1, nl.set k y, by omega, by go_num, HPUT, HN3, HB5⟩
              case measure => simp [intOf]; omega
      · obtain rfl : k = N := by omega
        go_wp2_with fail
        go_meet
        exact ⟨rfl, nl, hMS, ⟨by rw [hNL.out, ← rnwK_all, nds_len, ← HN.out]⟩, hBw⟩
  case rest =>
    obtain ⟨rfl, nl, hMS, hNL, hBw⟩ := hcut
    clear HMS1 HBB1 HB4
    have HBW := Bx.mk (HB2.out.trans (hBw.out.mono HB2.out.size))
    cases ok with
    | false =>
      have hrm := removed_any wc (.slice ad l.length c) (.slice (some ⟨q, 0, none⟩) N N) l _ (HL2.out.below hBw.out) (by
        have := hMS.out.mm.rd (c := N) (by rw [mkK_length _ _ _ _ _ _ (Nat.le_refl _)]; exact Nat.le_refl _)
        rw [mkK_length _ _ _ _ _ _ (Nat.le_refl _)] at this
        exact this) (by rw [mkK_length _ _ _ _ _ _ (Nat.le_refl _)]; exact HN.out) (by rw [← HN.out]; omega) (fun i hi => HVV.out.pge (by rw [nds_len]; exact hi))
      rw [← HN.out] at hrm
      go_wp2_with fail
      go_at_call 56
      refine hrm.mono ?_
      rintro e w6 ⟨v6, l6, rfl, ho6, hn6, hb6⟩
      clear hrm
      have hdn : dnM (nds l) (fun i => (mkK (nds l) D ms false N N)[i]!) N = mapM (nds l) D ms := by
        rw [← map_marks HVV.out ms, nds_len, ← HN.out]
        refine dnM_congr _ _ fun i hi => ?_
        rw [mkK_at _ _ _ _ _ _ hi, Bool.false_or]
      rw [hdn] at hn6
      obtain ⟨e1, -, e3⟩ := map_stay_no HVV.out HDP.out ms
      have hl6 : l6.length ≤ 5000 := by
        have h1 := congrArg List.length hn6
        rw [nds_len, keepP_length, nds_len] at h1
        have := rk_le (mapM (nds l) D ms) l.length
        have := HN.out
        omega
      have hpr := rprune_any w6 v6 l6 ho6.tl hl6 (fun i hi => by rw [hn6]; exact e3.pge i (by rw [← hn6, nds_len]; exact hi)) D
      rw [hn6] at hpr
      have HFR := Bx.mk (show R = (pruneP (keepP (nds l) (mapM (nds l) D ms)) D, 0) by
        rw [HRR.out, map_marks HVV.out ms]; rfl)
      obtain ⟨a6, c6, rfl, -⟩ := ho6.own.rd.form
      have HB6 := Bx.mk (HBW.out.trans (hb6.mono HBW.out.size))
      clear hdn hn6 e1 e3 hl6 ho6 hb6
      go_wp2_with fail
      go_at_call 47
      refine hpr.mono ?_
      rintro e w8 ⟨v8, l8, rfl, ho8, hn8, hb8⟩
      obtain ⟨a8, c8, rfl, -⟩ := ho8.own.rd.form
      have HO8 := Bx.mk (ho8.mono HB6.out.size)
      have HN8 := Bx.mk hn8
      have HB8 := Bx.mk (HB6.out.trans (hb8.mono HB6.out.size))
      clear hpr ho8 hn8 hb8
      go_wp2_with fail
      go_ret2
      exact ⟨_, l8, by rw [HFR.out]; rfl, HO8.out, by rw [HFR.out, HN8.out], HB8.out⟩
    | true =>
      have HRI0 := Bx.mk (show RI w2 nl D wc (.slice oa N oc) [] from ⟨⟨nl, hMS.out.to, rfl⟩, fun n hn => (by cases hn), hBw.out⟩)
      have HNLN := Bx.mk (show nl.length = N by
        have := congrArg List.length hNL.out
        rw [nds_len, List.length_map, nds_len] at this
        rw [this, HN.out])
      have HSRN := Bx.mk (show Srt ltT (nds nl) by rw [hNL.out]; exact rnow_srt HSRT.out ms)
      have HDDN := Bx.mk (show ∀ n ∈ nds nl, n.d ≤ D from fun n hn => by
        rw [hNL.out, List.mem_map] at hn
        obtain ⟨m, hm, rfl⟩ := hn
        have : (rnowN ms D m).d = m.d := by unfold rnowN; split <;> rfl
        rw [this]
        obtain ⟨i, hi, rfl⟩ := mem_at.1 hm
        exact HVV.out.le i hi)
      have hspa := spat_any wc (.slice ad l.length c) l (HL2.out.below hBw.out) (by have := HLN.out; omega) D
      rw [← HN.out] at hspa
      obtain ⟨sp, hsp⟩ : ∃ sp, sp = spAt (nds l) D := ⟨_, rfl⟩
      rw [← hsp] at hspa
      have HSP := Bx.mk hsp
      have HXE := Bx.mk (show rmapX (nds l) D ms = if sp < 0 then [] else xK (nds l) D ms S (nds l)[sp.toNat]!.p SL by
        unfold rmapX xK; rw [← hsp, HSL.out, List.take_length, HS.out])
      obtain ⟨pk, hpk⟩ : ∃ pk, pk = (nds l)[sp.toNat]!.p := ⟨_, rfl⟩
      rw [← hpk] at HXE
      have HPK := Bx.mk hpk
      clear hsp hpk hMS
      go_wp2_with fail
      go_at_call 45
      refine hspa.mono ?_
      rintro e w6 ⟨rfl, rfl⟩
      clear hspa
      go_upto_block 2 with fail
      go_cut [11] (fun ov wx => Bx (RI w2 nl D wx ov (rmapX (nds l) D ms)))
      case first =>
        go_wp2_with fail
        go_loopw [11, 16] (fun ov i wr => ∃ (k : Nat) (xs : List Nd), k ≤ SL ∧ i = .int .i64 k ∧ Bx (RI w2 nl D wr ov xs) ∧ Bx (xs = xK (nds l) D ms S pk k) ∧ Bx (0 ≤ sp ∨ k = 0)) (fun _ i _ => SL - (intOf i).toNat)
        case atStart => exact ⟨0, [], by omega, rfl, HRI0, ⟨by simp [xK]⟩, ⟨.inr rfl⟩⟩
        case round =>
          obtain ⟨k, xs, hk, rfl, hRI, hXS, hOR⟩ := hrel
          obtain ⟨T, av, cv, hT, rfl⟩ := hRI.out.form
          clear hT
          by_cases hsp0 : sp ≥ 0
          · have t1 : decide (sp ≥ 0) = true := decide_eq_true hsp0
            have t2 : decide (0 ≤ sp) = true := decide_eq_true hsp0
            by_cases hlt : k < SL
            · have hkl : k < S.length := by rw [← HSL.out]; exact hlt
              have HKC := Bx.mk (fun W hW => HSC.out W hW k hkl)
              have HXSU := Bx.mk (xK_succ (nds l) D ms S pk k hkl)
              have HQL := Bx.mk (HSX.out _ (List.getElem_mem hkl))
              obtain ⟨p, hpe⟩ : ∃ p, p = S[k] := ⟨_, rfl⟩
              rw [← hpe] at HKC HXSU HQL
              obtain ⟨fb, fo, rfl, hfbl, -⟩ := HKC.out w2 (Below.refl _ _)
              have HKD := Bx.mk (show ∀ W, Below w2.heap.size w2 W → W.cell? ⟨fb, fo + k, none⟩ = some (.string (bstr p)) from fun W hW => by
                obtain ⟨b', o', e, -, h⟩ := HKC.out W hW
                simp only [Option.some.injEq, Addr.mk.injEq, and_true] at e
                obtain ⟨rfl, rfl⟩ := e
                exact h)
              have HPEQ := Bx.mk (fun q : B => same_bytes q p)
              obtain ⟨P, hP⟩ : ∃ P, P = bstr p := ⟨_, rfl⟩
              rw [← hP] at HKD HPEQ
              have HPE := Bx.mk hP
              clear hpe hkl hfbl hP
              go_upto_block 4 with fail
              go_cut [17] (fun c wx => c = .bool (thereP (nds l) D p) ∧ Below wr.heap.size wr wx)
              case first =>
                go_wp2_with fail
                go_loopw [17, 18] (fun fv j wr2 => ∃ (m : Nat) (F : Bool), m ≤ N ∧ j = .int .i64 m ∧ fv = .bool F ∧ Bx (F = ((nds l).take m).any fun n => decide (n.d = D) && decide (n.pol = p)) ∧ Below wr.heap.size wr wr2) (fun _ j _ => N - (intOf j).toNat)
                case atStart => exact ⟨0, false, by omega, rfl, rfl, ⟨by simp⟩, Below.refl _ _⟩
                case round =>
                  obtain ⟨m, F, hm, rfl, rfl, hFF, hbw2⟩ := hrel
                  have HBW3 := Bx.mk hbw2
                  have hbw3 := hRI.out.bel.trans (hbw2.mono hRI.out.bel.size)
                  by_cases hlt2 : m < N
                  · have hml : m < l.length := by rw [← HN.out]; exact hlt2
                    obtain ⟨b2, o2, rfl, hbl2, c0, c1, c2, c3⟩ := HC.out wr hbw3 m hml
                    have hcp := HKD.out wr hbw3
                    have HNX := Bx.mk (show (((nds l).take (m + 1)).any fun n => decide (n.d = D) && decide (n.pol = p)) = (F || (decide ((l[m]).n.d = D) && decide ((l[m]).n.pol = p))) by
                      rw [List.take_succ_eq_append_getElem (by rw [nds_len]; exact hml), List.any_append, ← hFF.out]
                      simp [nds])
                    obtain ⟨x, hx⟩ : ∃ x, x = l[m] := ⟨_, rfl⟩
                    rw [← hx] at c0 c1 c2 c3 HNX
                    have l3 := HPEQ.out x.n.pol
                    obtain ⟨EQ, hEQ⟩ : ∃ EQ, EQ = decide (x.n.pol = p) := ⟨_, rfl⟩
                    rw [← hEQ] at l3 HNX
                    generalize bstr x.n.pol = X at *
                    clear hx hbl2 hml hbw2 hbw3 hEQ c1 c3
                    cases F with
                    | true =>
                      have HNX2 := Bx.mk (show true = (((nds l).take (m + 1)).any fun n => decide (n.d = D) && decide (n.pol = p)) by rw [HNX.out]; rfl)
                      go_wp2_with fail
                      go_quiet (fail)
                      go_wp2_with fail
                      go_roundw
                      case rel => exact ⟨m + 1, true, by omega, by go_num, rfl, HNX2, below_drawn HBW3.out _⟩
                      case measure => simp [intOf]; omega
                    | false =>
                      by_cases hd : x.n.d = D
                      · have t3 : (x.n.d == D) = true := by simpa using hd
                        have HNX2 := Bx.mk (show EQ = (((nds l).take (m + 1)).any fun n => decide (n.d = D) && decide (n.pol = p)) by rw [HNX.out, decide_eq_true hd]; rfl)
                        clear hd
                        go_wp2_with fail
                        go_quiet (fail)
                        go_wp2_with fail
                        go_roundw
                        case rel => exact ⟨m + 1, EQ, by omega, by go_num, rfl, HNX2, below_drawn HBW3.out _⟩
                        case measure => simp [intOf]; omega
                      · have t3 : (x.n.d == D) = false := by simpa using hd
                        have HNX2 := Bx.mk (show false = (((nds l).take (m + 1)).any fun n => decide (n.d = D) && decide (n.pol = p)) by rw [HNX.out, decide_eq_false hd]; rfl)
                        clear hd
                        go_wp2_with fail
                        go_quiet (fail)
                        go_wp2_with fail
                        go_roundw
                        case rel => exact ⟨m + 1, false, by omega, by go_num, rfl, HNX2, below_drawn HBW3.out _⟩
                        case measure => simp [intOf]; omega
                  · obtain rfl : m = N := by omega
                    have HTH := Bx.mk (show thereP (nds l) D p = F by
                      rw [hFF.out]; unfold thereP; rw [List.take_of_length_le (by rw [nds_len]; exact Nat.le_of_eq HN.out.symm)])
                    clear hbw2 hbw3
                    go_wp2_with fail
                    go_meet
                    exact ⟨by rw [HTH.out], HBW3.out⟩
              case rest =>
                obtain ⟨rfl, hbc⟩ := hcut
                have HBC := Bx.mk (hRI.out.bel.trans (hbc.mono hRI.out.bel.size))
                have HRI2 := Bx.mk (hRI.out.below hbc)
                obtain ⟨TH, hTH⟩ : ∃ TH, TH = thereP (nds l) D p := ⟨_, rfl⟩
                rw [← hTH] at HXSU ⊢
                have HOR2 := Bx.mk (show 0 ≤ sp ∨ k + 1 = 0 from .inl hsp0)
                clear hTH hbc hRI
                cases TH with
                | true =>
                  have HX2 := Bx.mk (show xs = xK (nds l) D ms S pk (k + 1) by rw [HXSU.out, hXS.out]; simp)
                  go_wp2_with fail
                  go_roundw
                  case rel => exact ⟨k + 1, xs, by omega, by go_num, HRI2, HX2, HOR2⟩
                  case measure => simp [intOf]; omega
                | false =>
                  have HX2 := Bx.mk (show xs ++ [⟨D, pk, p, subL ms p⟩] = xK (nds l) D ms S pk (k + 1) by rw [HXSU.out, hXS.out]; rfl)
                  obtain ⟨kk, hkk⟩ : ∃ kk : Nat, sp = (kk : Int) := ⟨sp.toNat, by omega⟩
                  have hkkN : kk < N := by
                    have := spAt_lt (nds l) D
                    rw [← HSP.out, nds_len, ← HN.out] at this; omega
                  have hkkl : kk < l.length := by rw [← HN.out]; exact hkkN
                  subst hkk
                  obtain ⟨b, o, rfl, hbl, -⟩ := HC.out w2 (Below.refl _ _) kk hkkl
                  have HPC := Bx.mk (show ∀ W, Below w2.heap.size w2 W → W.cell? ⟨b, o + kk * 4 + 1, none⟩ = some (.int .i64 pk) from fun W hW => by
                    obtain ⟨b', o', e, -, h0, h1, -⟩ := HC.out W hW kk hkkl
                    simp only [Option.some.injEq, Addr.mk.injEq, and_true] at e
                    obtain ⟨rfl, rfl⟩ := e
                    rw [HPK.out, Int.toNat_natCast, nds_at l kk hkkl]; exact h1)
                  have hbnd : nl.length + xs.length ≤ 100000 := by
                    rw [HNLN.out, hXS.out]
                    have := xK_len (nds l) D ms S pk k
                    omega
                  have HBND := Bx.mk hbnd
                  have HSUB := Bx.mk (show ∀ W, Below w2.heap.size w2 W → Calls Try.prog 55 #[.slice pd PL pc, .string P] W fun e w' => ∃ v', e = .returned v' ∧ Slc.Own w' W.heap.size 9 1 encS v' (subL ms p) ∧ Below W.heap.size W w' from fun W hW => by
                    have := subjects_any W (.slice pd ms.length pc) ms p (HP2.out.below hW) (by have := HML.out; omega)
                    rw [← HPL.out, ← HPE.out] at this
                    exact this)
                  have HINS := Bx.mk (show ∀ W ov (a : Option Addr) (n c : Nat), Below wc.heap.size wc W → ov = .slice av T cv → Rd W encS (.slice a n c) (subL ms p) → Calls Try.prog 44 #[ov, .agg #[.int .i64 D, .int .i64 pk, .string P, .slice a n c]] W fun e w' => ∃ v', e = .returned v' ∧ RI w2 nl D w' v' (xs ++ [⟨D, pk, p, subL ms p⟩]) ∧ Below W.heap.size W w' from fun W ov a n c hW hov hrd => by
                    subst hov
                    rw [HPE.out]
                    exact ri_insertB HRI2.out HSRN.out HDDN.out HBND.out ⟨D, pk, p, subL ms p⟩ rfl ⟨a, n, c⟩ W hW ⟨hrd, subL_few (by have := HML.out; omega) HMX.out p, HQL.out⟩)
                  clear hbnd hbl hkkl
                  go_upto_region 25 with fail
                  refine wp_region_facts 19 (MrF w2 nl D (.slice (some ⟨b, o, none⟩) N c) (.slice (some ⟨fb, fo, none⟩) SL sc) (.slice pd PL pc) (.slice av T cv) b o kk fb (fo + k) (k : Nat) pk P xs ⟨D, pk, p, subL ms p⟩) (by kernel_rfl) (by kernel_rfl) (by rfl) (MrF.stable _ _ _ _ _ _ _ _ _ _ _ _ _ _ _ _ _) ?_ ?_
                  · intro i oo hi ho xx w7 hb hd
                    have hcs : i = 0 ∨ i = 1 ∨ i = 2 ∨ i = 3 ∨ i = 4 ∨ i = 5 ∨ i = 6 ∨ i = 7 ∨ i = 8 ∨ i = 9 ∨ i = 10 ∨ i = 11 ∨ i = 12 ∨ i = 13 ∨ i = 14 ∨ i = 15 ∨ i = 16 ∨ i = 17 ∨ i = 18 := by omega
                    simp only [List.take_succ_cons, List.take_zero, putFrom, Act.put, List.setIfInBounds_toArray, List.set_cons_succ, List.set_cons_zero, Nat.zero_add, Nat.reduceAdd]
                    have HB7 := Bx.mk hb
                    have hbw7 := HBC.out.trans (hb.mono HBC.out.size)
                    have hc1 := HPC.out w7 hbw7
                    have hc2 := HKD.out w7 hbw7
                    have HBW7 := Bx.mk hbw7
                    clear hb hbw7
                    rcases hcs with rfl | rfl | rfl | rfl | rfl | rfl | rfl | rfl | rfl | rfl | rfl | rfl | rfl | rfl | rfl | rfl | rfl | rfl | rfl
                    all_goals
                      simp only [List.getElem?_cons_succ, List.getElem?_cons_zero, Option.some.injEq] at ho
                      subst ho
                      simp [Needs, Region.binds, MrF] at hd
                    all_goals clear hi
                    case inr.inr.inr.inr.inr.inr.inr.inr.inr.inr.inr.inr.inr.inr.inr.inr.inl =>
                      have hsub := HSUB.out w7 HBW7.out
                      clear hc1 hc2
                      go_wp2_with (go_at_call 55; refine hsub.mono ?_; rintro e w8 ⟨v8, rfl, ho8, hb8⟩)
                      obtain ⟨a8, c8, rfl, -⟩ := ho8.rd.form
                      exact ⟨rfl, rfl, ⟨_, _, _, rfl, ho8.rd⟩, hb8⟩
                    case inr.inr.inr.inr.inr.inr.inr.inr.inr.inr.inr.inr.inr.inr.inr.inr.inr.inl =>
                      obtain ⟨h1, h6, h10, a, n, c8, h16, hr⟩ := hd
                      have HRD := Bx.mk hr
                      clear hr hc1 hc2
                      go_wp2_with fail
                      exact ⟨rfl, rfl, ⟨a, n, c8, rfl, HRD.out⟩, Below.refl _ _⟩
                    case inr.inr.inr.inr.inr.inr.inr.inr.inr.inr.inr.inr.inr.inr.inr.inr.inr.inr =>
                      obtain ⟨h0, ⟨a, n, c8, h17, hr⟩, -⟩ := hd
                      have hins := HINS.out w7 (.slice av T cv) a n c8 HB7.out rfl hr
                      clear hr hc1 hc2
                      go_wp2_with (go_at_call 44; refine hins.mono ?_; rintro e w8 ⟨v8, rfl, hri, hb8⟩)
                      exact ⟨rfl, rfl, hri, hb8⟩
                    all_goals
                      go_wp2_with fail
                      exact ⟨rfl, rfl, rfl, Below.refl _ _⟩
                  · intro xx w7 hb hf
                    have f18 := hf 18 (by omega)
                    simp only [MrF] at f18
                    have HB7 := Bx.mk hb
                    have HF18 := Bx.mk f18
                    obtain ⟨T8, a8, c8, hT8, hx18⟩ := f18.form
                    clear hb hT8 f18
                    simp only [List.take_succ_cons, List.take_zero, List.drop_succ_cons, List.drop_zero, putFrom, Act.put, List.setIfInBounds_toArray, List.set_cons_succ, List.set_cons_zero, Nat.zero_add, Nat.reduceAdd]
                    rw [hx18] at HF18 ⊢
                    clear hf
                    go_wp2_with fail
                    go_roundw
                    case rel => exact ⟨k + 1, _, by omega, by go_num, HF18, HX2, HOR2⟩
                    case measure => simp [intOf]; omega
            · obtain rfl : k = SL := by omega
              have HXF := Bx.mk (show rmapX (nds l) D ms = xs by rw [HXE.out, if_neg (by omega), hXS.out])
              go_wp2_with fail
              go_meet
              exact ⟨by rw [HXF.out]; exact hRI.out⟩
          · have t1 : decide (sp ≥ 0) = false := decide_eq_false hsp0
            have t2 : decide (0 ≤ sp) = false := decide_eq_false hsp0
            have HXF := Bx.mk (show rmapX (nds l) D ms = xs by
              rw [HXE.out, if_pos (by omega), hXS.out]
              rcases hOR.out with q | q
              · omega
              · rw [q]; simp [xK])
            by_cases hlt : k < SL
            · clear hsp0
              go_wp2_with fail
              go_meet
              exact ⟨by rw [HXF.out]; exact hRI.out⟩
            · obtain rfl : k = SL := by omega
              clear hsp0
              go_wp2_with fail
              go_meet
              exact ⟨by rw [HXF.out]; exact hRI.out⟩
      case rest =>
        have HRI7 := hcut
        obtain ⟨T7, av7, cv7, hT7, rfl⟩ := hcut.out.form
        obtain ⟨l7, hto7, hn7, hl7⟩ := hcut.out.list
        rw [hNL.out] at hn7
        have hll : (insL ((nds l).map (rnowN ms D)) (rmapX (nds l) D ms)).length = T7 := by
          rw [insL_length, ← hNL.out, nds_len, hT7]
        have HB7 := Bx.mk (HB2.out.trans (hcut.out.bel.mono HB2.out.size))
        by_cases hlim : T7 > 2048
        · have tl : decide ((T7 : Int) > 2048) = true := decide_eq_true (by omega)
          have HFR := Bx.mk (show R = ([], 2) by rw [HRR.out, hll, if_pos hlim]; rfl)
          clear hlim hT7 hto7 hn7 hl7 hcut hll
          go_wp2_with fail
          go_ret2
          exact ⟨_, [], by rw [HFR.out]; rfl, TO.nil _ _, by rw [HFR.out]; rfl, HB7.out⟩
        · have tl : decide ((T7 : Int) > 2048) = false := decide_eq_false (by omega)
          have HFR := Bx.mk (show R = (pruneP (nds l7) D, 0) by rw [HRR.out, hll, if_neg hlim, hn7]; rfl)
          have hse := sort_ins (rnow_srt (D := D) HVV.out.srt ms) (mapMore (nds l) D ms)
          rw [map_more HVV.out HDP.out ms] at hse
          obtain ⟨-, -, e3⟩ := map_stay HVV.out HDP.out ms (by
            rw [map_more HVV.out HDP.out ms]
            rw [insL_length, List.length_map] at hll
            omega)
          rw [map_more HVV.out HDP.out ms, map_now HVV.out ms, hse, ← hn7] at e3
          have hpr := rprune_any wc (.slice av7 T7 cv7) l7 hto7.tl (by omega) (fun i hi => e3.pge i (by rw [nds_len]; exact hi)) D
          clear hlim hT7 hto7 hn7 hl7 hcut hse e3 hll
          go_wp2_with fail
          go_at_call 47
          refine hpr.mono ?_
          rintro e w8 ⟨v8, l8, rfl, ho8, hn8, hb8⟩
          obtain ⟨a8, c8, rfl, -⟩ := ho8.own.rd.form
          have HO8 := Bx.mk (ho8.mono HB7.out.size)
          have HN8 := Bx.mk hn8
          have HB8 := Bx.mk (HB7.out.trans (hb8.mono HB7.out.size))
          clear hpr ho8 hn8 hb8
          go_wp2_with fail
          go_ret2
          exact ⟨_, l8, by rw [HFR.out]; rfl, HO8.out, by rw [HFR.out, HN8.out], HB8.out⟩
end Go.Proofs.Ytmagjdocondmhaa.Tr
