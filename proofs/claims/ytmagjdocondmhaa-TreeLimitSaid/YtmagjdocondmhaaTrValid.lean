/-
  ptree.Valid.
-/
import Derived.Test.YtmagjdocondmhaaTrPlain
import Derived.Test.YtmagjdocondmhaaMapF
namespace Go.Proofs.Ytmagjdocondmhaa.Tr
open Go Go.RowKit Go.Proofs.Ytmagjdocondmhaa.Slc Go.Proofs.Ytmagjdocondmhaa.St Go.Proofs.Ytmagjdocondmhaa.Mp
set_option linter.unusedVariables false
set_option linter.unusedSimpArgs false
attribute [local go_sem] Oper.semAt_some

theorem u_int : Try.prog.underlying 3 = some (.int .i64) := Try.underlying3
theorem u_mapIB : Try.prog.underlying 61 = some (.map 3 4) := Try.underlying61
noncomputable abbrev kI : Ky Try.prog 3 Int := kyInt u_int
/-- the parents so far -/
def parK (l : List Nd) (k : Nat) : Int → Option Bool := fun j => if (l.take k).any (fun n => decide (n.p = j)) then some true else none
theorem parK_zero (l : List Nd) : parK l 0 = fun _ => none := by funext j; simp [parK]
theorem parK_succ (l : List Nd) (k : Nat) (hk : k < l.length) : parK l (k + 1) = fun j => if j = l[k]!.p then some true else parK l k j := by
  funext j
  unfold parK
  rw [List.take_succ_eq_append_getElem hk, List.any_append, getElem!_pos l k hk]
  by_cases e : j = (l[k]).p
  · rw [if_pos e]; simp [e]
  · have : decide ((l[k]).p = j) = false := decide_eq_false fun h => e h.symm
    rw [if_neg e]; simp [this]
theorem nds_len (l : List Nt) : (nds l).length = l.length := by simp [nds]
theorem fitB_p {l : List Nd} {i : Nat} {D : Int} (h : fitB l i D = true) (hi : i ≤ 100000) : I64 l[i]!.p := by
  by_cases h0 : i = 0
  · subst h0
    unfold fitB at h
    rw [if_pos rfl, fit0_iff] at h
    unfold I64; omega
  · have := (fitB_iff l i (by omega) D).1 h
    unfold I64; omega
def nodCells (x : Nt) : Array Value := #[.int .i64 x.n.d, .int .i64 x.n.p, .string (bstr x.n.pol), .slice x.u.ad x.u.n x.u.c]
theorem valid_bad1 {l : List Nd} {D : Int} {i : Nat} (hi : i < l.length) (h : fitB l i D = false) : validB l D = false := by
  unfold validB
  rw [Bool.and_eq_false_iff, Bool.and_eq_false_iff]
  right; left
  rw [List.all_eq_false]
  exact ⟨i, List.mem_range.2 hi, by rw [h]; simp⟩
theorem valid_bad2 {l : List Nd} {D : Int} {i : Nat} (hi : i < l.length) (h : l[i]!.d < D) (h2 : parK l l.length i = none) : validB l D = false := by
  unfold validB
  rw [Bool.and_eq_false_iff, Bool.and_eq_false_iff]
  right; right
  rw [List.all_eq_false]
  refine ⟨i, List.mem_range.2 hi, ?_⟩
  unfold parK at h2
  rw [List.take_length] at h2
  split at h2
  · cases h2
  · rename_i q
    rw [decide_eq_true h, Bool.not_true, Bool.false_or]; exact q
theorem valid_good {l : List Nd} {D : Int} (h0 : ¬ D < 0) (h1 : ¬ l.length > 2048) (h2 : ∀ i, i < l.length → fitB l i D = true) (h3 : ∀ i, i < l.length → l[i]!.d < D → parK l l.length i = some true) : validB l D = true := by
  unfold validB
  rw [decide_eq_false h0, decide_eq_false h1]
  simp only [Bool.or_self, Bool.not_false, Bool.true_and, Bool.and_eq_true, List.all_eq_true, List.mem_range]
  refine ⟨h2, fun i hi => ?_⟩
  by_cases q : l[i]!.d < D
  · have := h3 i hi q
    unfold parK at this
    rw [List.take_length] at this
    split at this
    · rename_i q2; rw [q2]; simp
    · cases this
  · rw [decide_eq_false q]; rfl
set_option maxRecDepth 100000 in
set_option maxHeartbeats 4000000 in
theorem valid_q (w : World) (v : Value) (l : List Nt) (h : TQ w v l) (hn : l.length ≤ 100000) (D : Int) :
    Calls Try.prog 15 #[v, .int .i64 D] w fun e w' => e = .returned (.bool (validB (nds l) D)) ∧ Below w.heap.size w w' := by
  obtain ⟨R, hR⟩ : ∃ R, R = validB (nds l) D := ⟨_, rfl⟩
  rw [← hR]
  have HR := Bx.mk hR
  obtain ⟨ad, c, rfl, -⟩ := h.rd.form
  have HL := Bx.mk h
  have HC := Bx.mk h.cells.2
  obtain ⟨N, hN⟩ : ∃ N, N = l.length := ⟨_, rfl⟩
  have HN := Bx.mk hN
  rw [← hN] at hn ⊢
  clear h hR hN
  by_cases hD : D < 0
  · have HF := Bx.mk (show R = false by rw [HR.out]; unfold validB; rw [decide_eq_true hD]; rfl)
    have t0 : decide (D < 0) = true := decide_eq_true hD
    clear hD
    go_enter Try.func15, Try.ntmps15
    go_wp2_with fail
    go_ret
    exact ⟨by rw [HF.out]; rfl, Below.refl _ _⟩
  have t0 : decide (D < 0) = false := decide_eq_false hD
  by_cases hNb : N > 2048
  · have HF := Bx.mk (show R = false by rw [HR.out]; unfold validB; rw [nds_len, ← HN.out, decide_eq_true hNb]; simp)
    have t1 : decide ((N : Int) > 2048) = true := decide_eq_true (by omega)
    clear hD hNb
    go_enter Try.func15, Try.ntmps15
    go_wp2_with fail
    go_ret
    exact ⟨by rw [HF.out]; rfl, Below.refl _ _⟩
  have t1 : decide ((N : Int) > 2048) = false := decide_eq_false (by omega)
  have HDN := Bx.mk (And.intro hD hNb)
  have hN2 : N ≤ 2048 := by omega
  clear hD hNb hn
  have hmm := @run_makeMap Try.prog
  have HM0 := Bx.mk (show OwnF (w.alloc (.map #[] 0)) kI rdB edB w.heap.size 0 (parK (nds l) 0) by rw [parK_zero]; exact OwnF.made w kI rdB edB)
  have HB0 := Bx.mk (show Below w.heap.size w (w.alloc (.map #[] 0)) from (Below.refl _ _).alloc (Nat.le_refl _) _)
  obtain ⟨W0, hW0⟩ : ∃ W0, W0 = w.alloc (.map #[] 0) := ⟨_, rfl⟩
  rw [← hW0] at HM0 HB0
  go_enter Try.func15, Try.ntmps15
  go_wp2_with fail
  rw [← hW0]
  clear hW0 hmm t0 t1
  obtain ⟨p, hp⟩ : ∃ p, p = w.heap.size := ⟨_, rfl⟩
  have HP := Bx.mk hp
  rw [← hp] at HM0 HB0 ⊢
  clear hp
  go_loopw [20] (fun i wr => ∃ k : Nat, k ≤ N ∧ i = .int .i64 k ∧ Bx (∀ j, j < k → fitB (nds l) j D = true) ∧ Bx (OwnF wr kI rdB edB p k (parK (nds l) k)) ∧ Bx (Below p w wr)) (fun i _ => N - (intOf i).toNat)
  case atStart => exact ⟨0, by omega, rfl, ⟨fun j hj => by omega⟩, HM0, HB0⟩
  case round =>
    obtain ⟨k, hk, rfl, hfd, hM, hBw⟩ := hrel
    have hBw' : Below w.heap.size w wr := HP.out ▸ hBw.out
    by_cases hlt : k < N
    · have hkl : k < l.length := by rw [← HN.out]; exact hlt
      obtain ⟨b, o, rfl, hbl, c0, c1, c2, c3⟩ := HC.out wr hBw' k hkl
      have HLW := Bx.mk (HL.out.below hBw')
      have HX := Bx.mk (show (nds l)[k]! = (l[k]).n from nds_at l k hkl)
      obtain ⟨x, hx⟩ : ∃ x, x = l[k] := ⟨_, rfl⟩
      rw [← hx] at c0 c1 c2 c3 HX
      simp only [Sl.val] at c3
      clear hx hBw' hbl
      go_upto_region 7 with fail
      obtain ⟨W1, hW1⟩ : ∃ W1, W1 = wr.alloc (.cells #[.int .i64 x.n.d, .int .i64 x.n.p, .string (bstr x.n.pol), .slice x.u.ad x.u.n x.u.c] 56) := ⟨_, rfl⟩
      have HB1 := Bx.mk (show Below wr.heap.size wr W1 by rw [hW1]; exact (Below.refl _ _).alloc (Nat.le_refl _) _)
      have hq1 : W1.heap[wr.heap.size]? = some (.cells #[.int .i64 x.n.d, .int .i64 x.n.p, .string (bstr x.n.pol), .slice x.u.ad x.u.n x.u.c] 56 (0, 0)) := by rw [hW1]; exact heap_alloc_new _ _
      rw [← hW1]
      clear hW1 c0 c1 c2 c3
      have HQ1 := Bx.mk hq1
      have hcall := fits_q W1 _ l (HLW.out.below HB1.out) k hkl (by have := HN.out; omega) D
      obtain ⟨q, hq⟩ : ∃ q, q = fitB (nds l) k D := ⟨_, rfl⟩
      have HQ := Bx.mk hq
      rw [← HN.out, ← hq] at hcall
      clear hq hq1 hkl
      go_wp2_with fail
      go_at_call 35
      refine hcall.mono ?_
      rintro e w2 ⟨rfl, hb2⟩
      have HB2 := Bx.mk hb2
      have HM2 := Bx.mk ((hM.out.below HB1.out).below hb2)
      have HBP := Bx.mk (show Below p w w2 from (hBw.out.trans (HB1.out.mono (by have := hBw.out.size; have := HP.out; omega))).trans (hb2.mono (by have := hBw.out.size; have := HB1.out.size; have := HP.out; omega)))
      have HQ2 := Bx.mk ((hb2.block _ (lt_of_some HQ1.out)).trans HQ1.out)
      clear hcall hb2
      cases q with
      | false =>
        have HF := Bx.mk (show R = false by rw [HR.out]; exact valid_bad1 (i := k) (by rw [nds_len, ← HN.out]; exact hlt) HQ.out.symm)
        go_wp2_with fail
        go_ret
        exact ⟨by rw [HF.out]; rfl, HP.out ▸ HBP.out⟩
      | true =>
        have hpi := fitB_p HQ.out.symm (by omega)
        rw [HX.out] at hpi
        obtain ⟨w3, hrun, hop, hgr⟩ := HM2.out.putI u_mapIB (by unfold maxLen; omega) hpi true (.bool true) (rdB_mk _)
        have hq := HQ2.out
        have k1 := cell_of_row _ _ 1 _ _ _ hq
        simp only [List.getElem?_toArray, List.getElem?_cons_zero, List.getElem?_cons_succ] at k1
        have HOP := Bx.mk hop
        have HGR := Bx.mk hgr
        clear hpi hop hgr hq
        go_wp2_with fail
        go_roundw
        case rel => exact ⟨k + 1, by omega, by go_num, ⟨fun j hj => by
          by_cases e : j = k
          · subst e; exact HQ.out.symm
          · exact hfd.out j (by omega)⟩, ⟨by rw [parK_succ _ _ (by rw [nds_len, ← HN.out]; exact hlt), HX.out]; exact HOP.out⟩, ⟨HBP.out.grown HGR.out (by have := HBP.out.size; have := HP.out; omega) (fun k hk => by simp only [Option.some.injEq] at hk; omega)⟩⟩
        case measure => simp [intOf]; omega
    · obtain rfl : N = k := by omega
      have HAB := Bx.mk hfd.out
      clear hfd hBw'
      go_wp2_with fail
      obtain ⟨wo, rfl⟩ : ∃ wo : World, wo = wr := ⟨_, rfl⟩
      go_loopw [36] (fun i wr => ∃ k : Nat, k ≤ N ∧ i = .int .i64 k ∧ Bx (∀ j, j < k → (nds l)[j]!.d < D → parK (nds l) N j = some true) ∧ Bx (OwnF wr kI rdB edB p N (parK (nds l) N)) ∧ Bx (Below p w wr)) (fun i _ => N - (intOf i).toNat)
      case atStart => exact ⟨0, by omega, rfl, ⟨fun j hj => by omega⟩, hM, hBw⟩
      case round =>
        clear hM hBw
        obtain ⟨k, hk2, rfl, hfd, hM, hBw⟩ := hrel
        have hBw' : Below w.heap.size w wr := HP.out ▸ hBw.out
        by_cases hlt : k < N
        · have hkl : k < l.length := by rw [← HN.out]; exact hlt
          obtain ⟨b, o, rfl, hbl, c0, c1, c2, c3⟩ := HC.out wr hBw' k hkl
          have HX := Bx.mk (show (nds l)[k]! = (l[k]).n from nds_at l k hkl)
          obtain ⟨x, hx⟩ : ∃ x, x = l[k] := ⟨_, rfl⟩
          rw [← hx] at c0 c1 c2 c3 HX
          simp only [Sl.val] at c3
          clear hx hBw' hbl
          go_upto_region 14 with fail
          obtain ⟨W1, hW1⟩ : ∃ W1, W1 = wr.alloc (.cells #[.int .i64 x.n.d, .int .i64 x.n.p, .string (bstr x.n.pol), .slice x.u.ad x.u.n x.u.c] 56) := ⟨_, rfl⟩
          have HB1 := Bx.mk (show Below wr.heap.size wr W1 by rw [hW1]; exact (Below.refl _ _).alloc (Nat.le_refl _) _)
          have hq1 : W1.heap[wr.heap.size]? = some (.cells #[.int .i64 x.n.d, .int .i64 x.n.p, .string (bstr x.n.pol), .slice x.u.ad x.u.n x.u.c] 56 (0, 0)) := by rw [hW1]; exact heap_alloc_new _ _
          rw [← hW1]
          clear hW1 c0 c1 c2 c3 hkl
          have HM1 := Bx.mk (hM.out.below HB1.out)
          have HBP := Bx.mk (show Below p w W1 from hBw.out.trans (HB1.out.mono (by have := hBw.out.size; have := HP.out; omega)))
          have k0 := cell_of_row _ _ 0 _ _ _ hq1
          simp only [List.getElem?_toArray, List.getElem?_cons_zero, List.getElem?_cons_succ] at k0
          clear hq1
          by_cases td : x.n.d < D
          · have t0 : decide (x.n.d < D) = true := decide_eq_true td
            have hlook := (HM1.out.lookI u_mapIB Value.bool false (Try.zeroValue4 _) rdB_mk rdB_inv (k := (k : Nat)) (by unfold I64; omega)).1
            obtain ⟨q, hq⟩ : ∃ q, q = parK (nds l) N k := ⟨_, rfl⟩
            have HQ := Bx.mk hq
            rw [← hq] at hlook
            have HTD := Bx.mk td
            clear hq td
            have hqv : q = none ∨ q = some true := by
              have := HQ.out
              unfold parK at this
              rw [this]
              split
              · exact .inr rfl
              · exact .inl rfl
            rcases hqv with rfl | rfl
            · have HF := Bx.mk (show R = false by rw [HR.out]; exact valid_bad2 (i := k) (by rw [nds_len, ← HN.out]; exact hlt) (by rw [HX.out]; exact HTD.out) (by rw [nds_len, ← HN.out]; exact HQ.out.symm))
              simp only [Option.getD_none] at hlook
              go_wp2_with fail
              go_ret
              exact ⟨by rw [HF.out]; rfl, HP.out ▸ HBP.out⟩
            · simp only [Option.getD_some] at hlook
              go_wp2_with fail
              go_roundw
              case rel => exact ⟨k + 1, by omega, by go_num, ⟨fun j hj hd => by
                by_cases e : j = k
                · subst e; exact HQ.out.symm
                · exact hfd.out j (by omega) hd⟩, HM1, HBP⟩
              case measure => simp [intOf]; omega
          · have t0 : decide (x.n.d < D) = false := decide_eq_false td
            have HTD := Bx.mk td
            clear td
            go_wp2_with fail
            go_roundw
            case rel => exact ⟨k + 1, by omega, by go_num, ⟨fun j hj hd => by
              by_cases e : j = k
              · subst e; rw [HX.out] at hd; have := HTD.out; omega
              · exact hfd.out j (by omega) hd⟩, HM1, HBP⟩
            case measure => simp [intOf]; omega
        · obtain rfl : N = k := by omega
          have HF := Bx.mk (show R = true by rw [HR.out]; exact valid_good (by have := HDN.out.1; omega) (by rw [nds_len, ← HN.out]; have := HDN.out.2; omega) (by rw [nds_len, ← HN.out]; exact HAB.out) (by rw [nds_len, ← HN.out]; exact hfd.out))
          go_wp2_with fail
          go_ret
          exact ⟨by rw [HF.out]; rfl, HP.out ▸ hBw.out⟩
theorem valid_any (w : World) (v : Value) (l : List Nt) (h : TL w v l) (hn : l.length ≤ 100000) (D : Int) :
    Calls Try.prog 15 #[v, .int .i64 D] w fun e w' => e = .returned (.bool (validB (nds l) D)) ∧ Below w.heap.size w w' := valid_q w v l h.tq hn D
end Go.Proofs.Ytmagjdocondmhaa.Tr
