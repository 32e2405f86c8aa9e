/-
  Trees in plain Lean: what Restrict returns is valid, and its policies are wanted ones; how many nodes there are.
-/
/-
  Trees in plain Lean: what Restrict sorts is a tree.
-/
import Derived.Test.YtmagjdocondmhaaTrStay
namespace Go.Proofs.Ytmagjdocondmhaa.Tr
open Go Go.RowKit Go.Proofs.Ytmagjdocondmhaa.St
set_option linter.unusedVariables false
set_option linter.unusedSimpArgs false

section
variable {t : List Nd} {D : Int}
/-- the policies that a tree has are among the wanted ones -/
def WP (X : List Nd) (D : Int) (ps : List B) : Prop := ∀ n ∈ X, polC X D n = true → n.pol ∈ ps
theorem polC_iff {X : List Nd} {n : Nd} : polC X D n = true ↔ 0 ≤ n.p ∧ spec (pn X n) = true ∧ (spec n = false ∨ n.d = D) := by
  unfold polC
  simp [-List.getElem!_eq_getElem?_getD]
theorem polC_keep (V : VS t D) {m : List Bool} (hc : Cls t m) {i : Nat} (hi : i < t.length) (hm : m[i]! = true) (h : polC (keepP t m) D (kpN m t[i]!) = true) : polC t D t[i]! = true := by
  rw [polC_iff] at h ⊢
  obtain ⟨h1, h2, h3⟩ := h
  by_cases q : t[i]!.p < 0
  · unfold kpN at h1; simp only at h1; rw [if_pos q] at h1; omega
  · have hq : 0 ≤ t[i]!.p := by omega
    have h4 := hc i hi hm hq
    have h5 := V.pge i hi
    have h6 : pn (keepP t m) (kpN m t[i]!) = kpN m (pn t t[i]!) := by
      unfold pn
      rw [show (kpN m t[i]!).p = (rk m t[i]!.p.toNat : Nat) by unfold kpN; simp only; rw [if_neg q, if_pos h4], Int.toNat_natCast]
      exact keepP_at t m (by omega) h4
    rw [h6] at h2
    exact ⟨hq, h2, h3⟩
theorem WP.keep (V : VS t D) {m : List Bool} (hc : Cls t m) {ps : List B} (h : WP t D ps) : WP (keepP t m) D ps := by
  intro n hn hp
  obtain ⟨i, hi, hm, rfl⟩ := keep_mem.1 hn
  exact h t[i]! (mem_at.2 ⟨i, hi, rfl⟩) (polC_keep V hc hi hm hp)
theorem VS.cls (V : VS t D) (E : Int) : Cls t (pruneM t E) := fun i hi hm h => (V.pm E).cl i (by omega) hi hm h
theorem WP.prune (V : VS t D) {ps : List B} (h : WP t D ps) : WP (pruneP t D) D ps := h.keep V (V.cls D)
theorem WP.pol {ps : List B} (h : WP t D ps) : ∀ q ∈ polP t D, q ∈ ps := by
  intro q hq
  unfold polP at hq
  split at hq
  · cases hq
  · rw [setB_mem] at hq
    unfold polK at hq
    obtain ⟨i, hi, rfl⟩ := List.mem_map.1 hq
    rw [List.mem_filter, List.mem_range] at hi
    exact h _ (mem_at.2 ⟨i, hi.1, rfl⟩) hi.2
theorem resC_iff {ps : List B} {i : Nat} : resC t D ps i = true ↔ (t[i]!.p < 0 ∨ spec (pn t t[i]!) = false ∨ spec t[i]! = true ∨ t[i]!.pol ∈ ps) ∧ ¬ (spec t[i]! = true ∧ t[i]!.d = D ∧ 0 < D) := by
  unfold resC
  simp only [Bool.and_eq_true, Bool.or_eq_true, decide_eq_true_eq, Bool.not_eq_true', or_assoc, Bool.and_eq_false_iff, decide_eq_false_iff_not]
  refine and_congr_right fun _ => ?_
  constructor
  · rintro (h | h | h) ⟨a, b, c⟩
    · rw [a] at h; exact Bool.noConfusion h
    · exact h b
    · exact h c
  · intro h
    cases q : spec t[i]! with
    | false => exact Or.inl rfl
    | true =>
      by_cases q2 : t[i]!.d = D
      · exact Or.inr (Or.inr fun q3 => h ⟨q, q2, q3⟩)
      · exact Or.inr (Or.inl q2)
theorem res_stay (V : VT t D) (ps : List B) (hl : t.length + (setB ps).length ≤ 2048) :
    ∃ r, resP t D ps = (r, 0) ∧ VT r D ∧ (ps ≠ [] → anyP ∉ ps → WP r D ps) := by
  have hv := (valid_iff t D).2 V
  have hD := V.dep
  unfold resP
  rw [hv]
  simp only [Bool.not_true, Bool.false_eq_true, if_false]
  by_cases hf : (ps.isEmpty || decide (anyP ∈ ps)) = true
  · rw [if_pos hf]
    refine ⟨_, rfl, V.vs.prune hD V.len, fun h1 h2 => ?_⟩
    rw [Bool.or_eq_true, List.isEmpty_iff, decide_eq_true_eq] at hf
    rcases hf with h | h
    · exact absurd h h1
    · exact absurd h h2
  rw [if_neg hf]
  have hps : ps ≠ [] ∧ anyP ∉ ps := by
    simp only [Bool.or_eq_true, List.isEmpty_iff, decide_eq_true_eq, not_or] at hf
    exact hf
  have hmC : ∀ i, i < t.length → (resM t D ps)[i]! = true → resC t D ps i = true ∧ (0 ≤ t[i]!.p → (resM t D ps)[t[i]!.p.toNat]! = true) := by
    intro i hi hm
    unfold resM at hm ⊢
    rw [V.dn _ hi, Bool.and_eq_true] at hm
    refine ⟨hm.1, fun h => ?_⟩
    have := hm.2
    rw [decide_eq_false (by omega), Bool.false_or] at this
    exact this
  have hc : Cls t (resM t D ps) := fun i hi hm h => (hmC i hi hm).2 h
  have VO := V.vs.keep hc
  obtain ⟨out, hout⟩ : ∃ out, out = keepP t (resM t D ps) := ⟨_, rfl⟩
  have hol : out.length ≤ t.length := by rw [hout, keepP_length]; exact rk_le _ _
  have hWO : WP out D ps := by
    rw [hout]
    intro n hn hp
    obtain ⟨i, hi, hm, rfl⟩ := keep_mem.1 hn
    have h1 := polC_iff.1 (polC_keep V.vs hc hi hm hp)
    obtain ⟨h2, h3⟩ := resC_iff.1 (hmC i hi hm).1
    show t[i]!.pol ∈ ps
    rcases h2 with h2 | h2 | h2 | h2
    · omega
    · rw [h1.2.1] at h2; cases h2
    · rcases h1.2.2 with h4 | h4
      · rw [h2] at h4; cases h4
      · exfalso
        refine h3 ⟨h2, h4, ?_⟩
        have h5 := (V.root0 hi)
        have h6 : 0 < i := by rcases Nat.eq_zero_or_pos i with q | q; (have := h5.2 q; omega); exact q
        have h7 := V.dd i h6 hi
        have h8 := V.par i h6 hi
        have h9 := (V.dlo t[i]!.p.toNat (by omega)).1
        unfold pn at h7
        omega
    · exact h2
  have hmem : ∀ n ∈ out, ∃ i, i < t.length ∧ (resM t D ps)[i]! = true ∧ n = kpN (resM t D ps) t[i]! := fun n hn => keep_mem.1 (hout ▸ hn)
  have hmem2 : ∀ i, i < t.length → (resM t D ps)[i]! = true → kpN (resM t D ps) t[i]! ∈ out := fun i h1 h2 => hout ▸ keep_mem.2 ⟨i, h1, h2, rfl⟩
  have hat : ∀ i, i < t.length → (resM t D ps)[i]! = true → out[rk (resM t D ps) i]! = kpN (resM t D ps) t[i]! := fun i h1 h2 => hout ▸ keepP_at t _ h1 h2
  rw [← hout] at VO
  show ∃ r, (if (t.any fun n => spec n && decide (n.d = D) && decide (D > 0)) = true then if (keepP t (resM t D ps)).length + (resMore t (keepP t (resM t D ps)) D ps).length > 2048 then (([] : List Nd), (2 : Int)) else (pruneP (sortT (keepP t (resM t D ps) ++ resMore t (keepP t (resM t D ps)) D ps)) D, 0) else (pruneP (keepP t (resM t D ps)) D, 0)) = (r, 0) ∧ _
  rw [← hout]
  by_cases hX : (t.any fun n => spec n && decide (n.d = D) && decide (D > 0)) = true
  · rw [if_pos hX]
    have hml : (resMore t out D ps).length ≤ (setB ps).length := by
      unfold resMore; rw [List.length_map]; exact List.length_filter_le _ _
    rw [if_neg (by omega)]
    obtain ⟨x, hx, hsx⟩ := any_at.1 hX
    simp only [Bool.and_eq_true, decide_eq_true_eq] at hsx
    obtain ⟨⟨hs1, hs2⟩, hs3⟩ := hsx
    have hx0 : 0 < x := by
      rcases Nat.eq_zero_or_pos x with q | q
      · subst q; have := (V.root hx).1; omega
      · exact q
    have hxp := V.par x hx0 hx
    have hxd := V.dd x hx0 hx
    have hxs := (V.sp x hx0 hx (spec_iff.1 hs1)).1
    unfold pn at hxd hxs
    generalize hP : t[x]!.p.toNat = P at hxd hxs
    have hPl : P < t.length := by omega
    have hPm : (resM t D ps)[P]! = true := by
      rw [res_marks V ps P hPl, res_spec V ps P hPl hxs]
      unfold isX
      rw [decide_eq_false (show ¬ t[P]!.d = D by omega)]; simp
    obtain ⟨I, hI⟩ : ∃ I, I = idxP out fun n => spec n && decide (n.d = D - 1) := ⟨_, rfl⟩
    have hI0 : 0 ≤ I := by
      rcases Int.lt_or_le I 0 with q | q
      · obtain ⟨k, hk, hke⟩ := mem_at.1 (hmem2 P hPl hPm)
        have := idxP_none (hI ▸ q) k hk
        rw [hke] at this
        have h1 : spec (kpN (resM t D ps) t[P]!) = true := spec_iff.2 hxs
        have h2 : (kpN (resM t D ps) t[P]!).d = D - 1 := by unfold kpN; simp only; omega
        rw [h1, h2] at this
        simp at this
      · exact q
    obtain ⟨k, hk, hkI, hkf, -⟩ := idxP_some (hI ▸ hI0)
    rw [← hI] at hkI
    simp only [Bool.and_eq_true, decide_eq_true_eq] at hkf
    obtain ⟨A, L, hAL, VA, hA, hL, hg⟩ := VO.split (D := D) hs3
    have hkA : k < A.length := by
      rcases Nat.lt_or_ge k A.length with q | q
      · exact q
      · have h1 : out[k]! ∈ L := by
          rw [hAL, getElem!_append_right' q]
          rw [hAL, List.length_append] at hk
          exact mem_at.2 ⟨k - A.length, by omega, rfl⟩
        have := (hg _ h1).d; omega
    have hAk : A[k]! = out[k]! := by rw [hAL, getElem!_append_left' hkA]
    have hgm : ∀ n ∈ resMore t out D ps, Gd A D n ∧ n.pol ∈ ps ∧ n.p = I ∧ haveK t D ps n.pol t.length = false := by
      intro n hn
      unfold resMore at hn
      obtain ⟨q, hq, rfl⟩ := List.mem_map.1 hn
      rw [List.mem_filter, setB_mem, Bool.not_eq_true'] at hq
      have hqa : q ≠ anyP := fun e => hps.2 (e ▸ hq.1)
      rw [← hI, hkI]
      refine ⟨⟨rfl, by show (0 : Int) ≤ (k : Int); omega, by show (k : Int) < _; omega, ?_, asc_one q, fun h => absurd h hqa, fun _ h => ?_⟩, hq.1, rfl, hq.2⟩
      · unfold newN; simp only [Int.toNat_natCast]; rw [hAk]; omega
      · have : anyP ∈ [q] := h
        rw [List.mem_singleton] at this; exact hqa this.symm
    have hc2 : (L ++ resMore t out D ps).Pairwise Cmp := by
      refine List.pairwise_append.2 ⟨hL.cmp, ?_, fun a ha b hb => ?_⟩
      · unfold resMore
        rw [List.pairwise_map]
        refine (List.Pairwise.filter _ (setB_asc _)).imp fun {a b} h => ?_
        exact .inl ((ltT_iff _ _).2 (.inr ⟨rfl, .inr ⟨rfl, h⟩⟩))
      · obtain ⟨G, hbp, hbI, hbh⟩ := hgm b hb
        have Ga := hg a ha
        have hne : a.p = b.p → a.pol ≠ b.pol := by
          intro hp e
          obtain ⟨i, hi, hm, hai⟩ := hmem a (hAL ▸ List.mem_append.2 (.inr ha))
          have h1 := (hmC i hi hm)
          have h2 : 0 ≤ t[i]!.p := by
            have := Ga.p0
            rcases Int.lt_or_le t[i]!.p 0 with q | q
            · rw [hai] at this; unfold kpN at this; simp only at this; rw [if_pos q] at this; omega
            · exact q
          have h3 := h1.2 h2
          have h4 : a.p = (rk (resM t D ps) t[i]!.p.toNat : Nat) := by
            rw [hai]; unfold kpN; simp only; rw [if_neg (by omega), if_pos h3]
          have hpi := V.pge hi
          have h5 : out[k]! = kpN (resM t D ps) t[t[i]!.p.toNat]! := by
            have : k = rk (resM t D ps) t[i]!.p.toNat := by omega
            rw [this]
            exact hat _ (by omega) h3
          have h6 : spec (pn t t[i]!) = true := by
            have := hkf.1; rw [h5] at this; exact this
          have h7 : t[i]!.pol = b.pol := by rw [← e, hai]; rfl
          have h8 : spec t[i]! = false := by
            cases q : spec t[i]! with
            | false => rfl
            | true =>
              exfalso
              have : b.pol = anyP := by rw [← h7]; exact spec_iff.1 q
              exact hps.2 (this ▸ hbp)
          unfold haveK at hbh
          rw [List.any_eq_false] at hbh
          refine hbh i (List.mem_range.2 hi) ?_
          have h9 : (dnM t (resC t D ps) t.length)[i]! = true := hm
          rw [h9, h6, h8, decide_eq_true h2, decide_eq_true h7, decide_eq_true (show t[i]!.pol ∈ ps from h7 ▸ hbp)]
          rfl
        unfold Cmp
        rw [ltT_iff, ltT_iff, Ga.d, G.d]
        simp only [Int.lt_irrefl, false_or, true_and]
        by_cases p1 : a.p < b.p
        · exact .inl (.inl p1)
        · by_cases p2 : b.p < a.p
          · exact .inr (.inl p2)
          · have p3 : a.p = b.p := by omega
            by_cases p4 : a.pol < b.pol
            · exact .inl (.inr ⟨p3, p4⟩)
            · exact .inr (.inr ⟨p3.symm, ltB_or p4 (hne p3)⟩)
    have hVS := VS.sort (xs := resMore t out D ps) VA hA hL.srt hg (fun n hn => (hgm n hn).1) hc2
    have hsl : (sortT (out ++ resMore t out D ps)).length = out.length + (resMore t out D ps).length := by
      have := fold_length (lt := ltT) (out ++ resMore t out D ps) []
      unfold sortT srtL
      rw [this]; simp
    have hsrt : Srt ltT (A ++ L) := hAL ▸ VO.lt.srt
    have hform : sortT (A ++ L ++ resMore t out D ps) = A ++ insL L (resMore t out D ps) := by
      rw [sort_ins hsrt, insL_lo hA _ L fun x h => (hgm x h).1.d]
    rw [← hAL] at hVS hform
    refine ⟨_, rfl, hVS.prune hD (by rw [hsl]; omega), fun _ _ => WP.prune hVS fun n hn hp => ?_⟩
    have hpn : ∀ n : Nd, 0 ≤ n.p → n.p < A.length → pn (sortT (out ++ resMore t out D ps)) n = pn out n := by
      intro n h0 h1
      unfold pn
      rw [hform, getElem!_append_left' (by omega)]
      conv => rhs; rw [hAL]
      rw [getElem!_append_left' (by omega)]
    rw [hform, List.mem_append, insL_mem] at hn
    rcases hn with h | h | h
    · rw [polC_iff] at hp
      have hpA : n.p < A.length := by
        obtain ⟨i, hi, rfl⟩ := mem_at.1 h
        have := VA.pge i hi; omega
      rw [hpn n hp.1 hpA] at hp
      exact hWO n (hAL ▸ List.mem_append.2 (.inl h)) (polC_iff.2 hp)
    · rw [polC_iff] at hp
      rw [hpn n hp.1 (hg n h).p1] at hp
      exact hWO n (hAL ▸ List.mem_append.2 (.inr h)) (polC_iff.2 hp)
    · exact (hgm n h).2.1
  · rw [if_neg hX]
    exact ⟨_, rfl, VO.prune hD (by have := V.len; omega), fun _ _ => hWO.prune VO⟩
end
end Go.Proofs.Ytmagjdocondmhaa.Tr

namespace Go.Proofs.Ytmagjdocondmhaa.Tr
open Go Go.RowKit Go.Proofs.Ytmagjdocondmhaa.St
set_option linter.unusedVariables false
set_option linter.unusedSimpArgs false

section
variable {t : List Nd} {D : Int}
theorem res_vs (V : VT t D) (ps : List B) (hps : ps ≠ [] ∧ anyP ∉ ps) : VS (keepP t (resM t D ps)) D ∧ ((t.any fun n => spec n && decide (n.d = D) && decide (D > 0)) = true → VS (sortT (keepP t (resM t D ps) ++ resMore t (keepP t (resM t D ps)) D ps)) D) := by
  have hmC : ∀ i, i < t.length → (resM t D ps)[i]! = true → resC t D ps i = true ∧ (0 ≤ t[i]!.p → (resM t D ps)[t[i]!.p.toNat]! = true) := by
    intro i hi hm
    unfold resM at hm ⊢
    rw [V.dn _ hi, Bool.and_eq_true] at hm
    refine ⟨hm.1, fun h => ?_⟩
    have := hm.2
    rw [decide_eq_false (by omega), Bool.false_or] at this
    exact this
  have hc : Cls t (resM t D ps) := fun i hi hm h => (hmC i hi hm).2 h
  have VO := V.vs.keep hc
  obtain ⟨out, hout⟩ : ∃ out, out = keepP t (resM t D ps) := ⟨_, rfl⟩
  have hol : out.length ≤ t.length := by rw [hout, keepP_length]; exact rk_le _ _
  have hmem : ∀ n ∈ out, ∃ i, i < t.length ∧ (resM t D ps)[i]! = true ∧ n = kpN (resM t D ps) t[i]! := fun n hn => keep_mem.1 (hout ▸ hn)
  have hmem2 : ∀ i, i < t.length → (resM t D ps)[i]! = true → kpN (resM t D ps) t[i]! ∈ out := fun i h1 h2 => hout ▸ keep_mem.2 ⟨i, h1, h2, rfl⟩
  have hat : ∀ i, i < t.length → (resM t D ps)[i]! = true → out[rk (resM t D ps) i]! = kpN (resM t D ps) t[i]! := fun i h1 h2 => hout ▸ keepP_at t _ h1 h2
  rw [← hout] at VO
  refine ⟨by rw [← hout]; exact VO, fun hX => ?_⟩
  rw [← hout]
  obtain ⟨x, hx, hsx⟩ := any_at.1 hX
  simp only [Bool.and_eq_true, decide_eq_true_eq] at hsx
  obtain ⟨⟨hs1, hs2⟩, hs3⟩ := hsx
  have hx0 : 0 < x := by
    rcases Nat.eq_zero_or_pos x with q | q
    · subst q; have := (V.root hx).1; omega
    · exact q
  have hxp := V.par x hx0 hx
  have hxd := V.dd x hx0 hx
  have hxs := (V.sp x hx0 hx (spec_iff.1 hs1)).1
  unfold pn at hxd hxs
  generalize hP : t[x]!.p.toNat = P at hxd hxs
  have hPl : P < t.length := by omega
  have hPm : (resM t D ps)[P]! = true := by
    rw [res_marks V ps P hPl, res_spec V ps P hPl hxs]
    unfold isX
    rw [decide_eq_false (show ¬ t[P]!.d = D by omega)]; simp
  obtain ⟨I, hI⟩ : ∃ I, I = idxP out fun n => spec n && decide (n.d = D - 1) := ⟨_, rfl⟩
  have hI0 : 0 ≤ I := by
    rcases Int.lt_or_le I 0 with q | q
    · obtain ⟨k, hk, hke⟩ := mem_at.1 (hmem2 P hPl hPm)
      have := idxP_none (hI ▸ q) k hk
      rw [hke] at this
      have h1 : spec (kpN (resM t D ps) t[P]!) = true := spec_iff.2 hxs
      have h2 : (kpN (resM t D ps) t[P]!).d = D - 1 := by unfold kpN; simp only; omega
      rw [h1, h2] at this
      simp at this
    · exact q
  obtain ⟨k, hk, hkI, hkf, -⟩ := idxP_some (hI ▸ hI0)
  rw [← hI] at hkI
  simp only [Bool.and_eq_true, decide_eq_true_eq] at hkf
  obtain ⟨A, L, hAL, VA, hA, hL, hg⟩ := VO.split (D := D) hs3
  have hkA : k < A.length := by
    rcases Nat.lt_or_ge k A.length with q | q
    · exact q
    · have h1 : out[k]! ∈ L := by
        rw [hAL, getElem!_append_right' q]
        rw [hAL, List.length_append] at hk
        exact mem_at.2 ⟨k - A.length, by omega, rfl⟩
      have := (hg _ h1).d; omega
  have hAk : A[k]! = out[k]! := by rw [hAL, getElem!_append_left' hkA]
  have hgm : ∀ n ∈ resMore t out D ps, Gd A D n ∧ n.pol ∈ ps ∧ n.p = I ∧ haveK t D ps n.pol t.length = false := by
    intro n hn
    unfold resMore at hn
    obtain ⟨q, hq, rfl⟩ := List.mem_map.1 hn
    rw [List.mem_filter, setB_mem, Bool.not_eq_true'] at hq
    have hqa : q ≠ anyP := fun e => hps.2 (e ▸ hq.1)
    rw [← hI, hkI]
    refine ⟨⟨rfl, by show (0 : Int) ≤ (k : Int); omega, by show (k : Int) < _; omega, ?_, asc_one q, fun h => absurd h hqa, fun _ h => ?_⟩, hq.1, rfl, hq.2⟩
    · unfold newN; simp only [Int.toNat_natCast]; rw [hAk]; omega
    · have : anyP ∈ [q] := h
      rw [List.mem_singleton] at this; exact hqa this.symm
  have hc2 : (L ++ resMore t out D ps).Pairwise Cmp := by
    refine List.pairwise_append.2 ⟨hL.cmp, ?_, fun a ha b hb => ?_⟩
    · unfold resMore
      rw [List.pairwise_map]
      refine (List.Pairwise.filter _ (setB_asc _)).imp fun {a b} h => ?_
      exact .inl ((ltT_iff _ _).2 (.inr ⟨rfl, .inr ⟨rfl, h⟩⟩))
    · obtain ⟨G, hbp, hbI, hbh⟩ := hgm b hb
      have Ga := hg a ha
      have hne : a.p = b.p → a.pol ≠ b.pol := by
        intro hp e
        obtain ⟨i, hi, hm, hai⟩ := hmem a (hAL ▸ List.mem_append.2 (.inr ha))
        have h1 := (hmC i hi hm)
        have h2 : 0 ≤ t[i]!.p := by
          have := Ga.p0
          rcases Int.lt_or_le t[i]!.p 0 with q | q
          · rw [hai] at this; unfold kpN at this; simp only at this; rw [if_pos q] at this; omega
          · exact q
        have h3 := h1.2 h2
        have h4 : a.p = (rk (resM t D ps) t[i]!.p.toNat : Nat) := by
          rw [hai]; unfold kpN; simp only; rw [if_neg (by omega), if_pos h3]
        have hpi := V.pge hi
        have h5 : out[k]! = kpN (resM t D ps) t[t[i]!.p.toNat]! := by
          have : k = rk (resM t D ps) t[i]!.p.toNat := by omega
          rw [this]
          exact hat _ (by omega) h3
        have h6 : spec (pn t t[i]!) = true := by
          have := hkf.1; rw [h5] at this; exact this
        have h7 : t[i]!.pol = b.pol := by rw [← e, hai]; rfl
        have h8 : spec t[i]! = false := by
          cases q : spec t[i]! with
          | false => rfl
          | true =>
            exfalso
            have : b.pol = anyP := by rw [← h7]; exact spec_iff.1 q
            exact hps.2 (this ▸ hbp)
        unfold haveK at hbh
        rw [List.any_eq_false] at hbh
        refine hbh i (List.mem_range.2 hi) ?_
        have h9 : (dnM t (resC t D ps) t.length)[i]! = true := hm
        rw [h9, h6, h8, decide_eq_true h2, decide_eq_true h7, decide_eq_true (show t[i]!.pol ∈ ps from h7 ▸ hbp)]
        rfl
      unfold Cmp
      rw [ltT_iff, ltT_iff, Ga.d, G.d]
      simp only [Int.lt_irrefl, false_or, true_and]
      by_cases p1 : a.p < b.p
      · exact .inl (.inl p1)
      · by_cases p2 : b.p < a.p
        · exact .inr (.inl p2)
        · have p3 : a.p = b.p := by omega
          by_cases p4 : a.pol < b.pol
          · exact .inl (.inr ⟨p3, p4⟩)
          · exact .inr (.inr ⟨p3.symm, ltB_or p4 (hne p3)⟩)
  have hVS := VS.sort (xs := resMore t out D ps) VA hA hL.srt hg (fun n hn => (hgm n hn).1) hc2
  rw [← hAL] at hVS
  exact hVS
theorem res_len (V : VT t D) (ps : List B) : (keepP t (resM t D ps)).length ≤ t.length := by rw [keepP_length]; exact rk_le _ _
/-- the last index of a special node at the depth -/
def dpK (t : List Nd) (D : Int) : Nat → Int
  | 0 => -1
  | k + 1 => if spec t[k]! && decide (t[k]!.d = D) && decide (D > 0) then (k : Nat) else dpK t D k
theorem dpK_iff (t : List Nd) (D : Int) : ∀ k, k ≤ t.length → (0 ≤ dpK t D k ↔ ∃ i, i < k ∧ (spec t[i]! && decide (t[i]!.d = D) && decide (D > 0)) = true)
  | 0, _ => by
    unfold dpK
    constructor
    · intro h; omega
    · rintro ⟨i, h, -⟩; omega
  | k + 1, hk => by
    have ih := dpK_iff t D k (by omega)
    unfold dpK
    by_cases q : (spec t[k]! && decide (t[k]!.d = D) && decide (D > 0)) = true
    · rw [if_pos q]
      exact ⟨fun _ => ⟨k, by omega, q⟩, fun _ => by omega⟩
    · rw [if_neg q, ih]
      constructor
      · rintro ⟨i, h1, h2⟩; exact ⟨i, by omega, h2⟩
      · rintro ⟨i, h1, h2⟩
        by_cases e : i = k
        · subst e; exact absurd h2 q
        · exact ⟨i, by omega, h2⟩
theorem dpK_any (t : List Nd) (D : Int) : 0 ≤ dpK t D t.length ↔ (t.any fun n => spec n && decide (n.d = D) && decide (D > 0)) = true := by
  rw [dpK_iff t D _ (Nat.le_refl _), any_at]
theorem haveK_succ (t : List Nd) (D : Int) (ps : List B) (q : B) (k : Nat) : haveK t D ps q (k + 1) = (haveK t D ps q k || ((dnM t (resC t D ps) t.length)[k]! && (decide (t[k]!.p ≥ 0) && (spec (pn t t[k]!) && (!spec t[k]! && (decide (t[k]!.pol ∈ ps) && decide (t[k]!.pol = q))))))) := by
  unfold haveK
  rw [List.range_succ, List.any_append]; simp [-List.getElem!_eq_getElem?_getD]
theorem res_step (k : Nat) (ps : List B) {pm C1 Lk : Bool} (hL : Lk = (resC t D ps k && pm)) (hC : C1 = (pm && (decide (t[k]!.p ≥ 0) && (spec (pn t t[k]!) && !spec t[k]!)))) :
    Lk = (if (spec t[k]! && decide (t[k]!.d = D) && decide (D > 0)) = true then false else if C1 = true then decide (t[k]!.pol ∈ ps) else pm) ∧
    ∀ b : Bool, (Lk && (decide (t[k]!.p ≥ 0) && (spec (pn t t[k]!) && (!spec t[k]! && (decide (t[k]!.pol ∈ ps) && b))))) = (C1 && (decide (t[k]!.pol ∈ ps) && b)) := by
  unfold resC at hL
  have h1 : decide (t[k]!.p < 0) = !decide (t[k]!.p ≥ 0) := by
    by_cases q : t[k]!.p < 0
    · rw [decide_eq_true q, decide_eq_false (by omega)]; rfl
    · rw [decide_eq_false q, decide_eq_true (by omega)]; rfl
  rw [h1] at hL
  subst hL hC
  generalize decide (t[k]!.p ≥ 0) = a
  generalize spec (pn t t[k]!) = b
  generalize spec t[k]! = c
  generalize decide (t[k]!.pol ∈ ps) = d
  generalize decide (t[k]!.d = D) = e
  generalize decide (D > 0) = f
  clear h1
  refine ⟨?_, fun g => ?_⟩
  · cases a <;> cases b <;> cases c <;> cases d <;> cases e <;> cases f <;> cases pm <;> rfl
  · cases a <;> cases b <;> cases c <;> cases d <;> cases e <;> cases f <;> cases pm <;> cases g <;> rfl
end
end Go.Proofs.Ytmagjdocondmhaa.Tr
