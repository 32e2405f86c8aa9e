/-
  TreeEnters, walked.
-/
import Derived.Test.YtmagjdocondmhaaTrChg
namespace Go.Proofs.Ytmagjdocondmhaa.Tr
open Go Go.RowKit Go.Proofs.Ytmagjdocondmhaa.Slc Go.Proofs.Ytmagjdocondmhaa.St Go.Proofs.Ytmagjdocondmhaa.Mp
set_option linter.unusedVariables false
set_option linter.unusedSimpArgs false
attribute [local go_sem] Oper.semAt_some

theorem pruneP_len (t : List Nd) (D : Int) : (pruneP t D).length ≤ t.length := by
  unfold pruneP
  rw [keepP_length]
  exact rk_le _ _
theorem sortT_len (l : List Nd) : (sortT l).length = l.length := by
  have := fold_length (lt := ltT) l []
  rw [List.length_nil, Nat.zero_add] at this
  exact this
theorem enterP_len (t : List Nd) (D : Int) (ps : List B) (c : Bool) : (enterP t D ps c).1.length ≤ 2048 := by
  unfold enterP
  split
  · exact Nat.zero_le _
  · simp only
    split
    · exact Nat.zero_le _
    · rename_i h
      have h1 := pruneP_len (sortT (t ++ moreK t D (setB ps) (c && decide (anyP ∈ setB ps)) t.length)) D
      rw [sortT_len, List.length_append] at h1
      exact Nat.le_trans h1 (by omega)
set_option maxRecDepth 100000 in
set_option maxHeartbeats 8000000 in
theorem law_enters (v : Value) (zs : List Int) (sp : Bool) (w : World) (hI : Ints w .i64 v zs) :
    Calls Try.prog 4 #[v, .bool sp] w fun e w' => e = .returned (.bool true) ∧ Below w.heap.size w w' := by
  have haw := awake_any
  have hnew := new_any w v zs w hI (Below.refl _ _)
  go_enter Try.func4, Try.ntmps4
  go_wp2_with fail
  refine hnew.mono ?_
  rintro e w1 ⟨rfl, hb1, hD1⟩
  clear hnew
  obtain ⟨g, hg⟩ : ∃ g, g = w.heap.size := ⟨_, rfl⟩
  rw [← hg] at hD1 ⊢
  have hgr := lgrown_any w v zs w1 g hD1 hb1 4 (by omega)
  clear hg hb1 hD1
  go_wp2_with fail
  go_at_call 13
  refine hgr.mono ?_
  rintro e w2 ⟨tv, l, n, rfl, hn4, hT, hG⟩
  clear hgr
  have hpo := policies_any w v zs w2 g 5 hT.dk (by omega)
  have HT2 := Bx.mk hT
  have HG := Bx.mk hG
  obtain ⟨ta, tc, rfl, -⟩ := hT.tr.own.rd.form
  have HLL := Bx.mk (show l.length ≤ 2048 by have := hG.len; rwa [nds_len] at this)
  clear hT hG
  go_wp2_with fail
  go_at_call 20
  refine hpo.mono ?_
  rintro e w3 ⟨pv, ps, rfl, hM, hpl, hpx⟩
  clear hpo
  have HT3 := Bx.mk (HT2.out.grow hM.gr hM.dk)
  have HP3 := Bx.mk hM.own.rd
  have HPX := Bx.mk (few_of hpx)
  have HGL := Bx.mk (show g < w3.heap.size from hM.dk.lt)
  obtain ⟨pa, pc, rfl, -⟩ := hM.own.rd.form
  obtain ⟨D, hD⟩ : ∃ D : Int, D = (n : Int) + 1 := ⟨_, rfl⟩
  have wD : IntKind.i64.wrap ((n : Int) + 1) = D := by rw [hD]; exact IntWalk.i64_in _ (by omega)
  have HID := Bx.mk (show I64 D by unfold I64; omega)
  have hent := enter_any w3 (.slice ta l.length tc) (.slice pa ps.length pc) l ps HT3.out.tr.tl HP3.out (by have := HLL.out; omega) (by omega) HPX.out D HID.out sp
  clear hM hpx hD HT2
  go_wp2_with fail
  go_at_call 21
  refine hent.mono ?_
  rintro e w4 ⟨v4, l4, rfl, ho4, hn4', hb4⟩
  clear hent
  have HT4 := Bx.mk (HT3.out.below hb4)
  have HP4 := Bx.mk (HP3.out.below hb4)
  have HO4 := Bx.mk ho4
  have HN4 := Bx.mk hn4'
  have HG4 := Bx.mk (show g < w4.heap.size from HT4.out.dk.lt)
  obtain ⟨a4, c4, hv4, -⟩ := ho4.own.rd.form
  subst hv4
  have hent := renter_any w4 (.slice ta l.length tc) (.slice pa ps.length pc) l ps HT4.out.tr.tl HP4.out 5 HG.out.ex (by
    have h1 : l.length * (ps.length + 5 + 1) ≤ 2048 * 11 := Nat.mul_le_mul HLL.out (by omega)
    omega) (by omega) HPX.out D HID.out sp
  rw [enter_eq] at hent
  clear ho4 hn4' hb4
  go_wp2_with fail
  go_at_call 22
  refine hent.mono ?_
  rintro e w5 ⟨v5, l5, rfl, ho5, hn5, hb5⟩
  clear hent
  have HT5 := Bx.mk (HT4.out.below hb5)
  have HP5 := Bx.mk (HP4.out.below hb5)
  have HO45 := Bx.mk (HO4.out.below hb5)
  have HO5 := Bx.mk ho5
  have HN5 := Bx.mk hn5
  obtain ⟨a5, c5, hv5, -⟩ := ho5.own.rd.form
  subst hv5
  have hch := lchanged_any w v zs w5 g (.slice ta l.length tc) l HT5.out HG.out.ex HLL.out
  clear ho5 hn5 hb5
  go_wp2_with fail
  go_at_call 14
  refine hch.mono ?_
  rintro e w6 ⟨cv, cl, rfl, hcl, hT6, hg6, hcn, hce⟩
  clear hch
  have HP6 := Bx.mk (rd_deck HP5.out HT5.out.dk hg6)
  have HX6 := Bx.mk (HO45.out.deck HT5.out.dk hg6 HGL.out).tl
  have HY6 := Bx.mk (HO5.out.deck HT5.out.dk hg6 HG4.out).tl
  have HB6 := Bx.mk hT6.bel
  have HC6 := Bx.mk hcl
  have HCE := Bx.mk hce
  have HCN := Bx.mk (show cl.length ≤ 2048 from Nat.le_trans hcn HLL.out)
  obtain ⟨ca, cc, hcv, -⟩ := hcl.rd.form
  subst hcv
  have hent := enter_any w6 (.slice ca cl.length cc) (.slice pa ps.length pc) cl ps HC6.out HP6.out (by have := HCN.out; omega) (by omega) HPX.out D HID.out sp
  clear hcl hT6 hg6 hcn hce HO45 HO5 HT5 HP5 HT4 HP4 HT3 HP3
  go_wp2_with fail
  go_at_call 21
  refine hent.mono ?_
  rintro e w7 ⟨v7, l7, rfl, ho7, hn7, hb7⟩
  clear hent
  have HB7 := Bx.mk hb7
  have HZ7 := Bx.mk ho7.tl
  have HN7 := Bx.mk hn7
  obtain ⟨a7, c7, hv7, -⟩ := ho7.own.rd.form
  subst hv7
  have hent := renter_any w7 (.slice ca cl.length cc) (.slice pa ps.length pc) cl ps (HC6.out.below hb7) (HP6.out.below hb7) 5 HCE.out (by
    have h1 : cl.length * (ps.length + 5 + 1) ≤ 2048 * 11 := Nat.mul_le_mul HCN.out (by omega)
    omega) (by omega) HPX.out D HID.out sp
  rw [enter_eq] at hent
  clear ho7 hn7 hb7
  go_wp2_with fail
  go_at_call 22
  refine hent.mono ?_
  rintro e w8 ⟨v8, l8, rfl, ho8, hn8, hb8⟩
  clear hent
  have HB8 := Bx.mk (HB7.out.trans (hb8.mono HB7.out.size))
  have HZ8 := Bx.mk (HZ7.out.below hb8)
  have HU8 := Bx.mk ho8.tl
  have hs1 := samet_any w8 (.slice a4 l4.length c4) (.slice a5 l5.length c5) l4 l5 (HX6.out.below HB8.out) (HY6.out.below HB8.out) (by rw [HN4.out, HN5.out]) (by have := enterP_len (nds l) D ps sp; rw [← HN4.out, nds_len] at this; omega)
  have HSM := Bx.mk (show nds l7 = nds l8 by rw [HN7.out, hn8])
  have HZL := Bx.mk (show l7.length ≤ 2048 by have := enterP_len (nds cl) D ps sp; rwa [← HN7.out, nds_len] at this)
  obtain ⟨a8, c8, hv8, -⟩ := ho8.own.rd.form
  subst hv8
  obtain ⟨q1, hq1⟩ : ∃ q, q = (enterP (nds l) D ps sp).2 := ⟨_, rfl⟩
  obtain ⟨q2, hq2⟩ : ∃ q, q = (enterP (nds cl) D ps sp).2 := ⟨_, rfl⟩
  rw [← hq1, ← hq2]
  have t1 : (q1 == q1) = true := by simp
  have t2 : (q2 == q2) = true := by simp
  clear ho8 hn8 hb8 hq1 hq2 HN4 HN5 HN7
  go_wp2_with fail
  go_at_call 17
  refine hs1.mono ?_
  rintro e w9 ⟨rfl, hb9⟩
  have HB9 := Bx.mk (HB8.out.trans (hb9.mono HB8.out.size))
  have hs2 := samet_any w9 (.slice a7 l7.length c7) (.slice a8 l8.length c8) l7 l8 (HZ8.out.below hb9) (HU8.out.below hb9) HSM.out (by have := HZL.out; omega)
  clear hs1 hb9
  go_wp2_with fail
  go_at_call 17
  refine hs2.mono ?_
  rintro e w10 ⟨rfl, hb10⟩
  have HB10 := Bx.mk (HB9.out.trans (hb10.mono HB9.out.size))
  clear hs2 hb10
  go_wp2_with fail
  go_at_call 11
  refine (haw _).mono ?_
  rintro e w11 ⟨rfl, hb11⟩
  have HB11 := Bx.mk (HB6.out.trans ((HB10.out.trans (hb11.mono HB10.out.size)).mono HB6.out.size))
  clear haw hb11
  go_wp2_with fail
  go_ret
  exact ⟨rfl, HB11.out⟩
end Go.Proofs.Ytmagjdocondmhaa.Tr
