/-
  TreeRestricts, walked.
-/
import Derived.Test.YtmagjdocondmhaaLawEntersWalk
namespace Go.Proofs.Ytmagjdocondmhaa.Tr
open Go Go.RowKit Go.Proofs.Ytmagjdocondmhaa.Slc Go.Proofs.Ytmagjdocondmhaa.St Go.Proofs.Ytmagjdocondmhaa.Mp
set_option linter.unusedVariables false
set_option linter.unusedSimpArgs false
attribute [local go_sem] Oper.semAt_some

theorem resP_len (t : List Nd) (D : Int) (ps : List B) (ht : t.length ≤ 2048) : (resP t D ps).1.length ≤ 2048 := by
  unfold resP
  split
  · exact Nat.zero_le _
  · split
    · exact Nat.le_trans (pruneP_len t D) ht
    · simp only
      have h2 := rk_le (resM t D ps) t.length
      have h3 := keepP_length t (resM t D ps)
      split
      · split
        · exact Nat.zero_le _
        · rename_i h
          have h1 := pruneP_len (sortT (keepP t (resM t D ps) ++ resMore t (keepP t (resM t D ps)) D ps)) D
          rw [sortT_len, List.length_append] at h1
          exact Nat.le_trans h1 (by omega)
      · have h1 := pruneP_len (keepP t (resM t D ps)) D
        exact Nat.le_trans h1 (by omega)
set_option maxRecDepth 100000 in
set_option maxHeartbeats 8000000 in
theorem law_restricts (v : Value) (zs : List Int) (w : World) (hI : Ints w .i64 v zs) :
    Calls Try.prog 6 #[v] w fun e w' => e = .returned (.bool true) ∧ Below w.heap.size w w' := by
  have haw := awake_any
  have hnew := new_any w v zs w hI (Below.refl _ _)
  go_enter Try.func6, Try.ntmps6
  go_wp2_with fail
  refine hnew.mono ?_
  rintro e w1 ⟨rfl, hb1, hD1⟩
  clear hnew
  obtain ⟨g, hg⟩ : ∃ g, g = w.heap.size := ⟨_, rfl⟩
  rw [← hg] at hD1 ⊢
  have hgr := lgrown_any w v zs w1 g hD1 hb1 4 (by omega)
  clear hg hb1 hD1
  go_wp2_with fail
  go_at_call 13
  refine hgr.mono ?_
  rintro e w2 ⟨tv, l, n, rfl, hn4, hT, hG⟩
  clear hgr
  have hpo := policies_any w v zs w2 g 3 hT.dk (by omega)
  have HT2 := Bx.mk hT
  have HG := Bx.mk hG
  obtain ⟨ta, tc, rfl, -⟩ := hT.tr.own.rd.form
  have HLL := Bx.mk (show l.length ≤ 2048 by have := hG.len; rwa [nds_len] at this)
  clear hT hG
  go_wp2_with fail
  go_at_call 20
  refine hpo.mono ?_
  rintro e w3 ⟨pv, ps, rfl, hM, hpl, hpx⟩
  clear hpo
  have HT3 := Bx.mk (HT2.out.grow hM.gr hM.dk)
  have HP3 := Bx.mk hM.own.rd
  have HPX := Bx.mk (few_of hpx)
  have HGL := Bx.mk (show g < w3.heap.size from hM.dk.lt)
  obtain ⟨pa, pc, rfl, -⟩ := hM.own.rd.form
  obtain ⟨D, hD⟩ : ∃ D : Int, D = (n : Int) := ⟨_, rfl⟩
  have HID := Bx.mk (show I64 D by unfold I64; omega)
  have hent := restr_any w3 (.slice ta l.length tc) (.slice pa ps.length pc) l ps HT3.out.tr.tl HP3.out (by have := HLL.out; omega) (by omega) HPX.out D HID.out
  rw [← hD]
  clear hM hpx hD HT2
  go_wp2_with fail
  go_at_call 26
  refine hent.mono ?_
  rintro e w4 ⟨v4, l4, rfl, ho4, hn4', hb4⟩
  clear hent
  have HT4 := Bx.mk (HT3.out.below hb4)
  have HP4 := Bx.mk (HP3.out.below hb4)
  have HO4 := Bx.mk ho4
  have HN4 := Bx.mk hn4'
  have HG4 := Bx.mk (show g < w4.heap.size from HT4.out.dk.lt)
  obtain ⟨a4, c4, hv4, -⟩ := ho4.own.rd.form
  subst hv4
  have hent := rrestr_any w4 (.slice ta l.length tc) (.slice pa ps.length pc) l ps HT4.out.tr.tl HP4.out (by have := HLL.out; omega) (by omega) HPX.out D
  rw [res_eq] at hent
  clear ho4 hn4' hb4
  go_wp2_with fail
  go_at_call 27
  refine hent.mono ?_
  rintro e w5 ⟨v5, l5, rfl, ho5, hn5, hb5⟩
  clear hent
  have HT5 := Bx.mk (HT4.out.below hb5)
  have HP5 := Bx.mk (HP4.out.below hb5)
  have HO45 := Bx.mk (HO4.out.below hb5)
  have HO5 := Bx.mk ho5
  have HN5 := Bx.mk hn5
  obtain ⟨a5, c5, hv5, -⟩ := ho5.own.rd.form
  subst hv5
  have hch := lchanged_any w v zs w5 g (.slice ta l.length tc) l HT5.out HG.out.ex HLL.out
  clear ho5 hn5 hb5
  go_wp2_with fail
  go_at_call 14
  refine hch.mono ?_
  rintro e w6 ⟨cv, cl, rfl, hcl, hT6, hg6, hcn, hce⟩
  clear hch
  have HP6 := Bx.mk (rd_deck HP5.out HT5.out.dk hg6)
  have HX6 := Bx.mk (HO45.out.deck HT5.out.dk hg6 HGL.out).tl
  have HY6 := Bx.mk (HO5.out.deck HT5.out.dk hg6 HG4.out).tl
  have HB6 := Bx.mk hT6.bel
  have HTL6 := Bx.mk hT6.tr.tl
  have HC6 := Bx.mk hcl
  have HCE := Bx.mk hce
  have HCN := Bx.mk (show cl.length ≤ 2048 from Nat.le_trans hcn HLL.out)
  obtain ⟨ca, cc, hcv, -⟩ := hcl.rd.form
  subst hcv
  have hent := restr_any w6 (.slice ca cl.length cc) (.slice pa ps.length pc) cl ps HC6.out HP6.out (by have := HCN.out; omega) (by omega) HPX.out D HID.out
  clear hcl hT6 hg6 hcn hce HO45 HO5 HT5 HP5 HT4 HP4 HT3 HP3
  go_wp2_with fail
  go_at_call 26
  refine hent.mono ?_
  rintro e w7 ⟨v7, l7, rfl, ho7, hn7, hb7⟩
  clear hent
  have HB7 := Bx.mk hb7
  have HZ7 := Bx.mk ho7.tl
  have HN7 := Bx.mk hn7
  obtain ⟨a7, c7, hv7, -⟩ := ho7.own.rd.form
  subst hv7
  have hent := rrestr_any w7 (.slice ca cl.length cc) (.slice pa ps.length pc) cl ps (HC6.out.below hb7) (HP6.out.below hb7) (by have := HCN.out; omega) (by omega) HPX.out D
  rw [res_eq] at hent
  clear ho7 hn7 hb7
  go_wp2_with fail
  go_at_call 27
  refine hent.mono ?_
  rintro e w8 ⟨v8, l8, rfl, ho8, hn8, hb8⟩
  clear hent
  have HB8 := Bx.mk (HB7.out.trans (hb8.mono HB7.out.size))
  have HZ8 := Bx.mk (HZ7.out.below hb8)
  have HU8 := Bx.mk ho8.tl
  have hs1 := samet_any w8 (.slice a4 l4.length c4) (.slice a5 l5.length c5) l4 l5 (HX6.out.below HB8.out) (HY6.out.below HB8.out) (by rw [HN4.out, HN5.out]) (by have := resP_len (nds l) D ps (by rw [nds_len]; exact HLL.out); rw [← HN4.out, nds_len] at this; omega)
  have HSM := Bx.mk (show nds l7 = nds l8 by rw [HN7.out, hn8])
  have HZL := Bx.mk (show l7.length ≤ 2048 by have := resP_len (nds cl) D ps (by rw [nds_len]; exact HCN.out); rwa [← HN7.out, nds_len] at this)
  obtain ⟨a8, c8, hv8, -⟩ := ho8.own.rd.form
  subst hv8
  obtain ⟨q1, hq1⟩ : ∃ q, q = (resP (nds l) D ps).2 := ⟨_, rfl⟩
  obtain ⟨q2, hq2⟩ : ∃ q, q = (resP (nds cl) D ps).2 := ⟨_, rfl⟩
  rw [← hq1, ← hq2]
  have t1 : (q1 == q1) = true := by simp
  have t2 : (q2 == q2) = true := by simp
  have HL5 := Bx.mk (show l5.length ≤ 2048 by have := resP_len (nds l) D ps (by rw [nds_len]; exact HLL.out); rwa [← HN5.out, nds_len] at this)
  clear ho8 hn8 hb8 hq1 hq2 HN4 HN5 HN7
  go_wp2_with fail
  go_at_call 17
  refine hs1.mono ?_
  rintro e w9 ⟨rfl, hb9⟩
  have HB9 := Bx.mk (HB8.out.trans (hb9.mono HB8.out.size))
  have hs2 := samet_any w9 (.slice a7 l7.length c7) (.slice a8 l8.length c8) l7 l8 (HZ8.out.below hb9) (HU8.out.below hb9) HSM.out (by have := HZL.out; omega)
  clear hs1 hb9
  go_wp2_with fail
  go_at_call 17
  refine hs2.mono ?_
  rintro e w10 ⟨rfl, hb10⟩
  have HBw10 := Bx.mk (HB9.out.trans (hb10.mono HB9.out.size))
  clear hs2 hb10
  have hp1 := ppol_any w10 (.slice ta l.length tc) l (HTL6.out.below HBw10.out) (by have := HLL.out; omega) D
  go_wp2_with fail
  go_at_call 29
  refine hp1.mono ?_
  rintro e w11 ⟨uw11, rfl, how11, hbw11⟩
  clear hp1
  have HBw11 := Bx.mk (HBw10.out.trans (hbw11.mono HBw10.out.size))
  have hp2 := rpol_any w11 (.slice ta l.length tc) l ((HTL6.out.below HBw10.out).below hbw11) (by have := HLL.out; omega) D
  rw [pol_eq] at hp2
  obtain ⟨xw11, yw11, hw11, -⟩ := how11.rd.form
  subst hw11
  have HOw11 := Bx.mk how11.rd
  clear how11 hbw11
  go_wp2_with fail
  go_at_call 30
  refine hp2.mono ?_
  rintro e w12 ⟨uw12, rfl, how12, hbw12⟩
  clear hp2
  have HBw12 := Bx.mk (HBw11.out.trans (hbw12.mono HBw11.out.size))
  obtain ⟨xw12, yw12, hw12, -⟩ := how12.rd.form
  subst hw12
  have hsm := rsame_any w12 _ _ _ _ (HOw11.out.below hbw12) how12.rd (by
    unfold polP
    split
    · exact Nat.zero_le _
    · have h1 := setB_length (polK (nds l) D (nds l).length)
      have h2 := polK_len (nds l) D (nds l).length
      have h3 : l.length ≤ 2048 := by have := HLL.out; omega
      rw [nds_len] at h1 h2 ⊢
      omega)
  rw [decide_eq_true rfl] at hsm
  clear how12 hbw12 HOw11
  go_wp2_with fail
  go_at_call 28
  refine hsm.mono ?_
  rintro e w13 ⟨rfl, hbw13⟩
  have HBw13 := Bx.mk (HBw12.out.trans (hbw13.mono HBw12.out.size))
  clear hsm hbw13
  have hp1 := ppol_any w13 (.slice a5 l5.length c5) l5 (HY6.out.below HBw13.out) (by have := HL5.out; omega) D
  go_wp2_with fail
  go_at_call 29
  refine hp1.mono ?_
  rintro e w14 ⟨uw14, rfl, how14, hbw14⟩
  clear hp1
  have HBw14 := Bx.mk (HBw13.out.trans (hbw14.mono HBw13.out.size))
  have hp2 := rpol_any w14 (.slice a5 l5.length c5) l5 ((HY6.out.below HBw13.out).below hbw14) (by have := HL5.out; omega) D
  rw [pol_eq] at hp2
  obtain ⟨xw14, yw14, hw14, -⟩ := how14.rd.form
  subst hw14
  have HOw14 := Bx.mk how14.rd
  clear how14 hbw14
  go_wp2_with fail
  go_at_call 30
  refine hp2.mono ?_
  rintro e w15 ⟨uw15, rfl, how15, hbw15⟩
  clear hp2
  have HBw15 := Bx.mk (HBw14.out.trans (hbw15.mono HBw14.out.size))
  obtain ⟨xw15, yw15, hw15, -⟩ := how15.rd.form
  subst hw15
  have hsm := rsame_any w15 _ _ _ _ (HOw14.out.below hbw15) how15.rd (by
    unfold polP
    split
    · exact Nat.zero_le _
    · have h1 := setB_length (polK (nds l5) D (nds l5).length)
      have h2 := polK_len (nds l5) D (nds l5).length
      have h3 : l5.length ≤ 2048 := by have := HL5.out; omega
      rw [nds_len] at h1 h2 ⊢
      omega)
  rw [decide_eq_true rfl] at hsm
  clear how15 hbw15 HOw14
  go_wp2_with fail
  go_at_call 28
  refine hsm.mono ?_
  rintro e w16 ⟨rfl, hbw16⟩
  have HBw16 := Bx.mk (HBw15.out.trans (hbw16.mono HBw15.out.size))
  clear hsm hbw16
  have hp1 := ppol_any w16 (.slice ca cl.length cc) cl (HC6.out.below HBw16.out) (by have := HCN.out; omega) D
  go_wp2_with fail
  go_at_call 29
  refine hp1.mono ?_
  rintro e w17 ⟨uw17, rfl, how17, hbw17⟩
  clear hp1
  have HBw17 := Bx.mk (HBw16.out.trans (hbw17.mono HBw16.out.size))
  have hp2 := rpol_any w17 (.slice ca cl.length cc) cl ((HC6.out.below HBw16.out).below hbw17) (by have := HCN.out; omega) D
  rw [pol_eq] at hp2
  obtain ⟨xw17, yw17, hw17, -⟩ := how17.rd.form
  subst hw17
  have HOw17 := Bx.mk how17.rd
  clear how17 hbw17
  go_wp2_with fail
  go_at_call 30
  refine hp2.mono ?_
  rintro e w18 ⟨uw18, rfl, how18, hbw18⟩
  clear hp2
  have HBw18 := Bx.mk (HBw17.out.trans (hbw18.mono HBw17.out.size))
  obtain ⟨xw18, yw18, hw18, -⟩ := how18.rd.form
  subst hw18
  have hsm := rsame_any w18 _ _ _ _ (HOw17.out.below hbw18) how18.rd (by
    unfold polP
    split
    · exact Nat.zero_le _
    · have h1 := setB_length (polK (nds cl) D (nds cl).length)
      have h2 := polK_len (nds cl) D (nds cl).length
      have h3 : cl.length ≤ 2048 := by have := HCN.out; omega
      rw [nds_len] at h1 h2 ⊢
      omega)
  rw [decide_eq_true rfl] at hsm
  clear how18 hbw18 HOw17
  go_wp2_with fail
  go_at_call 28
  refine hsm.mono ?_
  rintro e w19 ⟨rfl, hbw19⟩
  have HBw19 := Bx.mk (HBw18.out.trans (hbw19.mono HBw18.out.size))
  clear hsm hbw19
  go_wp2_with fail
  go_at_call 11
  refine (haw _).mono ?_
  rintro e w20 ⟨rfl, hb20⟩
  have HB20 := Bx.mk (HB6.out.trans ((HBw19.out.trans (hb20.mono HBw19.out.size)).mono HB6.out.size))
  clear haw hb20
  go_wp2_with fail
  go_ret
  exact ⟨rfl, HB20.out⟩
end Go.Proofs.Ytmagjdocondmhaa.Tr
