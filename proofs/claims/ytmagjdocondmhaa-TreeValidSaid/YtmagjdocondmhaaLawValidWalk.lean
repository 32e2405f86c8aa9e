/-
  TreeValid, walked. (Written by wip/gen/gen_trval.py.)
-/
import Derived.Test.YtmagjdocondmhaaTrBad
import Derived.Test.YtmagjdocondmhaaLawEntersWalk
namespace Go.Proofs.Ytmagjdocondmhaa.Tr
open Go Go.RowKit Go.Proofs.Ytmagjdocondmhaa.Slc Go.Proofs.Ytmagjdocondmhaa.St Go.Proofs.Ytmagjdocondmhaa.Mp
set_option linter.unusedVariables false
set_option linter.unusedSimpArgs false
attribute [local go_sem] Oper.semAt_some

set_option maxRecDepth 100000 in
set_option maxHeartbeats 16000000 in
theorem law_valid (iv : Value) (zs : List Int) (v : Value) (r : List Nt) (D : Int) (w : World) (hI : Ints w .i64 iv zs) (hT : TR w v r) (hl : r.length ≤ 9223372036854775807) (hD : I64 D) :
    Calls Try.prog 3 #[iv, v, .int .i64 D] w fun e w' => e = .returned (.bool true) ∧ Below w.heap.size w w' := by
  have haw := awake_any
  obtain ⟨ra, rc, rfl, -⟩ := hT.rd.form
  have hsm := small_any w _ r hT hl
  have hnew := new_any w iv zs w hI (Below.refl _ _)
  have HS := Bx.mk (small_tq hT)
  obtain ⟨N, hN⟩ : ∃ N, N = r.length := ⟨_, rfl⟩
  have HN := Bx.mk hN
  rw [← hN] at hsm ⊢
  obtain ⟨SB, hSB⟩ : ∃ SB, SB = smallB r := ⟨_, rfl⟩
  rw [← hSB] at hsm HS
  clear hT hl hN hSB hD
  cases SB with
  | false =>
    clear hnew
    go_enter Try.func3, Try.ntmps3
    go_wp2_with fail
    go_at_call 10
    refine hsm.mono ?_
    rintro e w1 ⟨rfl, rfl⟩
    clear hsm
    go_wp2_with fail
    go_at_call 11
    refine (haw _).mono ?_
    rintro e w2 ⟨rfl, hb2⟩
    have HB2 := Bx.mk hb2
    clear haw hb2
    go_wp2_with fail
    go_ret
    exact ⟨rfl, HB2.out⟩
  | true =>
  obtain ⟨HTQ, HL40, HEX⟩ := HS.out rfl
  have HTQ := Bx.mk HTQ
  have HL40 := Bx.mk HL40
  clear HS HEX
  have hNB : N ≤ 40 := by rw [HN.out]; exact HL40.out
  go_enter Try.func3, Try.ntmps3
  go_wp2_with fail
  go_at_call 10
  refine hsm.mono ?_
  rintro e w1 ⟨rfl, rfl⟩
  clear hsm
  go_wp2_with fail
  go_at_call 12
  refine hnew.mono ?_
  rintro e w1 ⟨rfl, hb1, hD1⟩
  clear hnew
  obtain ⟨g, hg⟩ : ∃ g, g = w.heap.size := ⟨_, rfl⟩
  have HGW := Bx.mk hg
  rw [← hg] at hD1 ⊢
  have hgr := lgrown_any w iv zs w1 g hD1 hb1 4 (by omega)
  clear hg hb1 hD1
  go_wp2_with fail
  go_at_call 13
  refine hgr.mono ?_
  rintro e w2 ⟨tv, l, n, rfl, hn4, hT, hG⟩
  clear hgr
  have HT2 := Bx.mk hT
  have HG := Bx.mk hG
  have hLL : l.length ≤ 2048 := by have := hG.len; rwa [nds_len] at this
  have hch := lchanged_any w iv zs w2 g tv l hT hG.ex hLL
  obtain ⟨ta, tc, rfl, -⟩ := hT.tr.own.rd.form
  have HLL := Bx.mk hLL
  clear hT hG hLL
  go_wp2_with fail
  go_at_call 14
  refine hch.mono ?_
  rintro e w6 ⟨cv, cl, rfl, hcl, hT6, hg6, hcn, hce⟩
  clear hch
  have HB6 := Bx.mk hT6.bel
  have HTL6 := Bx.mk hT6.tr.tl
  have HC6 := Bx.mk hcl
  have HQ6 := Bx.mk (HTQ.out.below hT6.bel)
  have HCN := Bx.mk (show cl.length ≤ 2048 from Nat.le_trans hcn HLL.out)
  obtain ⟨ca, cc, hcv, -⟩ := hcl.rd.form
  subst hcv
  clear hcl hT6 hg6 hcn hce HTQ HT2
  go_wp2_with fail
  go_loopw [11] (fun kv wr => ∃ k : Int, kv = .int .i64 k ∧ -1 ≤ k ∧ k ≤ (n : Int) + 2 ∧ Bx (Below w6.heap.size w6 wr)) (fun kv _ => ((n : Int) + 2 - intOf kv).toNat)
  case atStart => exact ⟨-1, rfl, by omega, by omega, ⟨Below.refl _ _⟩⟩
  case round =>
    obtain ⟨k, rfl, hk1, hk2, hB⟩ := hrel
    by_cases hlt : k ≤ (n : Int) + 1

    · obtain ⟨V1, hV1⟩ : ∃ V, V = validB (nds l) k := ⟨_, rfl⟩
      obtain ⟨V2, hV2⟩ : ∃ V, V = validB (nds cl) k := ⟨_, rfl⟩
      have HV1 := Bx.mk hV1.symm
      have HV2 := Bx.mk hV2.symm
      have tn1 : (V1 != V1) = false := by simp
      have tn2 : (V2 != V2) = false := by simp
      clear hV1 hV2
      have hc := valid_any wr (.slice ta l.length tc) l (HTL6.out.below hB.out) (by have := HLL.out; omega) k
      rw [HV1.out] at hc
      go_wp2_with fail
      go_at_call 15
      refine hc.mono ?_
      rintro e wrx1 ⟨rfl, hb⟩
      have HBwrx1 := Bx.mk (hB.out.trans (hb.mono hB.out.size))
      clear hc hb
      have hc := rvalid_any wrx1 (.slice ta l.length tc) l (HTL6.out.below HBwrx1.out) (by have := HLL.out; omega) k
      rw [rvalid_eq, HV1.out] at hc
      go_wp2_with fail
      go_at_call 16
      refine hc.mono ?_
      rintro e wrx2 ⟨rfl, hb⟩
      have HBwrx2 := Bx.mk (HBwrx1.out.trans (hb.mono HBwrx1.out.size))
      clear hc hb
      have hc := valid_any wrx2 (.slice ca cl.length cc) cl (HC6.out.below HBwrx2.out) (by have := HCN.out; omega) k
      rw [HV2.out] at hc
      go_wp2_with fail
      go_at_call 15
      refine hc.mono ?_
      rintro e wrx3 ⟨rfl, hb⟩
      have HBwrx3 := Bx.mk (HBwrx2.out.trans (hb.mono HBwrx2.out.size))
      clear hc hb
      have hc := rvalid_any wrx3 (.slice ca cl.length cc) cl (HC6.out.below HBwrx3.out) (by have := HCN.out; omega) k
      rw [rvalid_eq, HV2.out] at hc
      go_wp2_with fail
      go_at_call 16
      refine hc.mono ?_
      rintro e wrx4 ⟨rfl, hb⟩
      have HBwrx4 := Bx.mk (HBwrx3.out.trans (hb.mono HBwrx3.out.size))
      clear hc hb
      go_wp2_with fail
      go_roundw
      case rel => exact ⟨k + 1, by first | rfl | go_num, by omega, by omega, ⟨HBwrx4.out⟩⟩
      case measure => simp [intOf]; omega
    · obtain ⟨V1, hV1⟩ : ∃ V, V = validB (nds r) D := ⟨_, rfl⟩
      obtain ⟨V2, hV2⟩ : ∃ V, V = validB (nds l) D := ⟨_, rfl⟩
      have HV1 := Bx.mk hV1.symm
      have HV2 := Bx.mk hV2.symm
      have tn1 : (V1 == V1) = true := by simp
      have tn2 : (V2 == V2) = true := by simp
      clear hV1 hV2
      have hc := valid_q wr (.slice ra r.length rc) r (HQ6.out.below hB.out) (by have := HL40.out; omega) D
      rw [HV1.out, ← HN.out] at hc
      go_wp2_with fail
      go_at_call 15
      refine hc.mono ?_
      rintro e wrx1 ⟨rfl, hb⟩
      have HBwrx1 := Bx.mk (hB.out.trans (hb.mono hB.out.size))
      clear hc hb
      have hc := rvalid_q wrx1 (.slice ra r.length rc) r (HQ6.out.below HBwrx1.out) (by have := HL40.out; omega) D
      rw [rvalid_eq, HV1.out, ← HN.out] at hc
      go_wp2_with fail
      go_at_call 16
      refine hc.mono ?_
      rintro e wrx2 ⟨rfl, hb⟩
      have HBwrx2 := Bx.mk (HBwrx1.out.trans (hb.mono HBwrx1.out.size))
      clear hc hb
      have hc := valid_any wrx2 (.slice ta l.length tc) l (HTL6.out.below HBwrx2.out) (by have := HLL.out; omega) D
      rw [HV2.out] at hc
      go_wp2_with fail
      go_at_call 15
      refine hc.mono ?_
      rintro e wrx3 ⟨rfl, hb⟩
      have HBwrx3 := Bx.mk (HBwrx2.out.trans (hb.mono HBwrx2.out.size))
      clear hc hb
      have hc := rvalid_any wrx3 (.slice ta l.length tc) l (HTL6.out.below HBwrx3.out) (by have := HLL.out; omega) D
      rw [rvalid_eq, HV2.out] at hc
      go_wp2_with fail
      go_at_call 16
      refine hc.mono ?_
      rintro e wrx4 ⟨rfl, hb⟩
      have HBwrx4 := Bx.mk (HBwrx3.out.trans (hb.mono HBwrx3.out.size))
      clear hc hb
      have hc := proot_any wrx4
      go_wp2_with fail
      go_at_call 18
      refine hc.mono ?_
      rintro e y1 ⟨v1, l1, rfl, ho1, hn1, hb1⟩
      have HBy1 := Bx.mk (HBwrx4.out.trans (hb1.mono HBwrx4.out.size))
      have HE1 := Bx.mk (show nds l1 = rootT from hn1)
      have HL1 := Bx.mk (show l1.length = 1 by have := congrArg List.length hn1; rw [nds_len] at this; exact this)
      have HO1 := Bx.mk ho1.tl
      obtain ⟨a1, c1, hv1, -⟩ := ho1.own.rd.form
      subst hv1
      clear hc ho1 hn1 hb1
      have hc := rroot_any y1
      go_wp2_with fail
      go_at_call 19
      refine hc.mono ?_
      rintro e y2 ⟨v2, l2, rfl, ho2, hn2, hb2⟩
      have HBy2 := Bx.mk (HBy1.out.trans (hb2.mono HBy1.out.size))
      have hsa := samet_any y2 _ _ l1 l2 (HO1.out.below hb2) ho2.tl (by rw [HE1.out, hn2]) (by have := HL1.out; omega)
      obtain ⟨a2, c2, hv2, -⟩ := ho2.own.rd.form
      subst hv2
      clear hc ho2 hn2 hb2
      go_wp2_with fail
      go_at_call 17
      refine hsa.mono ?_
      rintro e y3 ⟨rfl, hb3⟩
      have HBy3 := Bx.mk (HBy2.out.trans (hb3.mono HBy2.out.size))
      clear hsa hb3
      go_wp2_with fail
      go_at_call 11
      refine (haw _).mono ?_
      rintro e y4 ⟨rfl, hb4⟩
      have HBy4 := Bx.mk (HB6.out.trans ((HBy3.out.trans (hb4.mono HBy3.out.size)).mono HB6.out.size))
      clear haw hb4
      go_wp2_with fail
      go_ret
      exact ⟨rfl, HBy4.out⟩
end Go.Proofs.Ytmagjdocondmhaa.Tr
