/- packed -/
import Derived.Test.YtmagjdocondmhaaGreatPkAn17
set_option linter.unusedVariables false
set_option linter.unusedSimpArgs false
set_option maxRecDepth 100000
set_option maxHeartbeats 64000000
namespace Go.Proofs.YtmagjdocondmhaaGreat.Tr.Gr
open Go Go.RowKit Slc St Mp Tr Rg
attribute [local go_sem] Oper.semAt_some
theorem wanG_ll (ps : List B) (g : List (List Vx)) (j : Nat) : ∀ n, n < g.length \/ n = 0 -> ((wanG ps g n)[j]!).length <= (g[j]!).length
 | 0, _ => zR _
 | n + 1, hn => by
  have h1 := wanG_ll ps g j n (by omega);have hk : n + 1 < (wanG ps g n).length := by rw [wanG_len]; omega
  refine Nat.le_trans ?_ h1;rw [wanG];unfold wanK
  have hat : ∀ i l, ((wanG ps g n).set (n + 1) l)[i]! = if i = n + 1 then l else (wanG ps g n)[i]! := fun i l => by
   by_cases hi : i < (wanG ps g n).length
   ·rw [getElem!_pos _ i (by simpa using hi), List.getElem_set];by_cases e : n + 1 = i
    ·rw [if_pos e, if_pos e.symm]
    ·rw [if_neg e, if_neg (fun q => e q.symm), getElem!_pos _ i hi]
   ·rw [getElem!_neg _ i (by simpa using hi), if_neg (by omega), getElem!_neg _ i hi]
  rw [filtG_at (by rw [zL]; exact hk) j];split
  ·rename_i e
   subst e;rw [hat, if_pos rfl];refine Nat.le_trans (keepT_le _ _) ?_;simp [wanL]
  ·split
   ·rename_i e1 e
    rw [List.length_map, hat, if_neg e1];exact zR _
   ·rename_i e1 e
    rw [hat, if_neg e1];exact zR _
theorem prune_fin (w W : World) (Bk : Nat) (v : Value) (g : List Lv) (R : List (List Vx)) (h : GO W Bk v g) (hP : PG (gxs g)) (hn : g.length <= 100000) (hR : R = pruneG (gxs g)) (hb : Below w.heap.size w W) (hB : w.heap.size <= Bk) (hBW : Bk <= W.heap.size) :
  Calls Tryz.prog 51 #[v] W fun e w' => ∃ v' g', e = .returned v' /\ (∃ a n c, v' = .slice a n c) /\ GO w' w.heap.size v' g' /\ gxs g' = R /\ Below w.heap.size w w' := by
 refine (prune_any W Bk v g h hP hn).mono ?_;rintro e w' ⟨v', g', rfl, hgo, hgx, hfr, -⟩;obtain ⟨a, c, hf, -⟩ := hgo.own.rd.form;exact ⟨v', g', rfl, ⟨_, _, _, hf⟩, hgo.mono hB, by rw [hR]; exact hgx, hb.trans ((hfr.below (fun j hj => (h.lt hj).1) hBW).mono hB)⟩
theorem grestr_any (w : World) (v pv : Value) (g : List Lv) (ps : List B) (h : GQ w v g) (hp : Rd w encS pv ps) (hn : g.length <= 90000) (hln : ∀ L ∈ g, L.vs.length <= 40000) (hpb : PB 40000 (gxs g)) (hpl : ps.length <= 40000) (hpx : ∀ p ∈ ps, p.length <= 1000000) :
  Calls Tryz.prog 28 #[v, pv] w fun e w' => GrP w (gresP (gxs g) ps) e w' := by
 obtain ⟨ib, hib, hib0, hib1, hib2⟩ := info_parts info_int;have mixed : Tryz.prog.follows .mixedOrders = true := by kernel_rfl
 have hval := gvalid_q w v g h (by omega) (fun L hL => by have := hln L hL; omega);obtain ⟨R, hR⟩ : ∃ R, R = gresP (gxs g) ps := ⟨_, rfl⟩
 rw [<- hR];unfold gresP at hR;obtain ⟨ad, c, rfl, -⟩ := h.rd.form;obtain ⟨pa, pc, rfl, -⟩ := hp.form;have HQ := Bx.mk h;have HP := Bx.mk hp;have HLN := Bx.mk hln;have HPX := Bx.mk hpx;have HPB := Bx.mk hpb;obtain ⟨N, hN⟩ : ∃ N, N = g.length := ⟨_, rfl⟩
 have HN := Bx.mk hN;obtain ⟨PN, hPN⟩ : ∃ N, N = ps.length := ⟨_, rfl⟩
 have HPN := Bx.mk hPN;obtain ⟨V, hV⟩ : ∃ V, V = gvalidB (gxs g) := ⟨_, rfl⟩
 rw [<- hV] at hval hR;have HV := Bx.mk hV;have HRR := Bx.mk hR;rw [<- hN] at hn hval |-;rw [<- hPN] at hpl |-;clear h hp hln hpx hpb hN hPN hV hR;unfold GrP;go_enter Tryz.func28, Tryz.ntmps28;go_wp2_with fail
 go_at_call 15;refine hval.mono ?_;rintro e w1 ⟨rfl, hb1⟩;clear hval
 cases V with
 | false =>
  have HF := Bx.mk (show R = ([], 7) by rw [HRR.out]; rfl);go_wp2_with fail
  go_ret2
  exact ⟨_, [], by rw [HF.out]; rfl, GO.nil _ _, by rw [HF.out]; rfl, hb1⟩
 | true =>
 have HGL := Bx.mk (HQ.out.gl HV.out.symm (fun L hL => by have := HLN.out L hL; omega));have HRF := Bx.mk (show R = (pruneG (gresG (gxs g) ps), 0) by rw [HRR.out, if_pos rfl]);have hcpy := copied_any w1 _ g (HGL.out.below hb1) (by rw [<- HN.out]; omega) (fun L hL => by have := HLN.out L hL; omega);rw [<- HN.out] at hcpy;have HB1 := Bx.mk hb1;clear hb1;go_wp2_with fail
 go_at_call 52;refine hcpy.mono ?_;rintro e w3 ⟨v', g', rfl, hgo, hgx, hpd, hb3⟩;clear hcpy
 have hln' : g'.length = N := by
  have := congrArg List.length hgx;rw [gxs_len, gxs_len, <- HN.out] at this; exact this
 obtain ⟨va, vc, rfl, -⟩ := hgo.own.rd.form;rw [hln'] at hgo |-;have HGX := Bx.mk hgx;have HLN' := Bx.mk hln';have HW3 := Bx.mk (show Below w.heap.size w w3 from HB1.out.trans (hb3.mono HB1.out.size));have HGO3 := Bx.mk hgo;have HPD3 := Bx.mk hpd.pdg;have HB31 := Bx.mk (show w.heap.size <= w1.heap.size from HB1.out.size);have HB13 := Bx.mk (show w1.heap.size <= w3.heap.size from hb3.size)
 have HPG := Bx.mk (gvalid_pg HV.out.symm (fun l hl => by
  obtain ⟨L0, h0, rfl⟩ := List.mem_map.1 hl
  rw [vxs_len]; have := HLN.out L0 h0; omega))
 have HRP := Bx.mk (HP.out.below HW3.out);have hct := contains_any w3 (.slice pa PN pc) ps anyP (by rw [HPN.out]; exact HRP.out) (by rw [<- HPN.out]; omega);rw [anyP_str] at hct;obtain ⟨C, hC⟩ : ∃ C, C = decide (N = 0 \/ PN = 0 \/ anyP ∈ ps) := ⟨_, rfl⟩
 have HC := Bx.mk hC;obtain ⟨A, hA⟩ : ∃ A, A = decide (anyP ∈ ps) := ⟨_, rfl⟩
 have HA := Bx.mk hA;rw [<- hA] at hct;clear hgo hgx hln' hpd hb3 hC hA;go_upto_region 4 with fail
 go_cut [30] (fun cc wx => cc = .bool C /\ wx = w3)
 case first =>
  by_cases h0 : N = 0
  ·have HCC := Bx.mk (show C = true by rw [HC.out]; exact zT (.inl h0));subst h0;go_wp2_with fail
   go_meet;exact ⟨by rw [HCC.out], rfl⟩
  ·have t1 : ((N : Int) == 0) = false := by simp; omega
   by_cases h1 : PN = 0
   ·have HCC := Bx.mk (show C = true by rw [HC.out]; exact zT (.inr (.inl h1)));subst h1;go_wp2_with fail
    go_meet;exact ⟨by rw [HCC.out], rfl⟩
   ·have t2 : ((PN : Int) == 0) = false := by simp; omega
    have HCC := Bx.mk (show C = A by rw [HC.out, HA.out]; simp [h0, h1]);clear h0 h1;go_wp2_with fail
    go_at_call 48;refine hct.mono ?_;rintro e w4 ⟨rfl, rfl⟩;clear hct;go_wp2_with fail
    go_meet;exact ⟨by rw [HCC.out], rfl⟩
 case rest =>
 obtain ⟨rfl, hwc⟩ := hcut;rw [hwc];clear hct hwc wc
 cases C with
 | true =>
  have hgr : gresG (gxs g) ps = gxs g := by
   unfold gresG;rw [gxs_len, <- HN.out, <- HPN.out, if_pos (of_decide_eq_true HC.out.symm)]
  have hfin := prune_fin w w3 w1.heap.size (.slice va N vc) g' R.1 HGO3.out (by rw [HGX.out]; exact HPG.out) (by rw [HLN'.out]; omega) (by rw [HRF.out, hgr, HGX.out]) HW3.out HB31.out HB13.out;clear hgr;go_wp2_with fail
  go_at_call 51;refine hfin.mono ?_;rintro e w12 ⟨v12, g12, rfl, ⟨xa, xn, xc, rfl⟩, hgo12, hgx12, hb12⟩;clear hfin;have HF1 := Bx.mk hgo12;have HF2 := Bx.mk hgx12;have HF3 := Bx.mk hb12;clear hgo12 hgx12 hb12;go_wp2_with fail
  go_ret2
  exact ⟨_, g12, by rw [HRF.out]; rfl, HF1.out, HF2.out, HF3.out⟩
 | false =>
 have hcc := of_decide_eq_false HC.out.symm;have hN0 : 0 < N := by omega
 have HCC := Bx.mk (show ¬ ((gxs g).length = 0 \/ ps.length = 0 \/ anyP ∈ ps) by rw [gxs_len, <- HN.out, <- HPN.out]; exact hcc);obtain ⟨gb, rfl, -, -⟩ := HGO3.out.cellL 0 (by rw [HLN'.out]; exact hN0)
 have hwan := wanted_any w3 w1.heap.size (.slice (some ⟨gb, 0, none⟩) N vc) (.slice pa PN pc) g' ps HGO3.out HPD3.out (by rw [HGX.out]; exact HPG.out) ⟨by rw [HPN.out]; exact HRP.out, fun k hk => by
  have h1 := HP.out.lt k (by rw [<- HPN.out]; exact hk)
  have := HB31.out; omega⟩ (by rw [HLN'.out]; exact hn) (by rw [<- HPN.out]; omega) HB13.out (by rw [HLN'.out]; exact hN0)
 rw [HGX.out, HLN'.out] at hwan;clear hcc;go_wp2_with fail
 go_at_call 69;refine hwan.mono ?_;rintro e w4 ⟨hb, g2, rfl, hhb, hgo4, hpd4, hgx4, hm4, hb4⟩;have hs34 := hb4.size;clear hwan;obtain ⟨n, hn1⟩ : ∃ n, n = N - 1 := ⟨_, rfl⟩
 have HNN := Bx.mk hn1;rw [<- hn1] at hgx4 hm4;have HGO4 := Bx.mk hgo4;have HW34 := Bx.mk (show w3.heap.size <= w4.heap.size from hs34);have HPD4 := Bx.mk hpd4;have HGX4 := Bx.mk hgx4;have HM4 := Bx.mk hm4;have HBW4 := Bx.mk (show Below w.heap.size w w4 from HW3.out.trans (hb4.mono HB31.out));have HB14 := Bx.mk (show w1.heap.size <= w4.heap.size by have := HB13.out; have := hb4.size; omega);have HG2L := Bx.mk (show g2.length = N by have := wan_len hgx4; rw [gxs_len, <- HN.out] at this; exact this);have HNL := Bx.mk (show n < g2.length by rw [HG2L.out]; omega);have HWPG := Bx.mk (show PG (gxs g2) by rw [hgx4]; exact wanG_pg HPG.out ps n (.inl (by rw [gxs_len, <- HN.out]; omega)));have hidx : ((N : Int) - 1).toNat = n := by omega
 have hidx2 : N - 1 = n := by omega
 obtain ⟨gb2, he2, l0, -⟩ := hgo4.cellL n HNL.out;simp only [zO, Addr.mk.injEq, and_true] at he2
 subst he2;have hvl := hgo4.gl.lv _ (zM HNL.out);have hll := pg_len HWPG.out _ (zM HNL.out);have HGN := Bx.mk (show (wanG ps (gxs g) n)[n]! = vxs (g2[n]'HNL.out).vs by rw [<- HGX4.out, gxs_at g2 n HNL.out]);obtain ⟨L, hL⟩ : ∃ L, L = g2[n]'HNL.out := ⟨_, rfl⟩
 rw [<- hL] at l0 hvl hll HGN;have HL := Bx.mk hL;obtain ⟨la, lc, hls, -⟩ := hvl.rd.form;have HLS := Bx.mk hls;rw [hls] at l0 hvl;obtain ⟨M, hM⟩ : ∃ M, M = L.vs.length := ⟨_, rfl⟩
 have HM' := Bx.mk hM;rw [<- hM] at l0 hll;have HVL := Bx.mk hvl;have hfd := find_any w4 _ L.vs hvl (by rw [<- hM]; exact hll) anyP;rw [anyP_str, <- hM] at hfd;obtain ⟨ST, hST⟩ : ∃ S, S = fndP (vxs L.vs) anyP := ⟨_, rfl⟩
 have HST := Bx.mk hST;rw [<- hST] at hfd;have L0 := Bx.mk l0;clear hs34 hhb hgo4 hpd4 hgx4 hm4 hb4 hL hls hM hvl hST hn1;go_wp2_with fail
 go_at_call 50;refine hfd.mono ?_;rintro e w5 ⟨rfl, hb5⟩;clear hfd l0;have HB5 := Bx.mk hb5;clear hb5;obtain ⟨D, hD⟩ : ∃ D, D = decide (N = 1 \/ ST < 0) := ⟨_, rfl⟩
 have HD := Bx.mk hD;have HBW5 := Bx.mk (HBW4.out.trans (HB5.out.mono HBW4.out.size));have HB15 := Bx.mk (show w1.heap.size <= w5.heap.size by have := HB14.out; have := HB5.out.size; omega);have HGO5 := Bx.mk (HGO4.out.below HB5.out)
 have HPD5 := Bx.mk ((HPD4.out.below HB5.out).mono (show w3.heap.size <= w5.heap.size by
  exact Nat.le_trans HW34.out HB5.out.size))
 clear hD;go_upto_region 9 with fail
 go_cut [51] (fun cc wx => cc = .bool D /\ wx = w5)
 case first =>
  by_cases h0 : N = 1
  ·have HDD := Bx.mk (show D = true by rw [HD.out]; exact zT (.inl h0));subst h0;go_wp2_with fail
   go_meet;exact ⟨by rw [HDD.out], rfl⟩
  ·have t1 : ((N : Int) == 1) = false := by simp; omega
   have HDD := Bx.mk (show D = decide (ST < 0) by rw [HD.out]; simp [h0]);obtain ⟨D2, hD2⟩ : ∃ D2, D2 = decide (ST < 0) := ⟨_, rfl⟩
   have t2 : decide (ST < 0) = D2 := hD2.symm;rw [t2] at HDD;clear h0 hD2;go_wp2_with fail
   go_meet;exact ⟨by rw [HDD.out], rfl⟩
 case rest =>
 obtain ⟨rfl, hwc⟩ := hcut;rw [hwc];clear hwc wc
 cases D with
 | true =>
  have hgr : gresG (gxs g) ps = gxs g2 := by
   have h1 : N = 1 \/ fndP (vxs L.vs) anyP < 0 := by rw [<- HST.out]; exact of_decide_eq_true HD.out.symm
   unfold gresG;rw [if_neg HCC.out, gxs_len, <- HN.out, hidx2, HGN.out, if_pos h1, HGX4.out]
  have hfin := prune_fin w w5 w1.heap.size (.slice (some ⟨gb, 0, none⟩) N vc) g2 R.1 HGO5.out HWPG.out (by rw [HG2L.out]; omega) (by rw [HRF.out, hgr]) HBW5.out HB31.out HB15.out;clear hgr;go_wp2_with fail
  go_at_call 51;refine hfin.mono ?_;rintro e w12 ⟨v12, g12, rfl, ⟨xa, xn, xc, rfl⟩, hgo12, hgx12, hb12⟩;clear hfin;have HF1 := Bx.mk hgo12;have HF2 := Bx.mk hgx12;have HF3 := Bx.mk hb12;clear hgo12 hgx12 hb12;go_wp2_with fail
  go_ret2
  exact ⟨_, g12, by rw [HRF.out]; rfl, HF1.out, HF2.out, HF3.out⟩
 | false =>
 have hdd := of_decide_eq_false HD.out.symm;have hN2 : 2 <= N := by omega
 have hst0 : 0 <= ST := by omega
 have HGR := Bx.mk (show gresG (gxs g) ps = (wanG ps (gxs g) n).set n (resL (hasG ps (gxs g) n) (fndP (wanG ps (gxs g) n)[N - 2]! anyP) (delL (vxs L.vs) ST.toNat) (setB ps)) by
  unfold gresG
  rw [if_neg HCC.out, gxs_len, <- HN.out, hidx2, HGN.out, <- HST.out, if_neg hdd])
 obtain ⟨si, hsi⟩ : ∃ i : Nat, ST = (i : Int) := ⟨ST.toNat, by omega⟩
 have HSI := Bx.mk (show si < M by
  have h1 := fndP_lt (l := vxs L.vs) (p := anyP) (by rw [<- HST.out]; exact hst0);rw [<- HST.out, vxs_len, <- HM'.out] at h1
  omega)
 subst hsi;rw [Int.toNat_natCast] at HGR;have hown5 := HGO5.out.lv _ (zM HNL.out);rw [<- HL.out, HLS.out, <- HM'.out] at hown5;have hdel := gdelete_any w5 w1.heap.size (.slice la M lc) L.vs hown5 (by rw [<- HM'.out]; omega) si (si + 1) (by omega) (by omega) (by rw [<- HM'.out]; have := HSI.out; omega);have l5 := (HB5.out.cell (p := ⟨gb, n, none⟩) (World.block_lt_of_cell? w4 _ L0.out)).trans L0.out;have hcast : ((si + 1 : Nat) : Int) = (si : Int) + 1 := by omega
 rw [hcast] at hdel;have hwr : IntKind.i64.wrap ((si : Int) + 1) = (si : Int) + 1 := by rw [IntKind.wrap_i64]; have := HSI.out; omega
 clear hdd hst0 hown5 hcast;go_wp2_with fail
 go_at_call 70;refine hdel.mono ?_;rintro e w6 ⟨v6, rfl, hvb, hvo, hvg⟩;clear hdel hwr l5;obtain ⟨a6, c6, rfl, -⟩ := hvo.rd.form;obtain ⟨vs6, hvs6⟩ : ∃ vs, vs = L.vs.take si ++ L.vs.drop (si + 1) := ⟨_, rfl⟩
 have HVS6 := Bx.mk hvs6;obtain ⟨n6, hn6⟩ : ∃ n6, n6 = vs6.length := ⟨_, rfl⟩
 have HN6 := Bx.mk hn6;rw [<- hvs6, <- hn6] at hvo hvb |-;have hlv : (g2[n]'HNL.out).s.val.ownBlock = (Value.slice la M lc).ownBlock := by rw [<- HL.out, HLS.out, <- HM'.out]
 have hsub : vs6.Sublist (g2[n]'HNL.out).vs := by
  rw [<- HL.out, hvs6];have h1 : (L.vs.drop (si + 1)).Sublist (L.vs.drop si) := by have := List.drop_sublist 1 (L.vs.drop si); rwa [List.drop_drop] at this
  have h2 := (List.Sublist.refl (L.vs.take si)).append h1;rwa [List.take_append_drop] at h2
 have hst6 := HGO5.out.setL2 n HNL.out (by rw [hlv]; exact hvg) ⟨vs6, ⟨a6, n6, c6⟩⟩ (by rw [hn6] at hvo |-; exact hvo) (fun j hj => by rw [hlv, <- hvb]; exact .inl hj) (fun y hy => HGO5.out.nm _ (zM HNL.out) y (hsub.subset hy));obtain ⟨gb', cap', hv', hl', hfz, hcl, hgs⟩ := hst6;simp only [Value.slice.injEq, zO, Addr.mk.injEq, and_true] at hv'
 obtain ⟨rfl, -, -⟩ := hv';rw [<- HL.out, HLS.out, <- HM'.out] at hcl;simp only [Sl.val] at hgs
 have z1 := hfz n;obtain ⟨W7, hW7⟩ : ∃ W7, W7 = w6.setCell ⟨gb, n, none⟩ (.slice a6 n6 c6) := ⟨_, rfl⟩
 rw [<- hW7] at hgs;have HGS := Bx.mk hgs;obtain ⟨g7, hg7⟩ : ∃ g7, g7 = g2.set n ⟨vs6, ⟨a6, n6, c6⟩⟩ := ⟨_, rfl⟩
 have HG7 := Bx.mk hg7
 have HGX7 := Bx.mk (show gxs g7 = (wanG ps (gxs g) n).set n (delL (vxs L.vs) si) by
  have e1 : gxs (g2.set n ⟨vs6, ⟨a6, n6, c6⟩⟩) = (gxs g2).set n (vxs vs6) := List.map_set;rw [hg7, e1, HGX4.out, hvs6];congr 1
  unfold delL vxs
  simp [List.map_take, List.map_drop])
 have HPD7 := Bx.mk (show PDG W7 w1.heap.size W7.heap.size g7 by
  rw [hg7]
  exact ((HPD5.out.fr HGO5.out hgs.fr).mono hgs.fr.size).sub n HNL.out ⟨vs6, ⟨a6, n6, c6⟩⟩ hsub)
 rw [<- hg7] at hgs;have HGO7 := Bx.mk hgs.go;have HBW7 := Bx.mk (HBW5.out.trans ((hgs.bel HGO5.out HB15.out).mono HB31.out));have HB17 := Bx.mk (show w1.heap.size <= W7.heap.size by have := hgs.fr.size; have := HB15.out; omega)
 have HM7 := Bx.mk (show ∃ q, q <= 100000 * 100000 /\ OwnF W7 kS rdB edB hb q (exF (hasG ps (gxs g) n)) by
  obtain ⟨q, h1, h2⟩ := HM4.out;have h3 := h2.below HB5.out;obtain ⟨es, cl, hm⟩ := ownF_obj h3;refine ⟨q, h1, h3.block (hgs.fr.block hb h3.lt fun hn => ?_)⟩;rcases hn with hn | ⟨L0, h0, hn⟩
  ·obtain ⟨cur, hc⟩ := own_cellsQ HGO5.out.own hb hn;rw [hm] at hc; cases hc
  ·obtain ⟨cur, hc⟩ := own_cellsQ (HGO5.out.lv L0 h0) hb hn
   rw [hm] at hc; cases hc)
 have HG7L := Bx.mk (show g7.length = N by rw [hg7, zL, HG2L.out]);have HW7 := Bx.mk hW7;clear hvb hvo hvg hlv hfz hgs hl' hW7 hg7 hvs6 hn6 hsub;go_upto_region 12 with fail
 rw [<- HW7.out];clear hcl z1;obtain ⟨m, hm1⟩ : ∃ m, m = N - 2 := ⟨_, rfl⟩
 have HMM := Bx.mk hm1;have HML := Bx.mk (show m < g7.length by rw [HG7L.out]; omega);have hidx3 : ((N : Int) - 2).toNat = m := by omega
 obtain ⟨gb3, he3, a0, -⟩ := HGO7.out.cellL m HML.out;simp only [zO, Addr.mk.injEq, and_true] at he3
 subst he3;have hvla := HGO7.out.gl.lv _ (zM HML.out)
 have HGA := Bx.mk (show (wanG ps (gxs g) n)[N - 2]! = vxs (g7[m]'HML.out).vs by
  have h1 : (gxs g7)[m]! = ((wanG ps (gxs g) n).set n (delL (vxs L.vs) si))[m]! := by rw [HGX7.out]
  rw [gxs_at g7 m HML.out, getElem!_pos _ m (by rw [zL, wanG_len, gxs_len, <- HN.out]; omega), List.getElem_set, if_neg (by omega)] at h1;rw [<- HMM.out, getElem!_pos _ m (by rw [wanG_len, gxs_len, <- HN.out]; omega)]
  exact h1.symm)
 obtain ⟨LA, hLA⟩ : ∃ L, L = g7[m]'HML.out := ⟨_, rfl⟩
 rw [<- hLA] at a0 hvla HGA
 have hlena : LA.vs.length <= 100000 := by
  have h1 := HWPG.out.len ((gxs g2)[m]!) (by rw [getElem!_pos _ m (by rw [gxs_len, HG2L.out]; omega)]; exact zM _);rw [HGX4.out, HMM.out, HGA.out, vxs_len] at h1;exact h1
 obtain ⟨aa, ac, has', -⟩ := hvla.rd.form;rw [has'] at a0 hvla;have hfd := find_any W7 _ LA.vs hvla hlena anyP;rw [anyP_str] at hfd;obtain ⟨AN, hAN⟩ : ∃ AN, AN = LA.vs.length := ⟨_, rfl⟩
 rw [<- hAN] at a0 hfd;obtain ⟨AB, hAB⟩ : ∃ AB, AB = fndP (vxs LA.vs) anyP := ⟨_, rfl⟩
 rw [<- hAB] at hfd;have HAB := Bx.mk hAB
 have HABB := Bx.mk (show 0 <= AB /\ AB < (AN : Int) by
  have h1 := (wanG_spg (gvalid_spg HV.out.symm) ps n (.inl (by rw [gxs_len, <- HN.out]; omega))).star (k := m) (by rw [wanG_len, gxs_len, <- HN.out]; omega) (by
   rw [show m + 1 = n by omega, HGN.out, <- HST.out]; omega)
  have h2 := fndP_lt h1;rw [HMM.out, HGA.out, <- hAB] at h1 h2;rw [vxs_len, <- hAN] at h2
  exact ⟨h1, h2⟩)
 have HAN := Bx.mk hAN;have hANb : AN <= 100000 := by omega
 clear hLA hvla has' hAN hAB hlena;clear hm1;go_wp2_with fail
 go_at_call 50;refine hfd.mono ?_;rintro e w8 ⟨rfl, hb8⟩;clear hfd a0 hidx3;have HB8 := Bx.mk hb8;have HBW8 := Bx.mk (HBW7.out.trans (hb8.mono HBW7.out.size));clear hb8;have hV := fun (a : Option Addr) (len cap : Nat) => valS_any a len cap w8
 obtain ⟨WV, hWV⟩ : ∃ WV, WV = w8.alloc (.cells #[.slice pa PN pc] 34) := ⟨_, rfl⟩
 have HBV := Bx.mk (show Below w8.heap.size w8 WV by rw [hWV]; exact (Below.refl _ _).alloc (zR _) _);have hset := sortedV_any WV w8.heap.size (.slice pa PN pc) ps (by rw [<- HPN.out]; omega) (by rw [hWV]; simp) (by rw [hWV]; unfold World.cell?; rw [heap_alloc_new]; rfl) ⟨w, by rw [HPN.out]; exact HP.out, by have := HBW8.out.size; have := HBV.out.size; omega, HBW8.out.trans (HBV.out.mono HBW8.out.size)⟩;obtain ⟨SS, hSS⟩ : ∃ S, S = ps.mergeSort (fun x y => decide (x <= y)) := ⟨_, rfl⟩
 have HSL := Bx.mk (show SS.length <= 1000000 by rw [hSS, List.length_mergeSort]; rw [<- HPN.out]; omega);have HCS := Bx.mk (show Lib.compact SS = setB ps by rw [hSS, compact_sort]);rw [<- hSS] at hset;clear hSS;go_wp2_with fail
 go_at_call 72;refine (hV _ _ _).mono ?_;rintro e w8' ⟨rfl, rfl⟩;rw [<- hWV];clear hV hWV;go_wp2_with fail
 go_at_call 63;refine hset.mono ?_;rintro e wS ⟨vS, rfl, hoS, hbS⟩;have h3 := compS_any wS WV.heap.size vS _ hoS HSL.out;rw [HCS.out] at h3;obtain ⟨avS, cvS, rfl, -⟩ := hoS.rd.form;have HOS := Bx.mk hoS;have HBS := Bx.mk hbS;clear hset hoS hbS;go_wp2_with fail
 go_at_call 71;refine h3.mono ?_;rintro e w9 ⟨v9, rfl, ho9, hg9⟩;clear h3;obtain ⟨sa, sc, rfl, -⟩ := ho9.rd.form;have hb9 : Below w8.heap.size w8 w9 := (HBV.out.trans (HBS.out.mono HBV.out.size)).grown hg9 (Nat.le_trans HBV.out.size HBS.out.size) fun k hk => Nat.le_trans HBV.out.size (HOS.out.lt k hk).1
 obtain ⟨S, hS⟩ : ∃ S, S = setB ps := ⟨_, rfl⟩
 have HS := Bx.mk hS;rw [<- hS] at ho9 |-;have hsl : S.length <= 40000 := by rw [hS]; have := setB_length ps; rw [<- HPN.out] at this; omega
 have HSX := Bx.mk (show ∀ p ∈ S, p.length <= 1000000 from fun p hp => by
  rw [hS, setB_mem] at hp; exact HPX.out p hp)
 obtain ⟨SN, hSN⟩ : ∃ n, n = S.length := ⟨_, rfl⟩
 have HSN := Bx.mk hSN;rw [<- hSN] at ho9 hsl |-;have HOS9 := Bx.mk ho9;have hb79 : Below W7.heap.size W7 w9 := HB8.out.trans (hb9.mono HB8.out.size);have HGO9 := Bx.mk (HGO7.out.below hb79);have HPD9 := Bx.mk ((HPD7.out.below hb79).mono hb79.size);have HM9 := Bx.mk (show ∃ q, q <= 100000 * 100000 /\ OwnF w9 kS rdB edB hb q (exF (hasG ps (gxs g) n)) by obtain ⟨q, h1, h2⟩ := HM7.out; exact ⟨q, h1, h2.below hb79⟩);have HBW9 := Bx.mk (HBW7.out.trans (hb79.mono HBW7.out.size));have HB19 := Bx.mk (show w1.heap.size <= w9.heap.size by have := hb79.size; have := HB17.out; omega);obtain ⟨HS1, hHS1⟩ : ∃ H, H = hasG ps (gxs g) n := ⟨_, rfl⟩
 have HHS := Bx.mk hHS1;rw [<- hHS1] at HM9 HGR;obtain ⟨l0, hl0⟩ : ∃ l, l = delL (vxs L.vs) si := ⟨_, rfl⟩
 have HL0 := Bx.mk hl0;rw [<- hl0] at HGX7 HGR;have HX9 := Bx.mk (show gxs g7 = (wanG ps (gxs g) n).set n (resL HS1 AB l0 (S.take 0)) by rw [HGX7.out]; rfl)
 have HLP := Bx.mk (show ∀ k, ∀ v ∈ resL HS1 AB l0 (S.take k), v.par.length <= 40000 + (S.take k).length /\ ∀ p ∈ v.par, 0 <= p /\ p < (AN : Int) from fun k => resL_par HABB.out (S.take k) l0 40000 fun v hv => by
  rw [HL0.out] at hv;have hv' := delL_mem hv;rw [<- HGN.out] at hv';have hnl : n < (wanG ps (gxs g) n).length := by rw [wanG_len, gxs_len, <- HN.out]; omega
  refine ⟨?_, fun p hp => ?_⟩
  ·rw [getElem!_pos _ n hnl] at hv';exact wanG_pb HPB.out ps n (.inl (by rw [gxs_len, <- HN.out]; omega)) _ (zM hnl) v hv'
  ·have h1 := (wanG_pg HPG.out ps n (.inl (by rw [gxs_len, <- HN.out]; omega))).par m (by have := HMM.out; rw [wanG_len, gxs_len, <- HN.out]; omega) v (by rw [show m + 1 = n by have := HMM.out; omega]; exact hv') p hp;rw [HMM.out, HGA.out, vxs_len, <- HAN.out] at h1
   exact h1)
 have HLL := Bx.mk (show l0.length <= 100000 by
  have h1 := delL_len (vxs L.vs) si;rw [<- hl0, vxs_len, <- HM'.out] at h1
  omega)
 have HL40 := Bx.mk (show l0.length <= 40000 by
  have h1 := delL_len (vxs L.vs) si;rw [<- hl0, vxs_len] at h1;have h2 := wanG_ll ps (gxs g) n n (.inl (by rw [gxs_len, <- HN.out]; have := HNN.out; omega));rw [HGN.out, vxs_len, gxs_at g n (by rw [<- HN.out]; have := HNN.out; omega), vxs_len] at h2;have h3 := HLN.out _ (zM (show n < g.length by rw [<- HN.out]; have := HNN.out; omega))
  omega)
 clear ho9 hg9 hb9 hS hSN hb79 hHS1 hl0;go_wp2_with fail
 go_loopw [77] (fun i wr => ∃ (k : Nat) (gr : List Lv), k <= SN /\ i = .int .i64 k /\ Bx (GO wr w1.heap.size (.slice (some ⟨gb, 0, none⟩) N vc) gr) /\ Bx (PDG wr w1.heap.size wr.heap.size gr) /\ Bx (gxs gr = (wanG ps (gxs g) n).set n (resL HS1 AB l0 (S.take k))) /\ Bx (∃ q, q <= 100000 * 100000 /\ OwnF wr kS rdB edB hb q (exF HS1)) /\ Bx (Slc.Own wr WV.heap.size 9 1 encS (.slice sa SN sc) S) /\ Bx (Below w.heap.size w wr) /\ Bx (w1.heap.size <= wr.heap.size)) (fun i _ => SN - (intOf i).toNat)
 case atStart => exact ⟨0, g7, by omega, rfl, HGO9, HPD9, HX9, HM9, HOS9, HBW9, HB19⟩
 case round =>
  clear HGO9 HPD9 HX9 HM9 HOS9 HBW9 HB19;obtain ⟨k, gr, hk, rfl, hG, hD, hX, hM, hO, hB, hZ⟩ := hrel
  have hgl : gr.length = N := by
   have h1 := congrArg List.length hX.out;rw [gxs_len, zL, wanG_len, gxs_len, <- HN.out] at h1; exact h1
  have HGRL := Bx.mk hgl;have HNR := Bx.mk (show n < gr.length by rw [hgl]; have := HNN.out; omega)
  have HVR := Bx.mk (show vxs (gr[n]'HNR.out).vs = resL HS1 AB l0 (S.take k) by
   have h1 : (gxs gr)[n]! = ((wanG ps (gxs g) n).set n (resL HS1 AB l0 (S.take k)))[n]! := by rw [hX.out]
   rw [gxs_at gr n HNR.out, getElem!_pos _ n (by rw [zL, wanG_len, gxs_len, <- HN.out]; have := HNN.out; omega), List.getElem_set_self] at h1
   exact h1)
  have hlr : (gr[n]'HNR.out).vs.length <= 40000 + k := by
   have h1 := resL_len HS1 AB (S.take k) l0;rw [<- HVR.out, vxs_len, List.length_take] at h1;have := HL40.out;omega
  have hgor := hG.out;obtain ⟨gb4, he4, l1, hfz1⟩ := hgor.cellL n HNR.out;simp only [zO, Addr.mk.injEq, and_true] at he4
  subst he4;have hvl1 := hgor.gl.lv _ (zM HNR.out);obtain ⟨Lr, hLr⟩ : ∃ L, L = gr[n]'HNR.out := ⟨_, rfl⟩
  rw [<- hLr] at l1 hvl1 hlr HVR;have HLR := Bx.mk hLr;obtain ⟨ra, rc, hrs, -⟩ := hvl1.rd.form;have HRS := Bx.mk hrs;rw [hrs] at l1 hvl1;obtain ⟨RN, hRN⟩ : ∃ M, M = Lr.vs.length := ⟨_, rfl⟩
  have HRN := Bx.mk hRN;rw [<- hRN] at l1 hlr;have HV1 := Bx.mk hvl1;clear hLr hvl1 hrs hRN hgor hfz1 hgl;by_cases hlt : k < SN
  ·have hkl : k < S.length := by rw [<- HSN.out]; exact hlt
   obtain ⟨sb, rfl⟩ : ∃ sb, sa = some ⟨sb, 0, none⟩ := by
    rcases hO.out.2 with ⟨h0, hn0⟩ | ⟨g0, cap, cur, hv, hB, -⟩
    ·exact absurd hn0 (by omega)
    ·simp only [Value.slice.injEq] at hv
     exact ⟨g0, hv.1⟩
   have cx : wr.cell? ⟨sb, k, none⟩ = some (.string (bstr S[k])) := by
    have h1 := hO.out.cell encS_ok k hkl 0 (by omega) _ rfl;rwa [Nat.mul_one, Nat.add_zero] at h1
   have HTK := Bx.mk (show S.take (k + 1) = S.take k ++ [S[k]] from zA hkl);have hpl2 := HSX.out S[k] (zM hkl);obtain ⟨p, hp⟩ : ∃ p, p = S[k]'hkl := ⟨_, rfl⟩
   rw [<- hp] at cx hpl2 HTK;have HPL := Bx.mk hpl2
   have hlook : (Instr.lookup 98 (.map (some hb)) (.string (bstr p)) false).run Tryz.prog wr = .ok (.bool (decide (p ∈ HS1))) wr := by
    obtain ⟨q, -, ho⟩ := hM.out;have h1 := (ho.lookS u_mapSB Value.bool false (Tryz.zeroValue4 _) rdB_mk rdB_inv (k := p) (by unfold maxLen; omega)).1;have h2 : ((exF HS1 p).getD false) = decide (p ∈ HS1) := (by unfold exF; split <;> simp_all);rw [h2] at h1; exact h1
   have HMS := Bx.mk (show resL HS1 AB l0 (S.take (k + 1)) = resS HS1 AB (vxs Lr.vs) p by rw [HTK.out, resL_snoc, HVR.out]);obtain ⟨hv, hhv⟩ : ∃ b, b = decide (p ∈ HS1) := ⟨_, rfl⟩
   rw [<- hhv] at hlook;have HHV := Bx.mk hhv;have hfd := find_any wr (.slice ra RN rc) Lr.vs (by rw [HRN.out]; exact HV1.out) (by rw [<- HRN.out]; omega) p;obtain ⟨FI, hFI⟩ : ∃ F, F = fndP (vxs Lr.vs) p := ⟨_, rfl⟩
   rw [<- hFI] at hfd;have HFI := Bx.mk hFI;have HL1 := Bx.mk l1;clear hp hpl2 hFI hkl hhv
   cases hv with
   | true =>
    have HX2 := Bx.mk (show gxs gr = (wanG ps (gxs g) n).set n (resL HS1 AB l0 (S.take (k + 1))) by
     rw [HMS.out];unfold resS
     rw [if_pos (of_decide_eq_true HHV.out.symm), HVR.out]; exact hX.out)
    go_wp2_with fail
    go_roundw
    case rel => exact ⟨k + 1, gr, by omega, by go_num, hG, hD, HX2, hM, hO, hB, hZ⟩
    case measure => simp [intOf]; omega
   | false =>
   have HNH := Bx.mk (show ¬ p ∈ HS1 from of_decide_eq_false HHV.out.symm);go_wp2_with fail
   go_at_call 50;refine hfd.mono ?_;rintro e w10 ⟨rfl, hb10⟩;have HB10 := Bx.mk hb10;have HG10 := Bx.mk (hG.out.below hb10);have HD10 := Bx.mk ((hD.out.below hb10).mono hb10.size);have HM10 := Bx.mk (show ∃ q, q <= 100000 * 100000 /\ OwnF w10 kS rdB edB hb q (exF HS1) by obtain ⟨q, h1, h2⟩ := hM.out; exact ⟨q, h1, h2.below hb10⟩);have HO10 := Bx.mk (hO.out.below hb10);have HBW10 := Bx.mk (hB.out.trans (hb10.mono hB.out.size));have HZ10 := Bx.mk (show w1.heap.size <= w10.heap.size by have := hb10.size; have := hZ.out; omega);have HL10 := Bx.mk (show w10.cell? ⟨gb, n, none⟩ = some (.slice ra RN rc) from (hb10.cell (p := ⟨gb, n, none⟩) (World.block_lt_of_cell? wr _ HL1.out)).trans HL1.out);clear hfd l1 cx hb10 hlook hG hD hM hO hB hZ HL1;by_cases hfi : 0 <= FI
   ·obtain ⟨i, hi, hie, -, -⟩ := fndP_some (show 0 <= fndP (vxs Lr.vs) p by rw [<- HFI.out]; exact hfi);rw [vxs_len, <- HRN.out] at hi;rw [<- HFI.out] at hie;subst hie;have tf : decide ((i : Int) >= 0) = true := zT (by omega);have HIL := Bx.mk (show i < Lr.vs.length by rw [<- HRN.out]; exact hi);obtain ⟨y, hy⟩ : ∃ y, y = Lr.vs[i]'HIL.out := ⟨_, rfl⟩
    have HY := Bx.mk hy;have HYM := Bx.mk (show y ∈ (gr[n]'HNR.out).vs by rw [<- HLR.out, hy]; exact zM HIL.out);have hoq := HD10.out.own _ (zM HNR.out) y HYM.out;have HYN := Bx.mk (HG10.out.nm _ (zM HNR.out) y HYM.out);obtain ⟨qa, qc, hyq, -⟩ := hoq.rd.form
    have HYPL := Bx.mk (show y.n.par.length <= 90000 /\ ∀ q ∈ y.n.par, 0 <= q /\ q < (AN : Int) by
     have h1 := HLP.out k y.n (by rw [<- HVR.out, hy]; exact List.mem_map.2 ⟨_, zM HIL.out, rfl⟩);rw [List.length_take] at h1
     exact ⟨by omega, h1.2⟩)
    obtain ⟨par, hpar⟩ : ∃ p, p = y.n.par := ⟨_, rfl⟩
    have HPAR := Bx.mk hpar;rw [<- hpar] at hoq hyq HYPL;obtain ⟨QN, hQN⟩ : ∃ q, q = par.length := ⟨_, rfl⟩
    have HQN := Bx.mk hQN;rw [<- hQN] at hyq;have HYQ := Bx.mk hyq;rw [hyq] at hoq;have HOQ := Bx.mk hoq;have hown1 := HG10.out.lv _ (zM HNR.out);rw [<- HLR.out, HRS.out, <- HRN.out] at hown1
    obtain ⟨nb, rfl⟩ : ∃ nb, ra = some ⟨nb, 0, none⟩ := by
     obtain ⟨nb, cap, hv, -⟩ := hown1.set1 encV_ok i 0 HIL.out (by omega) (.string (bstr y.n.pol)) y (by rw [<- hy]; rfl);simp only [Value.slice.injEq] at hv
     exact ⟨nb, hv.1⟩
    have c2 := hown1.cell encV_ok i HIL.out 2 (by omega) y.q.val (by rw [<- hy]; rfl);rw [hyq] at c2;obtain ⟨ob, hob⟩ : ∃ ob, ob = (Value.slice qa QN qc).ownBlock := ⟨_, rfl⟩
    have HOB := Bx.mk hob;have HGBN := Bx.mk (show GB (.slice (some ⟨gb, 0, none⟩) N vc) gr gb /\ GB (.slice (some ⟨gb, 0, none⟩) N vc) gr nb from ⟨.inl rfl, .inr ⟨_, zM HNR.out, by rw [<- HLR.out, HRS.out]; rfl⟩⟩)
    have HNOB := Bx.mk (show ob ≠ some gb /\ ob ≠ some nb by
     rw [hob]
     refine ⟨fun e => own_type hoq HG10.out.own (by decide) gb e rfl, fun e => own_type hoq hown1 (by decide) nb e rfl⟩)
    have HOBL := Bx.mk (show ∀ z, ob = some z -> z < w10.heap.size from fun z hz => (hoq.lt z (by rw [<- hob]; exact hz)).2);have HC2 := Bx.mk c2;have HBZ := Bx.mk (show w1.heap.size <= w10.heap.size from HZ10.out)
    have HM3 := Bx.mk (show ∀ u, resS HS1 AB (vxs Lr.vs) p = vxs (Lr.vs.set i ⟨⟨y.n.pol, y.n.ex, srtI (par ++ [AB])⟩, y.u, u⟩) from fun u => by
     unfold resS;rw [if_neg HNH.out, <- HFI.out, if_pos (by omega), Int.toNat_natCast, vxs_at Lr.vs i HIL.out, <- hy, hpar]
     simp [vxs, List.map_set])
    clear hy hoq hyq hpar hQN hown1 c2 hob;go_wp2_with fail
    refine wp_region_factsH 20 (fun _ => none) (fun j => j == 15) (fun j z w' => RsF w10 w1.heap.size gb n nb RN rc i qa QN qc par AB j (z j) w') (RsC w10 ob) (fun _ a b => a.grownBy b ob) ?_ mixed (by kernel_rfl) (by rfl) ?_ ?_ ?_ ?_ ?_ ?_ ?_
    ·exact ⟨⟨rfl, rfl, rfl, zR _, fun _ _ _ => rfl⟩, fun _ => ⟨rfl, rfl, rfl, zR _, fun _ _ => rfl⟩⟩
    ·intro j oj z y' w1' _ _ e _ hh
     show RsF _ _ _ _ _ _ _ _ _ _ _ _ _ j (y' j) w1'
     rw [<- e]; exact hh
    ·exact fun j z w1' w2 hh hb => RsF.below j _ _ _ hh hb
    ·intro d j w1' w2 hh hb' _ hB';refine ⟨grown_bel hh.gr hB', fun e => ?_⟩;have hj : ¬ j = 15 := (by simpa using hb');have e2 : d 15 = false := (by unfold mark at e; rw [if_neg (fun q => hj q.symm)] at e; exact e);exact (hh.be e2).trans (hB'.mono (hh.be e2).size)
    ·intro d j oj w1' w2 _ _ hh hb' _ hg';have hj : j = 15 := (by simpa using hb');subst hj;exact ⟨grown_same hh.gr hg', fun e => by simp [mark] at e⟩
    ·intro b ob' j z d w1' w2 hb' _ _ _ hne _ hcl hdj hdb hh hg';have hb15 : b = 15 := (by simpa using hb');subst hb15;refine RsF.big j _ _ _ hh hne (fun e => ?_) ob HOBL.out hg';subst e;have h1 := waits_done (m := 15) hcl 1 16 (by rfl) hdj;rw [hdb] at h1; cases h1
    ·intro j o hj ho d z w7 hcl hdi hrd hCC hd;have hc : j = 0 \/ j = 1 \/ j = 2 \/ j = 3 \/ j = 4 \/ j = 5 \/ j = 6 \/ j = 7 \/ j = 8 \/ j = 9 \/ j = 10 \/ j = 11 \/ j = 12 \/ j = 13 \/ j = 14 \/ j = 15 \/ j = 16 \/ j = 17 \/ j = 18 \/ j = 19 := (by omega);have hgr7 := hCC.gr
     have l1 : w7.cell? ⟨gb, n, none⟩ = some (.slice (some ⟨nb, 0, none⟩) RN rc) := by
      have h1 := HL10.out;have h2 := hgr7.block gb ((HG10.out.lt HGBN.out.1).2) (fun e => HNOB.out.1 e.symm);unfold World.cell? at h1 |-;rw [h2]; exact h1
     have c2 : w7.cell? ⟨nb, i * 3 + 2, none⟩ = some (.slice qa QN qc) := by
      have h1 := HC2.out;have h2 := hgr7.block nb ((HG10.out.lt HGBN.out.2).2) (fun e => HNOB.out.2 e.symm);unfold World.cell? at h1 |-;rw [h2]; exact h1
     have HCC := Bx.mk hCC;clear hcl hrd hCC hgr7;have HDI := Bx.mk hdi;simp only [List.take_succ_cons, List.take_zero, putFrom]
     rcases hc with rfl | rfl | rfl | rfl | rfl | rfl | rfl | rfl | rfl | rfl | rfl | rfl | rfl | rfl | rfl | rfl | rfl | rfl | rfl | rfl
     all_goals
      simp only [List.getElem?_cons_succ, List.getElem?_cons_zero, zO] at ho
      subst ho;simp [NeedsB, Region.binds, RsF] at hd
      clear hj hdi
     ·go_wp2_with fail
      exact ⟨rfl, rfl, rfl, Below.refl _ _⟩
     ·go_wp2_with fail
      exact ⟨rfl, rfl, rfl, Below.refl _ _⟩
     ·go_wp2_with fail
      exact ⟨rfl, rfl, rfl, Below.refl _ _⟩
     ·go_wp2_with fail
      exact ⟨rfl, rfl, rfl, Below.refl _ _⟩
     ·go_wp2_with fail
      exact ⟨rfl, rfl, rfl, Below.refl _ _⟩
     ·go_wp2_with fail
      exact ⟨rfl, rfl, rfl, Below.refl _ _⟩
     ·go_wp2_with fail
      exact ⟨rfl, rfl, rfl, Below.refl _ _⟩
     ·go_wp2_with fail
      exact ⟨rfl, rfl, rfl, Below.refl _ _⟩
     ·go_wp2_with fail
      exact ⟨rfl, rfl, rfl, Below.refl _ _⟩
     ·go_wp2_with fail
      exact ⟨rfl, rfl, rfl, Below.refl _ _⟩
     ·go_wp2_with fail
      exact ⟨rfl, rfl, rfl, Below.refl _ _⟩
     ·go_wp2_with fail
      exact ⟨rfl, rfl, rfl, Below.refl _ _⟩
     ·go_wp2_with fail
      exact ⟨rfl, rfl, rfl, Below.refl _ _⟩
     ·go_wp2_with fail
      exact ⟨rfl, rfl, rfl, Below.refl _ _⟩
     ·go_wp2_with fail
      exact ⟨rfl, rfl, ⟨w7.heap.size, rfl, HCC.out.gr.size, heap_alloc_new _ _⟩, (Below.refl _ _).alloc (zR _) _⟩
     ·
      obtain ⟨h12, b, h14, hbz, hbr⟩ := hd;have how := HOQ.out.below (HCC.out.be HDI.out);have hsr : SrcV w7 1 (z 14) 1 ([AB].flatMap encI) := (by rw [h14]; exact src_new encI_ok hbr);rw [<- h12] at how;have HH := Bx.mk how;have H12 := Bx.mk h12;have hbw : w1.heap.size <= w7.heap.size := (by have := HCC.out.gr.size; have := HBZ.out; omega);clear h12 h14 hbr hbz how c2 l1;simp only [Act.put, List.setIfInBounds_toArray, List.set_cons_succ, List.set_cons_zero, Nat.zero_add, Nat.reduceAdd]
      go_wp2_with (at_builtin; refine wpList_append_any rfl _ _ _ rfl w1.heap.size 3 ib _ 1 8 und_ints hib hib0 hib1 hib2 rfl (by decide) _ par.length (par.flatMap encI) rfl HH.out _ 1 ([AB].flatMap encI) rfl hsr ?ap1 ?ap2 hbw ?_)
      case ap1 => have := HYPL.out.1; unfold maxLen; omega
      case ap2 => have := HYPL.out.1; omega
      intro v' w8 ha;have hown := Slc.Own.apd (m := [AB]) HH.out rfl rfl rfl rfl ha;have hgr := ha.grown;rw [H12.out, <- HOB.out] at hgr;clear ha;obtain ⟨a', c', hf', -⟩ := hown.rd.form;go_wp2_with fail
      exact ⟨rfl, rfl, ⟨⟨_, _, _, hf'⟩, hown⟩, hgr⟩
     ·
      obtain ⟨⟨a', n', c', h15⟩, ho15⟩ := hd;rw [h15] at ho15;have hV := valI_any a' n' c' w7;clear c2 l1;go_wp2_with fail
      go_at_call 74;refine hV.mono ?_;rintro e w8 ⟨rfl, rfl⟩;clear hV;go_wp2_with fail
      exact ⟨rfl, rfl, ⟨_, _, rfl, HCC.out.gr.size, heap_alloc_new _ _, ho15.below ((Below.refl _ _).alloc (zR _) _)⟩, (Below.refl _ _).alloc (zR _) _⟩
     ·
      obtain ⟨b, h16, hbz, u, hbr, hu⟩ := hd;have hso := sortedI_any w7 b u (par ++ [AB]) (by rw [List.length_append]; have := HYPL.out.1; simp; omega) (lt_of_some hbr) (by rw [cell_of_row _ _ _ _ _ _ hbr]; rfl) ⟨w7, hu.rd, zR _, Below.refl _ _⟩;clear c2 l1;go_wp2_with fail
      go_at_call 73;refine hso.mono ?_;rintro e w8 ⟨v8, rfl, ho8, hb8⟩;clear hso;obtain ⟨a8, c8, rfl, -⟩ := ho8.rd.form;obtain ⟨n8, hn8⟩ : ∃ n8, n8 = ((par ++ [AB]).mergeSort fun x y => decide (x <= y)).length := ⟨_, rfl⟩
      rw [<- hn8] at ho8 |-;clear hn8;go_wp2_with fail
      exact ⟨rfl, rfl, ⟨⟨_, _, _, rfl⟩, ho8.mono HCC.out.gr.size⟩, hb8⟩
     ·go_wp2_with fail
      exact ⟨rfl, rfl, rfl, Below.refl _ _⟩
     ·go_wp2_with fail
      exact ⟨rfl, rfl, rfl, Below.refl _ _⟩
    ·intro d z w7 hdn hCC hf;have f17 := hf 17 (by omega) (fun c hc => by cases hc);have f19 := hf 19 (by omega) (fun c hc => by cases hc);obtain ⟨⟨sa', sn', sc', f17e⟩, f17o⟩ := f17;have f19' : z 19 = .pointer (some ⟨nb, i * 3 + 2, none⟩) := f19;have hgr := hCC.gr;clear hf hCC hdn f19;rw [f17e] at f17o;have HIG := Bx.mk (show i < (gr[n]'HNR.out).vs.length by rw [<- HLR.out]; exact HIL.out);have HVX := Bx.mk (show (gr[n]'HNR.out).vs[i]'HIG.out = y by rw [HY.out]; congr 1; rw [<- HLR.out]);have hqob : y.q.val.ownBlock = ob := by rw [HYQ.out, HOB.out]
     have hset := HG10.out.setQ2 HD10.out n HNR.out i HIG.out hgr.size (fun z' hz' _ hn' => hgr.block z' hz' (fun e => hn' (by rw [HVX.out, hqob]; exact e.symm))) ⟨sa', sn', sc'⟩ (srtI (par ++ [AB])) (f17o.mono HBZ.out) (fun z' hz' => .inr (f17o.lt z' hz').1) (by
      rw [HVX.out];refine ⟨HYN.out.2.2.1, HYN.out.2.2.2.1, by rw [srtI_len, List.length_append]; have := HYPL.out.1; simp; omega, fun q hq => ?_⟩;rw [srtI_mem, List.mem_append] at hq;rcases hq with hq | hq
      ·have := HYPL.out.2 q hq; omega
      ·rw [zS] at hq; subst hq; have := HABB.out; omega)
     obtain ⟨nb', cap', hv', hfz', hcl', hgo', hpd', hgr', hgb'⟩ := hset;have hxs3 : (gr[n]'HNR.out).s = Lr.s /\ (gr[n]'HNR.out).vs = Lr.vs := (by rw [<- HLR.out]; exact ⟨rfl, rfl⟩);rw [hxs3.1, HRS.out] at hv';simp only [Value.slice.injEq, zO, Addr.mk.injEq, and_true] at hv'
     obtain ⟨rfl, -, -⟩ := hv';rw [HVX.out] at hcl' hgo' hpd';rw [HYQ.out] at hcl';have z3 := hfz' (i * 3 + 2);rw [hxs3.1, hxs3.2] at hgo' hpd';simp only [Sl.val] at hgo' hpd' hgr'
     obtain ⟨W8, hW8⟩ : ∃ W, W = w7.setCell ⟨nb, i * 3 + 2, none⟩ (.slice sa' sn' sc') := ⟨_, rfl⟩
     rw [<- hW8] at hgo' hpd' hgr';have hs8 : w10.heap.size <= W8.heap.size := Nat.le_trans hgr.size hgr'.size;have HG8 := Bx.mk hgo';have HD8 := Bx.mk (hpd'.mono hs8)
     have HX8 := Bx.mk (show gxs (gr.set n ⟨Lr.vs.set i ⟨⟨y.n.pol, y.n.ex, srtI (par ++ [AB])⟩, y.u, ⟨sa', sn', sc'⟩⟩, Lr.s⟩) = (wanG ps (gxs g) n).set n (resL HS1 AB l0 (S.take (k + 1))) by
      have e1 : gxs (gr.set n ⟨Lr.vs.set i ⟨⟨y.n.pol, y.n.ex, srtI (par ++ [AB])⟩, y.u, ⟨sa', sn', sc'⟩⟩, Lr.s⟩) = (gxs gr).set n (vxs (Lr.vs.set i ⟨⟨y.n.pol, y.n.ex, srtI (par ++ [AB])⟩, y.u, ⟨sa', sn', sc'⟩⟩)) := List.map_set
      rw [e1, hX.out, List.set_set, HMS.out, HM3.out])
     have hkp : ∀ {j : Nat}, j < w10.heap.size -> ob ≠ some j -> ¬ GB (.slice (some ⟨gb, 0, none⟩) N vc) gr j -> W8.heap[j]? = w10.heap[j]? := fun {j} hj h1 h2 =>
      (hgr'.block j (Nat.lt_of_lt_of_le hj hgr.size) (by simp only [ne_eq, zO]; rintro rfl; exact h2 hgb')).trans (hgr.block j hj fun e => h1 e.symm)
     have HM8 := Bx.mk (show ∃ q, q <= 100000 * 100000 /\ OwnF W8 kS rdB edB hb q (exF HS1) by
      obtain ⟨q, h1, h2⟩ := HM10.out;obtain ⟨es, cl, hm⟩ := ownF_obj h2;refine ⟨q, h1, h2.block (hkp h2.lt (fun e => ?_) fun hn => ?_)⟩
      ·obtain ⟨cur, hc⟩ := own_cellsQ HOQ.out hb (by rw [<- HOB.out]; exact e);rw [hm] at hc; cases hc
      ·rcases hn with hn | ⟨L0, h0, hn⟩
       ·obtain ⟨cur, hc⟩ := own_cellsQ HG10.out.own hb hn;rw [hm] at hc; cases hc
       ·obtain ⟨cur, hc⟩ := own_cellsQ (HG10.out.lv L0 h0) hb hn
        rw [hm] at hc; cases hc)
     have HO8 := Bx.mk (HO10.out.keep (w' := W8) fun j hj hjl => hkp hjl (fun e => own_type HO10.out HOQ.out (by decide) j hj (by rw [<- HOB.out]; exact e)) fun hn => by
      rcases hn with hn | ⟨L0, h0, hn⟩
      ·exact own_type HO10.out HG10.out.own (by decide) j hj hn
      ·exact own_type HO10.out (HG10.out.lv L0 h0) (by decide) j hj hn)
     have HB8 := Bx.mk (show Below w.heap.size w W8 by
      refine (HBW10.out.grown hgr (by have := HBW10.out.size; omega) fun j hj => ?_).grown hgr' (by have := HBW10.out.size; have := hgr.size; omega) fun j hj => ?_
      ·have := (HOQ.out.lt j (by rw [<- HOB.out]; exact hj)).1;have := HB31.out; omega
      ·simp only [zO] at hj
       subst hj;have := (HG10.out.lt hgb').1
       have := HB31.out; omega)
     have HZ8 := Bx.mk (show w1.heap.size <= W8.heap.size by have := HBZ.out; omega);have HW8 := Bx.mk hW8;clear hgr f17o hqob hfz' hgo' hpd' hgr' hgb' hxs3 hW8 hs8 hkp;simp only [List.take_succ_cons, List.take_zero, List.drop_succ_cons, List.drop_zero, putFrom, Nat.zero_add, Nat.reduceAdd, f19', f17e]
     clear f19' f17e;generalize z 0 = z0, z 1 = z1, z 2 = z2, z 3 = z3', z 4 = z4, z 5 = z5, z 6 = z6, z 7 = z7, z 8 = z8, z 9 = z9, z 10 = z10, z 11 = z11, z 12 = z12, z 13 = z13, z 14 = z14, z 15 = z15, z 16 = z16, z 18 = z18;simp only [Act.put, List.setIfInBounds_toArray, List.set_cons_succ, List.set_cons_zero]
     go_wp2_with fail
     rw [<- HW8.out];go_roundw
     case rel => exact ⟨k + 1, _, by omega, by go_num, HG8, HD8, HX8, HM8, HO8, HB8, HZ8⟩
     case measure => simp [intOf]; omega
   ·have tf : decide (FI >= 0) = false := zF hfi
    have HM2 := Bx.mk (show resS HS1 AB (vxs Lr.vs) p = insV (vxs Lr.vs) ⟨p, [p], [AB]⟩ by
     unfold resS; rw [if_neg HNH.out, <- HFI.out, if_neg hfi])
    obtain ⟨q6, hq6⟩ : ∃ q, q = w10.heap.size := ⟨_, rfl⟩
    obtain ⟨W11, hW11⟩ : ∃ W, W = w10.alloc (.cells #[.string (bstr p)] 9) := ⟨_, rfl⟩
    obtain ⟨q7, hq7⟩ : ∃ q, q = q6 + 1 := ⟨_, rfl⟩
    obtain ⟨W12, hW12⟩ : ∃ W, W = W11.alloc (.cells #[.int .i64 AB] 3) := ⟨_, rfl⟩
    have hb11 : Below w10.heap.size w10 W11 := (by rw [hW11]; exact (Below.refl _ _).alloc (zR _) _);have hb12 : Below W11.heap.size W11 W12 := (by rw [hW12]; exact (Below.refl _ _).alloc (zR _) _);have hbr : Below w10.heap.size w10 W12 := hb11.trans (hb12.mono hb11.size);have hs11 : W11.heap.size = w10.heap.size + 1 := (by rw [hW11]; simp);have hs12 : W12.heap.size = W11.heap.size + 1 := (by rw [hW12]; simp);have hq7' : q7 = W11.heap.size := by omega
    have hu : Slc.Own W12 w10.heap.size 9 1 encS (.slice (some ⟨q6, 0, none⟩) 1 1) [p] := by
     have h1 : Slc.Own W11 w10.heap.size 9 1 encS (.slice (some ⟨q6, 0, none⟩) 1 1) [p] := (by rw [hW11, hq6]; exact own_alloc encS_ok w10 [p] _ rfl (zR _) (by unfold maxLen; simp));exact h1.below hb12
    have hq : Slc.Own W12 W11.heap.size 3 1 encI (.slice (some ⟨q7, 0, none⟩) 1 1) [AB] := by
     rw [hW12, hq7']; exact own_alloc encI_ok W11 [AB] _ rfl (zR _) (by unfold maxLen; simp)
    obtain ⟨x, hx⟩ : ∃ x : Vt, x = ⟨⟨p, [p], [AB]⟩, ⟨some ⟨q6, 0, none⟩, 1, 1⟩, ⟨some ⟨q7, 0, none⟩, 1, 1⟩⟩ := ⟨_, rfl⟩
    have hgo12 := HG10.out.below hbr;have hnew : ∀ j, w10.heap.size <= j -> ¬ GB (.slice (some ⟨gb, 0, none⟩) N vc) gr j := fun j hj hn => by have := (HG10.out.lt hn).2; omega
    have hxv : VtIn W12 (fun j => ¬ GB (.slice (some ⟨gb, 0, none⟩) N vc) gr j) x := by
     rw [hx];refine ⟨⟨hu.rd, fun j hj => hnew j (hu.lt j hj).1⟩, .inr ⟨hq.rd, fun j hj => hnew j (by have := (hq.lt j hj).1; omega)⟩, ⟨by simp, fun b hb => by simp only [zS] at hb; subst hb; exact HPL.out⟩, HPL.out, by simp, fun z hz => ?_⟩;simp only [zS] at hz
     subst hz;have := HABB.out; omega
    have hins := ginsert_n W12 w1.heap.size gb vc N gr HGRL.out hgo12 n HNR.out x hxv (by rw [<- HLR.out, <- HRN.out]; omega);rw [<- HLR.out] at hins
    have HINS := Bx.mk (show ∀ (w' : World) (L' : Lv), GStep W12 w1.heap.size (.slice (some ⟨gb, 0, none⟩) N vc) gr w' (gr.set n L') -> L'.vs = insT Lr.vs x -> PDG w' w1.heap.size w'.heap.size (gr.set n L') from fun w' L' hs hl => by
     refine PDG.ins (w0 := w10) (U := w10.heap.size) ((HD10.out.below hbr).fr hgo12 hs.fr) (fun L0 h0 y hy => ⟨fun j hj => ((HD10.out.own L0 h0 y hy).lt j hj).2, HD10.out.ul L0 h0 y hy⟩) n HNR.out L' x (by rw [hl, HLR.out]) ?_ ?_ ?_ ?_ (Nat.le_trans hbr.size hs.fr.size)
     ·rw [hx];refine (hq.mono (by have := HZ10.out; omega)).keep fun j hj hjl => hs.fr.block j hjl (hnew j (by have := (hq.lt j hj).1; omega))
     ·rw [hx]; exact fun j hj => by have := (hq.lt j hj).1; omega
     ·rw [hx]; exact fun j hj => ⟨(hu.lt j hj).1, Nat.lt_of_lt_of_le (hu.lt j hj).2 hs.fr.size⟩
     ·rw [hx]; exact own_type hq hu (by decide))
    have HXN := Bx.mk (show x.n = ⟨p, [p], [AB]⟩ by rw [hx]);rw [hx] at hins;unfold verV at hins;simp only [Sl.val] at hins
    have HX0 := Bx.mk hx;have HBR := Bx.mk hbr;clear hb11 hb12 hbr hs11 hs12 hq7' hu hq hgo12 hxv hnew hx;go_wp2_with fail
    rw [<- hq6, <- hW11, <- hq7, <- hW12];clear hq6 hW11 hq7 hW12;go_at_call 65;refine hins.mono ?_;rintro e w13 ⟨⟨u, rfl⟩, L', hs13, hl13⟩;rw [<- HX0.out] at hl13;have HG13 := Bx.mk hs13.go;have HD13 := Bx.mk (HINS.out w13 L' hs13 hl13)
    have HX13 := Bx.mk (show gxs (gr.set n L') = (wanG ps (gxs g) n).set n (resL HS1 AB l0 (S.take (k + 1))) by
     have e1 : gxs (gr.set n L') = (gxs gr).set n (vxs L'.vs) := List.map_set
     rw [e1, hX.out, List.set_set, HMS.out, HM2.out, hl13, insT_vxs, HXN.out])
    have hkp : ∀ {j : Nat}, j < w10.heap.size -> ¬ GB (.slice (some ⟨gb, 0, none⟩) N vc) gr j -> w13.heap[j]? = w10.heap[j]? := fun hj hn => (hs13.fr.block _ (Nat.lt_of_lt_of_le hj HBR.out.size) hn).trans (HBR.out.block _ hj)
    have HM13 := Bx.mk (show ∃ q, q <= 100000 * 100000 /\ OwnF w13 kS rdB edB hb q (exF HS1) by
     obtain ⟨q, h1, h2⟩ := HM10.out;obtain ⟨es, cl, hm⟩ := ownF_obj h2;refine ⟨q, h1, h2.block (hkp h2.lt fun hn => ?_)⟩;rcases hn with hn | ⟨L0, h0, hn⟩
     ·obtain ⟨cur, hc⟩ := own_cellsQ HG10.out.own hb hn;rw [hm] at hc; cases hc
     ·obtain ⟨cur, hc⟩ := own_cellsQ (HG10.out.lv L0 h0) hb hn
      rw [hm] at hc; cases hc)
    have HO13 := Bx.mk (HO10.out.keep (w' := w13) fun j hj hjl => hkp hjl fun hn => by
     rcases hn with hn | ⟨L0, h0, hn⟩
     ·exact own_type HO10.out HG10.out.own (by decide) j hj hn
     ·exact own_type HO10.out (HG10.out.lv L0 h0) (by decide) j hj hn)
    have HZ12 := Bx.mk (show w1.heap.size <= W12.heap.size by have := HBR.out.size; have := HZ10.out; omega);have HB13' := Bx.mk (HBW10.out.trans ((HBR.out.mono HBW10.out.size).trans ((hs13.bel (HG10.out.below HBR.out) HZ12.out).mono HB31.out)));have HZ13 := Bx.mk (show w1.heap.size <= w13.heap.size by have := hs13.fr.size; have := HZ12.out; omega);clear hins hs13 hl13 hkp;go_wp2_with fail
    go_roundw
    case rel => exact ⟨k + 1, _, by omega, by go_num, HG13, HD13, HX13, HM13, HO13, HB13', HZ13⟩
    case measure => simp [intOf]; omega
  ·obtain rfl : k = SN := by omega
   have HPF := Bx.mk (show PG (gxs gr) /\ gxs gr = gresG (gxs g) ps by
    have e1 : gxs gr = (wanG ps (gxs g) n).set n (resL HS1 AB l0 S) := (by rw [hX.out, HSN.out, List.take_length]);have hm2 := HMM.out;have hAB2 : fndP (wanG ps (gxs g) n)[N - 2]! anyP = AB := (by rw [HGA.out, <- HAB.out]);constructor
    ·rw [e1];have hnl : m + 2 = (wanG ps (gxs g) n).length := (by rw [wanG_len, gxs_len, <- HN.out]; omega);have hnm : n = m + 1 := by omega
     have h1 := (wanG_pg HPG.out ps n (.inl (by rw [gxs_len, <- HN.out]; omega))).setLast hnl (l := resL HS1 AB l0 S) (by have h5 := resL_len HS1 AB S l0; have h6 := HL40.out; rw [<- HSN.out] at h5; omega) (fun v hv q hq => by
      have h2 := (HLP.out k v (by rw [HSN.out, List.take_length]; exact hv)).2 q hq
      rw [hm2, HGA.out, vxs_len, <- HAN.out]; exact h2)
     rw [<- hnm] at h1;exact h1
    ·rw [e1, HGR.out, hAB2, HS.out])
   have hfin := prune_fin w wr w1.heap.size (.slice (some ⟨gb, 0, none⟩) N vc) gr R.1 hG.out HPF.out.1 (by rw [HGRL.out]; omega) (by rw [HRF.out, HPF.out.2]) hB.out HB31.out hZ.out;go_wp2_with fail
   go_at_call 51;refine hfin.mono ?_;rintro e w14 ⟨v14, g14, rfl, ⟨xa, xn, xc, rfl⟩, hgo14, hgx14, hb14⟩;clear hfin;have HF1 := Bx.mk hgo14;have HF2 := Bx.mk hgx14;have HF3 := Bx.mk hb14;clear hgo14 hgx14 hb14;go_wp2_with fail
   go_ret2;exact ⟨_, g14, by rw [HRF.out]; rfl, HF1.out, HF2.out, HF3.out⟩
end Go.Proofs.YtmagjdocondmhaaGreat.Tr.Gr
namespace Go.Proofs.YtmagjdocondmhaaGreat.Tr.Gr
open Go Go.RowKit Slc St Mp Tr Rg
def AscG (g : List (List Vx)) : Prop := ∀ k, k + 1 < g.length -> ∀ v ∈ g[k + 1]!, v.par.Pairwise (· < ·)
theorem gvalid_asc {g : List (List Vx)} (h : gvalidB g = true) : AscG g := fun k hk v hv => by
 have h1 := (gvalid_at h k hk).2 v hv;unfold gfitB badV at h1;rw [Bool.and_eq_true, Bool.not_eq_true', Bool.or_eq_false_iff, Bool.or_eq_false_iff, Bool.not_eq_false', Bool.not_eq_false'] at h1;have h2 := h1.1.2.1;unfold ascI at h2;rw [Bool.and_eq_true, decide_eq_true_eq] at h2;exact h2.1
theorem AscG.set {g : List (List Vx)} (h : AscG g) {k : Nat} (hk : k < g.length) (ps : List B) (st : Int) : AscG (g.set k (wanL ps st g[k]!)) := fun j hj v hv => by
 rw [zL] at hj;rw [set_at2 hk] at hv;split at hv
 ·rename_i e
  unfold wanL at hv;obtain ⟨u, hu, rfl⟩ := List.mem_map.1 hv;rw [<- e] at hu;have := h j hj u hu;rw [wanV_eq];split
  ·exact this
  ·exact this.filter _
 ·exact h j hj v hv
theorem AscG.filt {g : List (List Vx)} (h : AscG g) (hP : PG g) {k : Nat} (hk : k < g.length) (m : List Bool) : AscG (filtG g k m) := fun j hj v hv => by
 rw [filtG_len] at hj;rw [filtG_at hk (j + 1)] at hv;split at hv
 ·rename_i e
  have := keepT_mem (zR _) hv;rw [<- e] at this;exact h j hj v this
 ·split at hv
  ·obtain ⟨u, hu, rfl⟩ := List.mem_map.1 hv;exact renP_asc (h j hj u hu) fun p hp => (hP.par j hj u hu p hp).1
  ·exact h j hj v hv
theorem PG.setW {g : List (List Vx)} (h : PG g) {k : Nat} (hk : k < g.length) (ps : List B) (st : Int) : PG (g.set k (wanL ps st g[k]!)) := by
 refine ⟨fun j hj v hv p hp => ?_, fun l hl => ?_⟩
 ·rw [zL] at hj
  have e : ((g.set k (wanL ps st g[k]!))[j]!).length = (g[j]!).length := by
   rw [set_at2 hk];split
   ·rename_i e; subst e; unfold wanL; rw [List.length_map]
   ·rfl
  rw [e];rw [set_at2 hk] at hv;split at hv
  ·rename_i e'
   unfold wanL at hv;obtain ⟨u, hu, rfl⟩ := List.mem_map.1 hv;rw [<- e'] at hu;exact h.par j hj u hu p (wanV_par hp)
  ·exact h.par j hj v hv p hp
 ·rcases List.mem_or_eq_of_mem_set hl with q | rfl
  ·exact h.len l q
  ·unfold wanL;rw [List.length_map, getElem!_pos g k hk];exact h.len _ (zM _)
theorem wanG_asc {g : List (List Vx)} (h : AscG g) (hP : PG g) (ps : List B) : ∀ n, n < g.length \/ n = 0 -> AscG (wanG ps g n)
 | 0, _ => h
 | n + 1, hn => by
  have h1 := wanG_asc h hP ps n (by omega);have h2 := wanG_pg hP ps n (by omega);have hk : n + 1 < (wanG ps g n).length := by rw [wanG_len]; omega
  rw [wanG];unfold wanK;exact (h1.set hk ps _).filt (h2.setW hk ps _) (by rw [zL]; exact hk) _
theorem with_srt {l : List Int} {x : Int} {pl : Nat} (hs : l.Pairwise (· < ·)) (hp : pl <= l.length) (h1 : ∀ i (hi : i < l.length), i < pl -> l[i] <= x) (h2 : ∀ i (hi : i < l.length), pl <= i -> x < l[i]) : l.take pl ++ x :: l.drop pl = srtI (l ++ [x]) := by
 unfold srtI;refine List.Perm.eq_of_pairwise (le := fun a b : Int => decide (a <= b) = true) (fun a b _ _ h3 h4 => ?_) ?_ (List.pairwise_mergeSort (fun a b c h3 h4 => ?_) (fun a b => ?_) _) ?_
 ·simp only [decide_eq_true_eq] at h3 h4; omega
 ·have hle : l.Pairwise (fun a b => decide (a <= b) = true) := hs.imp fun h => by simp only [decide_eq_true_eq]; omega
  rw [List.pairwise_append]
  have ht : ∀ a ∈ l.take pl, a <= x := fun a ha => by
   obtain ⟨i, hi, rfl⟩ := List.getElem_of_mem ha;rw [List.length_take] at hi;rw [List.getElem_take];exact h1 i (by omega) (by omega)
  have hd : ∀ a ∈ l.drop pl, x < a := fun a ha => by
   obtain ⟨i, hi, rfl⟩ := List.getElem_of_mem ha;rw [List.length_drop] at hi;rw [List.getElem_drop];exact h2 _ (by omega) (by omega)
  refine ⟨hle.sublist (List.take_sublist _ _), ?_, fun a ha b hb => ?_⟩
  ·rw [List.pairwise_cons];exact ⟨fun a ha => by have := hd a ha; simp only [decide_eq_true_eq]; omega, hle.sublist (List.drop_sublist _ _)⟩
  ·have := ht a ha;rcases List.mem_cons.1 hb with rfl | hb
   ·simp only [decide_eq_true_eq]; omega
   ·have := hd b hb; simp only [decide_eq_true_eq]; omega
 ·simp only [decide_eq_true_eq] at *; omega
 ·simp only [Bool.or_eq_true, decide_eq_true_eq]; omega
 ·refine List.Perm.trans ?_ (List.mergeSort_perm _ _).symm;refine List.perm_middle.trans ?_;rw [List.take_append_drop];exact (List.perm_append_singleton x l).symm
end Go.Proofs.YtmagjdocondmhaaGreat.Tr.Gr
