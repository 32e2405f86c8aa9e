/- packed -/
import Derived.Test.YtmagjdocondmhaaGreatPkAn20
import Derived.Deep.Slices
import Derived.Deep.Fields
import Derived.SliceStrings
import Derived.ChangeSame
import Derived.OpenShut
import Derived.ProofKit
import Derived.SizedLaws
set_option linter.unusedVariables false
set_option linter.unusedSimpArgs false
set_option maxRecDepth 100000
set_option maxHeartbeats 64000000
namespace Go.Proofs.YtmagjdocondmhaaGreat.Tr.Gr
open Go Go.RowKit Slc St Mp Tr Rg
attribute [local go_sem] Oper.semAt_some
theorem genter_any (w : World) (v pv : Value) (g : List Lv) (ps : List B) (h : GQ w v g) (hp : Rd w encS pv ps) (hn : g.length <= 90000) (hln : ∀ L ∈ g, L.vs.length <= 100000) (hex : ∀ L ∈ g, (allJ (vxs L.vs) L.vs.length).length + ps.length <= 100000) (hpl : ps.length <= 100000) (hpx : ∀ p ∈ ps, p.length <= 1000000) (cnt : Bool) :
  Calls Tryz.prog 23 #[v, pv, .bool cnt] w fun e w' => GrP w (genterP (gxs g) ps cnt) e w' := by
 obtain ⟨ib, hib, hib0, hib1, hib2⟩ := info_parts info_int;obtain ⟨il, hil, hil0, hil1, hil2⟩ := info_parts info_lev;have hval := gvalid_q w v g h (by omega) hln;obtain ⟨R, hR⟩ : ∃ R, R = genterP (gxs g) ps cnt := ⟨_, rfl⟩
 rw [<- hR];unfold genterP at hR;obtain ⟨ad, c, rfl, -⟩ := h.rd.form;obtain ⟨pa, pc, rfl, -⟩ := hp.form;have HQ := Bx.mk h;have HP := Bx.mk hp;have HLN := Bx.mk hln;have HEX := Bx.mk hex;have HPX := Bx.mk hpx;obtain ⟨N, hN⟩ : ∃ N, N = g.length := ⟨_, rfl⟩
 have HN := Bx.mk hN;obtain ⟨PN, hPN⟩ : ∃ N, N = ps.length := ⟨_, rfl⟩
 have HPN := Bx.mk hPN;obtain ⟨V, hV⟩ : ∃ V, V = gvalidB (gxs g) := ⟨_, rfl⟩
 rw [<- hV] at hval hR;have HV := Bx.mk hV;rw [gxs_len, <- hN] at hR;have HRR := Bx.mk hR;rw [<- hN] at hn hval |-;rw [<- hPN] at hpl |-;clear h hp hln hex hpx hN hPN hV hR;unfold GrP;go_enter Tryz.func23, Tryz.ntmps23;go_wp2_with fail
 go_at_call 15;refine hval.mono ?_;rintro e w1 ⟨rfl, hb1⟩;clear hval
 cases V with
 | false =>
  have HF := Bx.mk (show R = ([], 7) by rw [HRR.out]; rfl);go_wp2_with fail
  go_ret2
  exact ⟨_, [], by rw [HF.out]; rfl, GO.nil _ _, by rw [HF.out]; rfl, hb1⟩
 | true =>
 have HGL := Bx.mk (HQ.out.gl HV.out.symm HLN.out);rcases Nat.eq_zero_or_pos N with e | hN1
 ·have HF := Bx.mk (show R = ([], 0) by rw [HRR.out, if_pos rfl, if_pos e]);have t5 : ((N : Int) == 0) = true := by simp; omega
  have e' : (N : Int) = 0 := by omega
  go_wp2_with fail
  go_ret2;exact ⟨_, [], by rw [HF.out]; rfl, GO.nil _ _, by rw [HF.out]; rfl, hb1⟩
 ·have t5 : ((N : Int) == 0) = false := by simp; omega
  have HB1 := Bx.mk hb1;have hN1l : N - 1 < g.length := by rw [<- HN.out]; omega
  obtain ⟨b, o, rfl, hbl, hcl⟩ := ls_cells HGL.out.rd |>.2 w1 (fun k hk _ => hb1.block k hk) (N - 1) hN1l
  have HRF := Bx.mk (show R = (pruneG (gxs g ++ [levP (vxs (g[N - 1]).vs) ps cnt]), 0) by
   rw [HRR.out, if_pos rfl, if_neg (by omega), gxs_at g (N - 1) hN1l])
  have HVL := Bx.mk (HGL.out.lv _ (zM hN1l));have HLL := Bx.mk (HLN.out _ (zM hN1l));have HEL := Bx.mk (HEX.out _ (zM hN1l));have HPR := Bx.mk (show gvalidB (gxs g) = true from HV.out.symm);have HLG0 := Bx.mk (show g[N - 1] ∈ g /\ (gxs g)[N - 1]! = vxs (g[N - 1]).vs from ⟨zM hN1l, gxs_at g (N - 1) hN1l⟩);obtain ⟨L, hL⟩ : ∃ L, L = g[N - 1]'hN1l := ⟨_, rfl⟩
  have HLG : Bx (L ∈ g /\ (gxs g)[N - 1]! = vxs L.vs) := ⟨by rw [hL]; exact HLG0.out⟩;clear HLG0;rw [<- hL] at hcl HRF HVL HLL HEL;have hidx : ((N : Int) - 1).toNat = N - 1 := by omega
  have hcl' : w1.cell? ⟨b, o + ((N : Int) - 1).toNat, none⟩ = some L.s.val := by rw [hidx]; exact hcl
  obtain ⟨la, lc, hls, -⟩ := HVL.out.rd.form;have HLS := Bx.mk hls;obtain ⟨M, hM⟩ : ∃ M, M = L.vs.length := ⟨_, rfl⟩
  have HM := Bx.mk hM;rw [hls, <- hM] at hcl hcl';rw [hls] at HVL;rw [<- hM] at HLL;have hMM := HLL.out;clear hN1l hL hM hls hb1;go_upto_region 5 with fail
  obtain ⟨W2, hW2⟩ : ∃ W2, W2 = w1.alloc (.cells #[.slice la M lc] 63) := ⟨_, rfl⟩
  obtain ⟨q8, hq8⟩ : ∃ q, q = w1.heap.size := ⟨_, rfl⟩
  go_upto_region 6 with fail
  rw [<- hW2, <- hq8];clear hcl hcl' hidx t5;have HR8 := Bx.mk (show W2.heap[q8]? = some (.cells #[.slice la M lc] 63 (0, 0)) by rw [hW2, hq8]; exact heap_alloc_new _ _);have HB2 := Bx.mk (show Below w.heap.size w W2 by rw [hW2]; exact HB1.out.alloc HB1.out.size _);have HZ2 := Bx.mk (show W2.heap.size = q8 + 1 by rw [hW2, hq8]; simp);clear hW2 hq8;have hmm := @run_makeMap Tryz.prog;obtain ⟨W3, hW3⟩ : ∃ W3, W3 = W2.alloc (.map #[] 0) := ⟨_, rfl⟩
  obtain ⟨be, hbe⟩ : ∃ be, be = W2.heap.size := ⟨_, rfl⟩
  have HBE := Bx.mk hbe;have HM3 := Bx.mk (show ∃ q, q <= (allJ (vxs L.vs) 0).length /\ OwnF W3 kS rdS edS be q (fun _ => none) from ⟨0, by omega, by rw [hW3, hbe]; exact OwnF.made W2 kS rdS edS⟩);have HT3 := Bx.mk (show TBI W3 be (fun _ => none) (exJ (vxs L.vs) 0) from ⟨fun p => (by simp [exJ_zero]), (by intro p s hp; cases hp), (by intro p p' s s' hp; cases hp)⟩);have HBA := Bx.mk (show Below be W2 W3 by rw [hW3, hbe]; exact (Below.refl _ _).alloc (zR _) _);go_upto_region 7 with fail
  rw [<- hW3, <- hbe];clear hW3 hbe hmm;have hr8 := (HBA.out.block q8 (by have := HBE.out; have := HZ2.out; omega)).trans HR8.out;have m8 := cell_of_row _ _ 0 _ _ _ hr8;simp only [List.getElem?_toArray, List.getElem?_cons_zero, List.getElem?_cons_succ] at m8
  clear hr8;go_wp2_with fail
  clear m8;go_loopw [34] (fun i wr => ∃ (k : Nat) (f : B -> Option Sg), k <= M /\ i = .int .i64 k /\ Bx (TBI wr be f (exJ (vxs L.vs) k)) /\ Bx (∃ q, q <= (allJ (vxs L.vs) k).length /\ OwnF wr kS rdS edS be q f) /\ Bx (Below be W2 wr)) (fun i _ => M - (intOf i).toNat)
  case atStart => exact ⟨0, _, by omega, rfl, HT3, HM3, HBA⟩
  case round =>
   clear HT3 HM3 HBA;obtain ⟨k, f, hk, rfl, hT, hO, hB⟩ := hrel;by_cases hlt : k < M
   ·have hkl : k < L.vs.length := by rw [<- HM.out]; exact hlt
    have HBW := Bx.mk (show Below w.heap.size w wr from HB2.out.trans (hB.out.mono (by have := HB2.out.size; have := HBE.out; omega)));obtain ⟨bv, ov, rfl, -, c0, c1, c2⟩ := VL.at3 HVL.out wr HBW.out k hkl;have HXA := Bx.mk (show VtAt w (L.vs[k]) from HVL.out.at_ _ (zM hkl));have HXN := Bx.mk (vxs_at L.vs k hkl);obtain ⟨x, hx⟩ : ∃ x, x = L.vs[k]'hkl := ⟨_, rfl⟩
    rw [<- hx] at c0 c1 c2 HXA HXN;simp only [Sl.val] at c1 c2
    have hXR := HXA.out.1.1;have hXF := HXA.out.2.2.1;obtain ⟨ua, uc, hu, -⟩ := hXR.form;simp only [Sl.val, Value.slice.injEq] at hu
    obtain ⟨hu1, hu2, hu3⟩ := hu;obtain ⟨E, hE⟩ : ∃ E, E = x.n.ex.length := ⟨_, rfl⟩
    have HEN := Bx.mk hE;have HSC := Bx.mk (strs_cells (show Rd w encS (.slice ua x.n.ex.length uc) x.n.ex by rw [<- hu1, <- hu2, <- hu3]; exact hXR)).2;rw [hu1, hu2, hu3, <- hE] at c1;have hEl : E <= 100000 := (by rw [hE]; exact hXF.1);have HPL := Bx.mk hXF.2;clear hx hXR hXF hu1 hu2 hu3 hE hkl;obtain ⟨W4, hW4⟩ : ∃ W4, W4 = wr.alloc (.cells #[.string (bstr x.n.pol), .slice ua E uc, .slice x.q.ad x.q.n x.q.c] 65) := ⟨_, rfl⟩
    obtain ⟨q11, hq11⟩ : ∃ q, q = wr.heap.size := ⟨_, rfl⟩
    have HBA := Bx.mk (show Below wr.heap.size wr W4 by rw [hW4]; exact (Below.refl _ _).alloc (zR _) _);have hr4 : W4.heap[q11]? = some (.cells #[.string (bstr x.n.pol), .slice ua E uc, .slice x.q.ad x.q.n x.q.c] 65 (0, 0)) := (by rw [hW4, hq11]; exact heap_alloc_new _ _);go_upto_region 10 with fail
    rw [<- hW4, <- hq11];clear hW4 hq11 c0 c1 c2;have HT4 := Bx.mk (show TBI W4 be f (exQ (vxs L.vs) k 0) by rw [exQ_zero]; exact hT.out.below HBA.out);have HO4 := Bx.mk (show ∃ q, q <= (allJ (vxs L.vs) k).length + 0 /\ OwnF W4 kS rdS edS be q f by obtain ⟨q, h1, h2⟩ := hO.out; exact ⟨q, h1, h2.below HBA.out⟩);have HB4 := Bx.mk (show Below be W2 W4 from hB.out.trans (HBA.out.mono (by have := hB.out.size; have := HBE.out; omega)));have m4 := cell_of_row _ _ 1 _ _ _ hr4;simp only [List.getElem?_toArray, List.getElem?_cons_zero, List.getElem?_cons_succ] at m4
    clear hr4 hT hO hB;go_wp2_with fail
    clear m4;go_loopw [42] (fun i wr => ∃ (j : Nat) (f : B -> Option Sg), j <= E /\ i = .int .i64 j /\ Bx (TBI wr be f (exQ (vxs L.vs) k j)) /\ Bx (∃ q, q <= (allJ (vxs L.vs) k).length + j /\ OwnF wr kS rdS edS be q f) /\ Bx (Below be W2 wr)) (fun i _ => E - (intOf i).toNat)
    case atStart => exact ⟨0, _, by omega, rfl, HT4, HO4, HB4⟩
    case round =>
     clear HT4 HO4 HB4 HBW HBA;obtain ⟨j, f, hj, rfl, hT, hO, hB⟩ := hrel;by_cases hltj : j < E
     ·have hjl : j < x.n.ex.length := by rw [<- HEN.out]; exact hltj
      have hbw : Below w.heap.size w wr := HB2.out.trans (hB.out.mono (by have := HB2.out.size; have := HBE.out; omega));obtain ⟨bs, os, rfl, -, c0⟩ := HSC.out wr hbw j hjl;have HXS := Bx.mk (exQ_succ (vxs L.vs) k j x.n.ex (by rw [HXN.out]) hjl);have HPK := Bx.mk (HPL.out _ (zM hjl));obtain ⟨p, hp⟩ : ∃ p, p = x.n.ex[j]'hjl := ⟨_, rfl⟩
      rw [<- hp] at c0 HXS HPK
      have HSZ := Bx.mk (show (allJ (vxs L.vs) k).length + j + 1 <= 100000 by
       have h1 := allJ_mono (vxs L.vs) (j := k + 1) (k := L.vs.length) (by rw [<- HM.out]; omega);have h2 := allJ_succ (vxs L.vs) k;rw [HXN.out, <- HEN.out] at h2;have := HEL.out
       omega)
      obtain ⟨q, hq, hop⟩ := hO.out;have HQK := Bx.mk hq;have HOP := Bx.mk hop;have HGL2 := Bx.mk (exQ_len (vxs L.vs) k j p);obtain ⟨G, hG⟩ : ∃ G, G = exQ (vxs L.vs) k j p := ⟨_, rfl⟩
      have HG := Bx.mk hG;have HOWN0 := Bx.mk (hT.out.get p);obtain ⟨sv, hsv⟩ : ∃ s, s = (f p).getD nilS := ⟨_, rfl⟩
      have HSV := Bx.mk hsv;rw [<- hsv, <- hG] at HOWN0;rw [<- hG] at HGL2;obtain ⟨va, vc, hvf, -⟩ := HOWN0.out.rd.form
      have hlook : (Instr.lookup 77 (.map (some be)) (.string (bstr p)) false).run Tryz.prog wr = .ok (.slice va G.length vc) wr := by
       have := (HOP.out.lookS u_mapSI Sg.val nilS (Tryz.zeroValue22 _) rdS_mk rdS_inv (k := p) (by have := HPK.out; unfold maxLen; omega)).1;rw [<- hsv, hvf] at this;exact this
      rw [hvf] at HOWN0;have HVF := Bx.mk hvf;have hba : Below wr.heap.size wr (wr.alloc (.cells #[.int .i64 (k : Nat)] 3)) := (Below.refl _ _).alloc (zR _) _;have HSRC := Bx.mk (src_int wr (k : Nat));have HOWN := Bx.mk (show Slc.Own (wr.alloc (.cells #[.int .i64 (k : Nat)] 3)) (be + 1) 3 1 encI (.slice va G.length vc) G from HOWN0.out.below hba);have HTA := Bx.mk (hT.out.below hba);have HOA := Bx.mk (hop.below hba);have HBB := Bx.mk (show Below be W2 (wr.alloc (.cells #[.int .i64 (k : Nat)] 3)) from hB.out.trans (hba.mono (by have := hB.out.size; have := HBE.out; omega)));have hbz : be + 1 <= (wr.alloc (.cells #[.int .i64 (k : Nat)] 3)).heap.size := (by have := hop.lt; have := hba.size; omega);have hm1 : G.length + 1 <= maxLen := (by have := HGL2.out; have := HSZ.out; unfold maxLen; omega);have hm2 : (G.length + 1) * 8 <= 140737488355328 := (by have := HGL2.out; have := HSZ.out; omega);clear hq hop hG hsv hvf hba hT hO hB hbw hp hjl;go_wp2_with (at_builtin; refine wpList_append_any rfl _ _ _ rfl (be + 1) 3 ib _ 1 8 und_ints hib hib0 hib1 hib2 rfl (by decide) _ G.length (G.flatMap encI) rfl HOWN.out _ 1 ([(k : Int)].flatMap encI) rfl HSRC.out hm1 hm2 hbz ?_)
      intro v9 w9 hapd;have hown := Slc.Own.apd (m := [(k : Int)]) HOWN.out rfl rfl rfl rfl hapd;obtain ⟨s', rfl⟩ := own_sgI hown
      have hne : ∀ j, sv.val.ownBlock = some j -> j ≠ be := fun j hj => by
       have := (HOWN.out.lt j (by rw [<- HVF.out]; exact hj)).1; omega
      have hgr := hapd.grown;rw [<- HVF.out] at hgr;obtain ⟨w10, hrun, ho10, hg10⟩ := (HOA.out.kept hgr (fun e => hne be e.symm rfl)).putS u_mapSI (by have := HQK.out; have := HSZ.out; unfold maxLen; omega) (k := p) (by have := HPK.out; unfold maxLen; omega) s' s'.val (rdS_mk _);have hblk := hapd.blk;rw [<- HVF.out] at hblk
      have hT10 := HTA.out.step (p := p) (x := (k : Int)) (s' := s') (HSV.out ▸ hgr) (by rw [<- HG.out]; exact hown) (by
       rw [<- HSV.out];rcases hblk with q | q
       ·exact .inl q
       ·exact .inr ⟨_, q, zR _⟩) hg10
      have HT10 := Bx.mk (show TBI w10 be (fun j => if j = p then some s' else f j) (exQ (vxs L.vs) k (j + 1)) by
       have e : exQ (vxs L.vs) k (j + 1) = fun i => if i = p then exQ (vxs L.vs) k j p ++ [(k : Int)] else exQ (vxs L.vs) k j i := by
        funext i
        rw [HXS.out];by_cases e : i = p
        ·subst e; simp
        ·rw [if_neg e, zF fun q => e q.symm]; simp
       rw [e]; exact hT10)
      have HO10 := Bx.mk (show ∃ q, q <= (allJ (vxs L.vs) k).length + (j + 1) /\ OwnF w10 kS rdS edS be q (fun j => if j = p then some s' else f j) from ⟨_, by have := HQK.out; omega, ho10⟩)
      have HB10 := Bx.mk (show Below be W2 w10 from (HBB.out.grown hgr (by have := HBB.out.size; have := HBE.out; omega) fun j hj => by
       have := (HOWN.out.lt j (by rw [<- HVF.out]; exact hj)).1; omega).grown hg10 (by have := HBB.out.size; have := hgr.size; have := HBE.out; omega) fun j hj => by simp only [zO] at hj; omega)
      have hsf : ∃ sa sn sc, s'.val = .slice sa sn sc := ⟨_, _, _, rfl⟩
      obtain ⟨sa, sn, sc, hsf⟩ := hsf;have hrun' : (Instr.mapUpdate 77 (.map (some be)) (.string (bstr p)) (.slice sa sn sc)).run Tryz.prog w9 = .ok () w10 := (by rw [<- hsf]; exact hrun);rw [hsf];clear hown hne hgr hrun ho10 hg10 hblk hT10 hsf hlook c0 hapd hm1 hm2 hbz;go_wp2_with fail
      go_roundw
      case rel => exact ⟨j + 1, _, by omega, by go_num, HT10, HO10, HB10⟩
      case measure => simp [intOf]; omega
     ·obtain rfl : j = E := by omega
      have HT5 := Bx.mk (show TBI wr be f (exJ (vxs L.vs) (k + 1)) by
       have := hT.out;rw [HEN.out, <- HXN.out, exQ_all] at this
       exact this)
      have HO5 := Bx.mk (show ∃ q, q <= (allJ (vxs L.vs) (k + 1)).length /\ OwnF wr kS rdS edS be q f by
       obtain ⟨q, h1, h2⟩ := hO.out;refine ⟨q, ?_, h2⟩
       rw [allJ_succ, HXN.out, <- HEN.out]; exact h1)
      go_wp2_with fail
      go_roundw
      case rel => exact ⟨k + 1, f, by omega, by go_num, HT5, HO5, hB⟩
      case measure => simp [intOf]; omega
   ·obtain rfl : k = M := by omega
    obtain ⟨q, hq, hop⟩ := hO.out;have hbw : Below w.heap.size w wr := HB2.out.trans (hB.out.mono (by have := HB2.out.size; have := HBE.out; omega));have HBW := Bx.mk hbw;obtain ⟨vx, hvx⟩ : ∃ vx, vx = vxs L.vs := ⟨_, rfl⟩
    have hvl : vx.length = k := (by rw [hvx, vxs_len, <- HM.out]);have HVX := Bx.mk hvx;have HVXL := Bx.mk hvl;have hTT := hT.out;rw [<- hvx] at hq hTT;have HEL2 := Bx.mk (show (allJ vx vx.length).length + PN <= 100000 by have := HEL.out; rw [hvx, vxs_len, HPN.out]; exact this);have HQ2 := Bx.mk (show q <= 100000 by have := HEL2.out; rw [hvl] at this; omega);have HHAS := Bx.mk (show ∀ p, (f p).isSome = true ↔ exI vx p ≠ [] by unfold exI; rw [hvl]; exact hTT.has_)
    have HXR := Bx.mk (show ∀ p s, f p = some s -> RdIn wr (fun j => j < wr.heap.size) encI s.val (exI vx p) by
     unfold exI; rw [hvl]
     exact fun p s hp => ⟨(hTT.own p s hp).rd, fun j hj => ((hTT.own p s hp).lt j hj).2⟩)
    have HR8w := Bx.mk ((hB.out.block q8 (by have := HBE.out; have := HZ2.out; omega)).trans HR8.out);have HBEL := Bx.mk hop.lt;have HOP := Bx.mk hop;have HBB := Bx.mk hB.out;have hmm := @run_makeMap Tryz.prog;obtain ⟨W5, hW5⟩ : ∃ W5, W5 = wr.alloc (.map #[] 0) := ⟨_, rfl⟩
    obtain ⟨bp, hbp⟩ : ∃ bp, bp = wr.heap.size := ⟨_, rfl⟩
    have HBP := Bx.mk hbp;have HM5 := Bx.mk (show OwnF W5 kS rdS edS bp 0 (fun _ => none) by rw [hW5, hbp]; exact OwnF.made wr kS rdS edS);have HBA := Bx.mk (show Below bp wr W5 by rw [hW5, hbp]; exact (Below.refl _ _).alloc (zR _) _);have HZ5 := Bx.mk (show W5.heap.size = bp + 1 by rw [hW5, hbp]; simp);clear hT hO hB hq hop hTT hvx hvl;go_upto_region 17 with fail
    rw [<- hW5, <- hbp];clear hW5 hbp hmm;have hct := contains_any W5 (.slice pa PN pc) ps anyP (by rw [HPN.out]; exact HP.out.below (hbw.trans (HBA.out.mono (by have := hbw.size; have := HBP.out; omega)))) (by rw [<- HPN.out]; omega);rw [anyP_str] at hct;obtain ⟨A, hA⟩ : ∃ A, A = decide (anyP ∈ ps) := ⟨_, rfl⟩
    have HA := Bx.mk hA;rw [<- hA] at hct;clear hA hbw;go_cut [61] (fun cc wx => cc = .bool (cnt && A) /\ wx = W5)
    case first =>
     cases cnt with
     | false =>
      go_wp2_with fail
      go_meet
      exact ⟨rfl, rfl⟩
     | true =>
      go_wp2_with fail
      go_at_call 48;refine hct.mono ?_;rintro e w2 ⟨rfl, rfl⟩;clear hct;go_wp2_with fail
      go_meet;exact ⟨by cases A <;> rfl, rfl⟩
    case rest =>
    obtain ⟨rfl, hwc⟩ := hcut;rw [hwc];clear hct hwc wc;obtain ⟨C, hC⟩ : ∃ C, C = (cnt && A) := ⟨_, rfl⟩
    have HC := Bx.mk hC;rw [<- hC];clear hC
    have hcp := mcopy_any W5 bp be q f HM5.out (HOP.out.block (HBA.out.block be (by have := HBP.out; have := HBEL.out; omega))) (by have := HBP.out; have := HBEL.out; omega) (by have := HQ2.out; omega) (fun p hp => by
     have h1 := (exJ_mem _ _ _).1 ((HHAS.out p).1 hp);unfold allJ at h1;obtain ⟨i, hi, h1⟩ := List.mem_flatMap.1 h1;have hi' : i < L.vs.length := (by rw [<- HM.out, <- HVXL.out]; exact List.mem_range.1 hi);rw [HVX.out, vxs_at L.vs i hi'] at h1
     exact (HVL.out.at_ _ (zM hi')).2.2.1.2 p h1)
    have HCP := Bx.mk hcp;clear hcp;go_upto_if 61 with fail
    go_cut [61] (fun _ wx => Bx (∃ q', q' <= 100000 /\ OwnF wx kS rdS edS bp q' (fun p => if C then f p else none)) /\ Bx (W5.grownBy wx (some bp)))
    case first =>
     cases C with
     | false =>
      go_wp2_with fail
      go_meet
      exact ⟨⟨0, by omega, HM5.out⟩, ⟨⟨rfl, rfl, rfl, zR _, fun _ _ _ => rfl⟩⟩⟩
     | true =>
      go_wp2_with fail
      go_at_call 49;refine HCP.out.mono ?_;rintro e w2 ⟨⟨u, rfl⟩, ⟨q', hq', ho'⟩, hg'⟩;go_wp2_with fail
      go_meet;exact ⟨⟨q', by have := HQ2.out; omega, ho'⟩, ⟨hg'⟩⟩
    case rest =>
    obtain ⟨⟨q', hq', ho'⟩, ⟨hg5⟩⟩ := hcut;have hbe : be < bp := (by have := HBP.out; have := HBEL.out; omega);have hq8 : q8 < be := (by have := HBE.out; have := HZ2.out; omega);have HOE := Bx.mk (show OwnF wc kS rdS edS be q f from (HOP.out.block (HBA.out.block be hbe)).kept hg5 (by simp only [ne_eq, zO]; omega));have hb6 : Below w.heap.size w wc := (HBW.out.trans (HBA.out.mono (by have := HBW.out.size; have := HBP.out; omega))).grown hg5 (by have := HBW.out.size; have := HBA.out.size; omega) fun j hj => by simp only [zO] at hj; have := HBW.out.size; have := HBP.out; omega
    have HB6 := Bx.mk hb6;have hr8 := (hg5.block q8 (by have := HZ5.out; omega) (by simp only [ne_eq, zO]; omega)).trans ((HBA.out.block q8 (by omega)).trans HR8w.out);have m8 := cell_of_row _ _ 0 _ _ _ hr8;simp only [List.getElem?_toArray, List.getElem?_cons_zero, List.getElem?_cons_succ] at m8
    have hfd := find_any wc (.slice la L.vs.length lc) L.vs (HVL.out.below hb6) (by rw [<- HM.out]; omega) anyP;rw [<- HVX.out, <- HM.out, anyP_str] at hfd;obtain ⟨ST, hST⟩ : ∃ ST, ST = fndP vx anyP := ⟨_, rfl⟩
    have HST := Bx.mk hST;rw [<- hST] at hfd;have HO6 := Bx.mk ho';have HQ6 := Bx.mk hq';have HBE2 := Bx.mk hbe
    have HXR6 := Bx.mk (show ∀ p s, f p = some s -> RdIn wc (fun j => j < bp) encI s.val (exI vx p) from fun p s hp => by
     have h1 := HXR.out p s hp;refine (h1.keep (w' := wc) (by have := hg5.size; have := HBA.out.size; omega) fun j hj hjl => ?_).mono fun j hj _ => by have := HBP.out; omega
     exact (hg5.block j (by have := HBA.out.size; omega) (by simp only [ne_eq, zO]; have := HBP.out; omega)).trans (HBA.out.block j (by have := HBP.out; omega)))
    have HBC := Bx.mk (show bp < wc.heap.size from ho'.lt);clear hg5 hb6 hr8 ho' hq' hbe hq8 HXR HOP HBW HBB HBA HM5 hST;go_wp2_with fail
    go_at_call 50;refine hfd.mono ?_;rintro e w7 ⟨rfl, hb7⟩;clear hfd m8
    have HPT := Bx.mk (show (∀ p, (if C then f p else none).isSome = true ↔ parG vx C [] p ≠ []) from fun p => by
     rw [parG_nil]
     cases C with
     | false => simp
     | true => simpa using HHAS.out p)
    have HPS := Bx.mk (show ∀ p s, (if C then f p else none) = some s -> RdIn w7 (fun j => j ≠ bp) encI s.val (parG vx C [] p) from fun p s hp => by
     rw [parG_nil]
     cases C with
     | false => simp at hp
     | true => exact (RdIn.below (HXR6.out p s (by simpa using hp)) hb7).mono fun j _ hj => by omega)
    have HXR7 := Bx.mk (show ∀ p s, f p = some s -> RdIn w7 (fun j => j ≠ bp) encI s.val (exI vx p) from fun p s hp => (RdIn.below (HXR6.out p s hp) hb7).mono fun j _ hj => by omega);have HO7 := Bx.mk (HO6.out.below hb7);have HOE7 := Bx.mk (HOE.out.below hb7);have HB7 := Bx.mk (HB6.out.trans (hb7.mono HB6.out.size));have HBC7 := Bx.mk (show bp < w7.heap.size by have := HBC.out; have := hb7.size; omega);have HPC := Bx.mk (show ∀ (W : World), Below w.heap.size w W -> ∀ k (hk : k < ps.length), ∃ b o, pa = some ⟨b, o, none⟩ /\ b < w.heap.size /\ W.cell? ⟨b, o + k, none⟩ = some (.string (bstr ps[k])) from (strs_cells HP.out).2);clear HO6 HOE HXR6 HBC hb7;go_wp2_with fail
    go_loopw [69] (fun i wr => ∃ (k : Nat) (fp : B -> Option Sg), k <= PN /\ i = .int .i64 k /\ Bx (∀ p, (fp p).isSome = true ↔ parG vx C (ps.take k) p ≠ []) /\ Bx (∀ p s, fp p = some s -> RdIn wr (fun j => j ≠ bp) encI s.val (parG vx C (ps.take k) p)) /\ Bx (∃ q', q' <= 100000 + k /\ OwnF wr kS rdS edS bp q' fp) /\ Bx (w7.grownBy wr (some bp))) (fun i _ => PN - (intOf i).toNat)
    case atStart => exact ⟨0, _, by omega, rfl, HPT, HPS, ⟨q', by have := HQ6.out; omega, HO7.out⟩, ⟨⟨rfl, rfl, rfl, zR _, fun _ _ _ => rfl⟩⟩⟩
    case round =>
     clear HPT HPS HO7;obtain ⟨i, fp, hi, rfl, hHas, hRd, hO, hG⟩ := hrel;have hbw : Below w.heap.size w wr := HB7.out.grown hG.out HB7.out.size fun j hj => by simp only [zO] at hj; have := HB2.out.size; have := HBE.out; have := HBE2.out; omega
     by_cases hlt : i < PN
     ·have hil : i < ps.length := by rw [<- HPN.out]; exact hlt
      obtain ⟨bs, os, rfl, -, c0⟩ := HPC.out wr hbw i hil;have HTK := Bx.mk (show ps.take (i + 1) = ps.take i ++ [ps[i]] from zA hil);have HPK := Bx.mk (HPX.out _ (zM hil));obtain ⟨p, hp⟩ : ∃ p, p = ps[i]'hil := ⟨_, rfl⟩
      rw [<- hp] at c0 HTK HPK;clear hp hil hbw;have hs := same_any p;obtain ⟨tp, htp⟩ : ∃ t, t = decide (p = anyP) := ⟨_, rfl⟩
      rw [<- htp] at hs;have HTP := Bx.mk htp;clear htp
      cases tp with
      | true =>
       have hpa : p = anyP := of_decide_eq_true HTP.out.symm;have HH2 := Bx.mk (show (∀ p, (fp p).isSome = true ↔ parG vx C (ps.take (i + 1)) p ≠ []) from by rw [HTK.out, parG_any _ _ _ _ hpa]; exact hHas.out);have HR2 := Bx.mk (show (∀ p s, fp p = some s -> RdIn wr (fun j => j ≠ bp) encI s.val (parG vx C (ps.take (i + 1)) p)) from by rw [HTK.out, parG_any _ _ _ _ hpa]; exact hRd.out);have HO2 := Bx.mk (show ∃ q', q' <= 100000 + (i + 1) /\ OwnF wr kS rdS edS bp q' fp by obtain ⟨q', h1, h2⟩ := hO.out; exact ⟨q', by omega, h2⟩);clear hpa;go_wp2_with fail
       go_roundw
       case rel => exact ⟨i + 1, fp, by omega, by go_num, HH2, HR2, HO2, hG⟩
       case measure => simp [intOf]; omega
      | false =>
       have HPA := Bx.mk (show p ≠ anyP from of_decide_eq_false HTP.out.symm);have HOEw := Bx.mk (HOE7.out.kept hG.out (by simp only [ne_eq, zO]; have := HBE2.out; omega))
       have hv : ∃ va vc, ((f p).getD nilS).val = .slice va (exI vx p).length vc := by
        cases hf : f p with
        | some s0 => obtain ⟨va, vc, h1, -⟩ := (HXR7.out p s0 hf).1.form; exact ⟨va, vc, h1⟩
        | none =>
         have : exI vx p = [] := by
          cases he : exI vx p with
          | nil => rfl
          | cons a b => have := (HHAS.out p).2 (by rw [he]; simp); rw [hf] at this; cases this
         exact ⟨none, 0, by rw [this]; rfl⟩
       obtain ⟨va, vc, hvf⟩ := hv
       have hlook : (Instr.lookup 77 (.map (some be)) (.string (bstr p)) false).run Tryz.prog wr = .ok (.slice va (exI vx p).length vc) wr := by
        have := (HOEw.out.lookS u_mapSI Sg.val nilS (Tryz.zeroValue22 _) rdS_mk rdS_inv (k := p) (by have := HPK.out; unfold maxLen; omega)).1;rw [hvf] at this;exact this
       obtain ⟨EL, hEL⟩ : ∃ n, n = (exI vx p).length := ⟨_, rfl⟩
       rw [<- hEL] at hlook hvf;have HELN := Bx.mk hEL;have HVF := Bx.mk hvf;clear hEL hvf;by_cases hpos : 0 < EL
       ·have tpos : decide ((EL : Int) > 0) = true := zT (by omega);have hne : exI vx p ≠ [] := fun e => by have := HELN.out; rw [e] at this; simp at this; omega
        have hsome := (HHAS.out p).2 hne;obtain ⟨s0, hs0⟩ := Option.isSome_iff_exists.1 hsome;obtain ⟨q1, hq1, ho1⟩ := hO.out;obtain ⟨w8, hrun, ho8, hg8⟩ := ho1.putS u_mapSI (by unfold maxLen; omega) (k := p) (by have := HPK.out; unfold maxLen; omega) s0 s0.val (rdS_mk _);have hvs : s0.val = .slice va EL vc := (by have := HVF.out; rw [hs0] at this; exact this);rw [hvs] at hrun;have hrun' : (Instr.mapUpdate 77 (.map (some bp)) (.string (bstr p)) (.slice va EL vc)).run Tryz.prog wr = .ok () w8 := hrun;have hkeep : ∀ {v : Value} {l : List Int}, RdIn wr (fun j => j ≠ bp) encI v l -> RdIn w8 (fun j => j ≠ bp) encI v l := fun hv => hv.keep hg8.size fun j hj hjl => hg8.block j hjl (by simp only [ne_eq, zO]; exact hj)
        have hk7 : RdIn wr (fun j => j ≠ bp) encI s0.val (exI vx p) := (HXR7.out p s0 hs0).keep hG.out.size fun j hj hjl => hG.out.block j hjl (by simp only [ne_eq, zO]; exact hj)
        have HH2 := Bx.mk (show (∀ j, ((fun j => if j = p then some s0 else fp j) j).isSome = true ↔ parG vx C (ps.take (i + 1)) j ≠ []) from fun j => by
         rw [HTK.out, parG_exp _ _ _ _ HPA.out hne];by_cases e : j = p
         ·simp [e, hne]
         ·simp only [if_neg e]; exact hHas.out j)
        have HR2 := Bx.mk (show (∀ j s, (fun j => if j = p then some s0 else fp j) j = some s -> RdIn w8 (fun j => j ≠ bp) encI s.val (parG vx C (ps.take (i + 1)) j)) from fun j s hj => by
         rw [HTK.out, parG_exp _ _ _ _ HPA.out hne];by_cases e : j = p
         ·simp only [if_pos e, zO] at hj |-
          subst hj; exact hkeep hk7
         ·simp only [if_neg e] at hj |-; exact hkeep (hRd.out j s hj))
        have HO2 := Bx.mk (show ∃ q', q' <= 100000 + (i + 1) /\ OwnF w8 kS rdS edS bp q' (fun j => if j = p then some s0 else fp j) from ⟨_, by omega, ho8⟩);have HG2 := Bx.mk (grown_same hG.out hg8);clear hne hsome hs0 hq1 ho1 hrun ho8 hg8 hvs hk7 hHas hRd hO hG hkeep;go_wp2_with fail
        go_roundw
        case rel => exact ⟨i + 1, _, by omega, by go_num, HH2, HR2, HO2, HG2⟩
        case measure => simp [intOf]; omega
       ·have tpos : decide ((EL : Int) > 0) = false := zF (by omega);have HNE := Bx.mk (show exI vx p = [] from List.length_eq_zero_iff.1 (by have := HELN.out; omega));by_cases hst : 0 <= ST
        ·have tst : decide (ST >= 0) = true := zT hst;obtain ⟨q1, hq1, ho1⟩ := hO.out;have hba : Below wr.heap.size wr (wr.alloc (.cells #[.int .i64 ST] 3)) := (Below.refl _ _).alloc (zR _) _;have hnew : Slc.Own (wr.alloc (.cells #[.int .i64 ST] 3)) wr.heap.size 3 1 encI (.slice (some ⟨wr.heap.size, 0, none⟩) 1 1) [ST] := own_alloc encI_ok wr [ST] _ rfl (zR _) (by unfold maxLen; simp);obtain ⟨w8, hrun, ho8, hg8⟩ := (ho1.below hba).putS u_mapSI (by unfold maxLen; omega) (k := p) (by have := HPK.out; unfold maxLen; omega) (⟨some (wr.heap.size, 0), 1, 1⟩ : Sg) (.slice (some ⟨wr.heap.size, 0, none⟩) 1 1) (rdS_mk (⟨some (wr.heap.size, 0), 1, 1⟩ : Sg));have hrun' : (Instr.mapUpdate 77 (.map (some bp)) (.string (bstr p)) (.slice (some ⟨wr.heap.size, 0, none⟩) 1 1)).run Tryz.prog (wr.alloc (.cells #[.int .i64 ST] 3)) = .ok () w8 := hrun;have hbl := ho1.lt;have hkeep : ∀ {v : Value} {l : List Int}, RdIn (wr.alloc (.cells #[.int .i64 ST] 3)) (fun j => j ≠ bp) encI v l -> RdIn w8 (fun j => j ≠ bp) encI v l := fun hv => hv.keep hg8.size fun j hj hjl => hg8.block j hjl (by simp only [ne_eq, zO]; exact hj)
         have hst' : 0 <= fndP vx anyP := by rw [<- HST.out]; exact hst
         have HH2 := Bx.mk (show (∀ j, ((fun j => if j = p then some (⟨some (wr.heap.size, 0), 1, 1⟩ : Sg) else fp j) j).isSome = true ↔ parG vx C (ps.take (i + 1)) j ≠ []) from fun j => by
          rw [HTK.out, parG_star _ _ _ _ HPA.out HNE.out hst'];by_cases e : j = p
          ·simp [e]
          ·simp only [if_neg e]; exact hHas.out j)
         have HR2 := Bx.mk (show (∀ j s, (fun j => if j = p then some (⟨some (wr.heap.size, 0), 1, 1⟩ : Sg) else fp j) j = some s -> RdIn w8 (fun j => j ≠ bp) encI s.val (parG vx C (ps.take (i + 1)) j)) from fun j s hj => by
          rw [HTK.out, parG_star _ _ _ _ HPA.out HNE.out hst'];by_cases e : j = p
          ·simp only [if_pos e, zO] at hj |-
           subst hj;rw [<- HST.out];exact hkeep ⟨hnew.rd, fun j hj => by have := (hnew.lt j hj).1; omega⟩
          ·simp only [if_neg e] at hj |-; exact hkeep ((hRd.out j s hj).below hba))
         have HO2 := Bx.mk (show ∃ q', q' <= 100000 + (i + 1) /\ OwnF w8 kS rdS edS bp q' (fun j => if j = p then some (⟨some (wr.heap.size, 0), 1, 1⟩ : Sg) else fp j) from ⟨_, by omega, ho8⟩);have HG2 := Bx.mk (grown_same (grown_bel hG.out hba) hg8);clear hq1 ho1 hrun ho8 hg8 hHas hRd hO hG hkeep hnew hba hbl hst';go_wp2_with fail
         go_roundw
         case rel => exact ⟨i + 1, _, by omega, by go_num, HH2, HR2, HO2, HG2⟩
         case measure => simp [intOf]; omega
        ·have tst : decide (ST >= 0) = false := zF hst;have hst' : ¬ 0 <= fndP vx anyP := (by rw [<- HST.out]; exact hst);have HH2 := Bx.mk (show (∀ p, (fp p).isSome = true ↔ parG vx C (ps.take (i + 1)) p ≠ []) from by rw [HTK.out, parG_no _ _ _ _ HNE.out hst']; exact hHas.out);have HR2 := Bx.mk (show (∀ p s, fp p = some s -> RdIn wr (fun j => j ≠ bp) encI s.val (parG vx C (ps.take (i + 1)) p)) from by rw [HTK.out, parG_no _ _ _ _ HNE.out hst']; exact hRd.out);have HO2 := Bx.mk (show ∃ q', q' <= 100000 + (i + 1) /\ OwnF wr kS rdS edS bp q' fp by obtain ⟨q', h1, h2⟩ := hO.out; exact ⟨q', by omega, h2⟩);clear hst';go_wp2_with fail
         go_roundw
         case rel => exact ⟨i + 1, fp, by omega, by go_num, HH2, HR2, HO2, hG⟩
         case measure => simp [intOf]; omega
     ·obtain rfl : PN = i := by omega
      have HPF := Bx.mk (show parG vx C (ps.take PN) = parF vx ps cnt by rw [HPN.out, List.take_length, parG_all, HC.out, HA.out]);have hHas' := hHas.out;have hRd' := hRd.out;rw [HPF.out] at hHas' hRd';have HHAS' := Bx.mk hHas';have HRD' := Bx.mk hRd';have hcpy := copied_any wr _ g (HGL.out.below hbw) (by rw [<- HN.out]; omega) HLN.out;rw [<- HN.out] at hcpy;have HBW := Bx.mk hbw;obtain ⟨q1, hq1, ho1⟩ := hO.out;have HQ1 := Bx.mk (show q1 <= 1000000 by omega);have HO1 := Bx.mk ho1;have HBR := Bx.mk (show w.heap.size <= wr.heap.size from hbw.size);clear hHas hRd hHas' hRd' hO hq1 ho1 hbw hG;go_wp2_with fail
      go_at_call 52;refine hcpy.mono ?_;rintro e w8 ⟨v', g', rfl, hgo, hgx, hpd, hb8⟩;clear hcpy;have HGO := Bx.mk hgo;have HGX := Bx.mk hgx;have HB8 := Bx.mk hb8
      have hks : ∀ p ∈ keyL vx ps cnt, p.length <= 1000000 := fun p hp => by
       rcases keyL_from hp with h1 | h1
       ·unfold allJ at h1;obtain ⟨j, hj, h1⟩ := List.mem_flatMap.1 h1;have hj' : j < L.vs.length := (by rw [<- HM.out, <- HVXL.out]; exact List.mem_range.1 hj);rw [HVX.out, vxs_at L.vs j hj'] at h1;exact (HVL.out.at_ _ (zM hj')).2.2.1.2 p h1
       ·exact HPX.out p h1
      have hkl := keyL_len vx ps cnt;rw [<- HPN.out] at hkl;have hkl2 : (keyL vx ps cnt).length <= 100000 := (by have := HEL2.out; omega);have hlev := level_any w8 bp q1 fp (parF vx ps cnt) (fun j => j < wr.heap.size) (keyL vx ps cnt) (HO1.out.below hb8) HQ1.out (fun p s hp => ⟨(HRD'.out p s hp).1.below hb8, fun j hj => (HRD'.out p s hp).1.lt j hj⟩) (keyL_asc _ _ _) (fun p => by rw [keyL_mem, HHAS'.out]) (by omega) hks;have HKS := Bx.mk hks;have HKL := Bx.mk hkl2;obtain ⟨ga, gc, rfl, -⟩ := hgo.own.rd.form;clear hgo hgx hpd hb8 hks hkl hkl2;go_wp2_with fail
      go_at_call 53;refine hlev.mono ?_;rintro e w9 ⟨v9, Lx, rfl, hlp, hvx9, hb9⟩;clear hlev;obtain ⟨s9, hs9⟩ := sl_of hlp.own;subst hs9;have HLP := Bx.mk hlp;have HV9 := Bx.mk hvx9;have hba : Below w9.heap.size w9 (w9.alloc (.cells #[s9.val] 63)) := (Below.refl _ _).alloc (zR _) _;have hb10 : Below w8.heap.size w8 (w9.alloc (.cells #[s9.val] 63)) := hb9.trans (hba.mono hb9.size);have HB10 := Bx.mk hb10;have hg10 := HGO.out.below hb10;have HSRC := Bx.mk (show SrcV (w9.alloc (.cells #[s9.val] 63)) 1 (.slice (some ⟨w9.heap.size, 0, none⟩) 1 1) 1 ([(⟨Lx, s9⟩ : Lv)].flatMap encL) from src_new encL_ok (heap_alloc_new _ _));have HG10 := Bx.mk hg10;have hgl : g'.length = N := (by have := congrArg List.length HGX.out; rw [gxs_len, gxs_len, <- HN.out] at this; exact this);have hm1 : g'.length + 1 <= maxLen := (by unfold maxLen; omega);have hm2 : (g'.length + 1) * 24 <= 140737488355328 := (by omega);have hbz : wr.heap.size <= (w9.alloc (.cells #[s9.val] 63)).heap.size := (by have := hb10.size; have := HB8.out.size; omega);have HGLN := Bx.mk hgl;have HOWN := Bx.mk hg10.own;have HBA := Bx.mk hba;have HB9 := Bx.mk hb9;have HSV := Bx.mk (show s9.val = .slice s9.ad s9.n s9.c from rfl);simp only [Sl.val] at HSRC HOWN hbz |-
      clear hlp hvx9 hba hb10 hg10 hgl hb9;go_wp2_with (at_builtin; refine wpList_append_any rfl _ _ _ rfl wr.heap.size 63 il _ 1 24 und_levs hil hil0 hil1 hil2 rfl (by decide) _ g'.length (g'.flatMap encL) rfl HOWN.out _ 1 ([(⟨Lx, s9⟩ : Lv)].flatMap encL) rfl HSRC.out hm1 hm2 hbz ?_)
      intro v11 w11 hapd;have hgr := hapd.grown;have hvx9 := HV9.out;have hlp := HLP.out;have hs9 : ∀ j, s9.val.ownBlock = some j -> w8.heap.size <= j := fun j hj => (hlp.own.lt j hj).1
      have hgb : ∀ j, GB (.slice ga g'.length gc) g' j -> wr.heap.size <= j /\ j < w8.heap.size := fun j hj => HGO.out.lt hj
      obtain ⟨hgo11, hgb11⟩ := HG10.out.snoc (⟨Lx, s9⟩ : Lv) ((hlp.own.below HBA.out).mono HB8.out.size) (fun j hj hn => by have := hs9 j hj; have := (hgb j hn).2; omega)
       (fun L0 h0 x hx => (VtIn.below (HGO.out.nm L0 h0 x hx).at_ HB10.out).mono fun j _ hj e => by have := hs9 j e; omega)
       (fun x hx => by
        have hu := (RdIn.below (hlp.u x hx) HBA.out).mono (S' := fun k => ¬ GB (.slice ga g'.length gc) g' k /\ s9.val.ownBlock ≠ some k) fun j _ hj => ⟨fun hn => by have := (hgb j hn).2; have := hj.1; omega, hj.2⟩
        have hq := (RdIn.below (hlp.q x hx) HBA.out).mono (S' := fun k => ¬ GB (.slice ga g'.length gc) g' k /\ s9.val.ownBlock ≠ some k) fun j _ hj => ⟨fun hn => by have := (hgb j hn).1; omega, fun e => by have := hs9 j e; have := HB8.out.size; omega⟩
        refine ⟨hu, .inr hq, ?_⟩;have hxm : x.n ∈ vxs Lx := List.mem_map.2 ⟨x, hx, rfl⟩;rw [hvx9] at hxm;obtain ⟨p, hp, he⟩ := List.mem_map.1 hxm;rw [<- he];refine ⟨⟨by simp [lvV], fun b hb => ?_⟩, HKS.out p hp, ?_, fun i hi => ?_⟩
        ·simp only [lvV, zS] at hb; subst hb; exact HKS.out _ hp
        ·have h1 := parF_len vx ps cnt p;have h2 := HEL2.out;have h3 := HEL.out
         show (parF vx ps cnt p).length <= 100000
         by_cases hz : (allJ vx vx.length).length = 0 \/ 0 < PN
         ·rcases hz with hz | hz <;> omega
         ·have hps : ps = [] := List.length_eq_zero_iff.1 (by rw [<- HPN.out]; omega);have h4 := exJ_len vx vx.length p
          have h5 : parF vx ps cnt p = [] \/ parF vx ps cnt p = exI vx p := by
           unfold parF;rw [hps];split
           ·exact .inr rfl
           ·left; simp
          rcases h5 with h5 | h5
          ·rw [h5]; simp
          ·rw [h5]; unfold exI; omega
        ·have := parF_range vx ps cnt p i hi;rw [HVXL.out] at this
         omega)
       rfl rfl rfl rfl hapd
      have hgxs : gxs (g' ++ [⟨Lx, s9⟩]) = gxs g ++ [levP vx ps cnt] := by
       have e1 : gxs (g' ++ [⟨Lx, s9⟩]) = gxs g' ++ [vxs Lx] := (by simp [gxs]);rw [e1, HGX.out, hvx9]; rfl
      have hvl1 : (gxs g)[(gxs g).length - 1]! = vx := by rw [gxs_len, <- HN.out, HLG.out.2, HVX.out]
      have hpg := enter_pg HPR.out (by rw [gxs_len, <- HN.out]; exact hN1) (fun l hl => by
       obtain ⟨L0, h0, rfl⟩ := List.mem_map.1 hl
       rw [vxs_len]; exact HLN.out L0 h0) ps cnt (by rw [hvl1]; exact HKL.out)
      rw [hvl1] at hpg;have hprn := prune_any w11 wr.heap.size v11 (g' ++ [⟨Lx, s9⟩]) hgo11 (by rw [hgxs]; exact hpg) (by rw [List.length_append, HGLN.out]; simp; omega)
      have hb11 : Below wr.heap.size wr w11 := (HB8.out.trans (HB10.out.mono HB8.out.size)).grown hgr (by have := HB8.out.size; have := HB10.out.size; omega) fun j hj => by
       have := (HG10.out.own.lt j hj).1; omega
      have HB11 := Bx.mk hb11;have HGS := Bx.mk hgxs;have HGL11 := Bx.mk (fun j => hgo11.lt (k := j));obtain ⟨va, vc, rfl, -⟩ := hgo11.own.rd.form;obtain ⟨N1, hN1l⟩ : ∃ n, n = (g' ++ [(⟨Lx, s9⟩ : Lv)]).length := ⟨_, rfl⟩
      rw [<- hN1l] at hprn HGL11 |-;clear hN1l;clear hgr hvx9 hlp hs9 hgb hgo11 hgb11 hgxs hvl1 hpg hb11 hapd hm1 hm2 hbz;go_wp2_with fail
      go_at_call 51;refine hprn.mono ?_;rintro e w12 ⟨v12, g12, rfl, hgo12, hgx12, hfr12, -⟩;clear hprn;have hb12 : Below wr.heap.size w11 w12 := hfr12.below (fun j hj => (HGL11.out j hj).1) (by have := HB11.out.size; omega);have HB12 := Bx.mk (show Below w.heap.size w w12 from HBW.out.trans ((HB11.out.trans hb12).mono HBR.out));have HG12 := Bx.mk (hgo12.mono HBR.out);have HX12 := Bx.mk (show gxs g12 = R.1 by rw [hgx12, HGS.out, HRF.out, HVX.out]);obtain ⟨xa, xc, rfl, -⟩ := hgo12.own.rd.form;clear hgo12 hgx12 hfr12 hb12;go_wp2_with fail
      go_ret2;exact ⟨_, g12, by rw [HRF.out]; rfl, HG12.out, HX12.out, HB12.out⟩
def p12 : B := [49, 46, 50]
def p13 : B := [49, 46, 51]
def p51 : B := [53, 46, 49]
def p52 : B := [53, 46, 50]
def litG (K : Nat) (g : List (List Vx)) : Bool := g.all fun l => decide (l.length <= K) && (decide ((allJ l l.length).length <= K) && l.all fun v => decide (v.par.length <= K))
theorem litG_len {K : Nat} {g : List Lv} (h : litG K (gxs g) = true) : ∀ L ∈ g, L.vs.length <= K := fun L hL => by
 have := List.all_eq_true.1 h (vxs L.vs) (List.mem_map.2 ⟨L, hL, rfl⟩);simp only [Bool.and_eq_true, decide_eq_true_eq] at this
 have := this.1;rwa [vxs_len] at this
theorem litG_all {K : Nat} {g : List Lv} (h : litG K (gxs g) = true) : ∀ L ∈ g, (allJ (vxs L.vs) L.vs.length).length <= K := fun L hL => by
 have := List.all_eq_true.1 h (vxs L.vs) (List.mem_map.2 ⟨L, hL, rfl⟩);simp only [Bool.and_eq_true, decide_eq_true_eq] at this
 have := this.2.1;rwa [vxs_len] at this
theorem litG_pb {K : Nat} {g : List (List Vx)} (h : litG K g = true) : PB K g := fun l hl v hv => by
 have := List.all_eq_true.1 h l hl;simp only [Bool.and_eq_true, decide_eq_true_eq, List.all_eq_true] at this
 exact this.2.2 v hv
def awG1 : List (List Vx) × Int := genterP rootG [p12, p13] true
def awG2 : List (List Vx) × Int := gmapP awG1.1 [(p12, p51), (p12, p52), (p13, p51), (p13, p52)] true
def awG3 : List (List Vx) × Int := genterP awG2.1 [p51, p52] true
def awG4 : List (List Vx) × Int := gresP awG3.1 [p13]
theorem ag0 : litG 1000 rootG = true := by kernel_rfl
theorem ag1 : awG1.2 = 0 /\ awG1.1.length = 2 /\ litG 1000 awG1.1 = true := ⟨by kernel_rfl, by kernel_rfl, by kernel_rfl⟩
theorem ag2 : awG2.2 = 0 /\ awG2.1.length = 2 /\ litG 1000 awG2.1 = true := ⟨by kernel_rfl, by kernel_rfl, by kernel_rfl⟩
theorem ag3 : awG3.2 = 0 /\ awG3.1.length = 3 /\ litG 1000 awG3.1 = true := ⟨by kernel_rfl, by kernel_rfl, by kernel_rfl⟩
theorem ag3' : (awG3.1[2]!).length = 2 /\ ((awG3.1[2]!)[0]!).par.length = 2 /\ sizG awG3.1 = 5 /\ gvalidB awG3.1 = true := ⟨by kernel_rfl, by kernel_rfl, by kernel_rfl, by kernel_rfl⟩
theorem ag4 : awG4.2 = 0 /\ litG 1000 awG4.1 = true /\ awG4.1.length = 3 := ⟨by kernel_rfl, by kernel_rfl, by kernel_rfl⟩
theorem ag5 : gpolP awG4.1 = [p13] := by kernel_rfl
theorem rdS {w : World} {l : List B} {cs : Array Value} (hc : cs.toList = l.flatMap encS) (hl : l.length <= 1000) : Rd (w.alloc (.cells cs 9)) encS (.slice (some ⟨w.heap.size, 0, none⟩) l.length l.length) l :=
 (own_alloc (Bk := w.heap.size) encS_ok w l cs hc (zR _) (by unfold maxLen; omega)).rd
theorem rdM {w : World} {l : List (B × B)} {cs : Array Value} (hc : cs.toList = l.flatMap encP) (hl : l.length <= 1000) : Rd (w.alloc (.cells cs 49)) encP (.slice (some ⟨w.heap.size, 0, none⟩) l.length l.length) l :=
 (own_alloc (Bk := w.heap.size) encP_ok w l cs hc (zR _) (by unfold maxLen; omega)).rd
theorem GrP.ok {w : World} {R : List (List Vx) × Int} {e : Ending} {w' : World} (h : GrP w R e w') {c : Int} (hc : R.2 = c) : ∃ ad k g', e = .returned (.tuple #[.slice ad g'.length k, .int .i64 c]) /\ GO w' w.heap.size (.slice ad g'.length k) g' /\ gxs g' = R.1 /\ Below w.heap.size w w' := by
 obtain ⟨v', l', he, ho, hn, hb⟩ := h;obtain ⟨ad, k, rfl, -⟩ := ho.own.rd.form;exact ⟨ad, k, l', by rw [he, hc], ho, hn, hb⟩
theorem gawake_any (w : World) : Calls Tryz.prog 11 #[] w fun e w' => e = .returned (.bool true) /\ Below w.heap.size w w' := by
 have h0 := groot_any w;go_enter Tryz.func11, Tryz.ntmps11;go_wp2_with fail
 go_at_call 20;refine h0.mono ?_;rintro e w1 ⟨v1, g1, rfl, ho1, hn1, hb1⟩;obtain ⟨a1, c1, rfl, -⟩ := ho1.own.rd.form;obtain ⟨W1, hW1⟩ : ∃ W1, W1 = w1.alloc (.cells #[.string ⟨#[49, 46, 50]⟩, .string ⟨#[49, 46, 51]⟩] 9) := ⟨_, rfl⟩
 have hB1 : Below w1.heap.size w1 W1 := by rw [hW1]; exact (Below.refl _ _).alloc (zR _) _
 have hr1 : Rd W1 encS (.slice (some ⟨w1.heap.size, 0, none⟩) 2 2) [p12, p13] := by rw [hW1]; exact rdS (l := [p12, p13]) rfl (by simp)
 have hl1 : g1.length = 1 := by rw [<- gxs_len, hn1]; rfl
 have hc1 : Calls Tryz.prog 23 #[.slice a1 g1.length c1, .slice (some ⟨w1.heap.size, 0, none⟩) 2 2, .bool true] W1 fun e w' => GrP W1 awG1 e w' := by
  have hlt : litG 1000 (gxs g1) = true := by rw [hn1]; exact ag0
  have := genter_any W1 (.slice a1 g1.length c1) (.slice (some ⟨w1.heap.size, 0, none⟩) 2 2) g1 [p12, p13] (ho1.gl.q.below hB1) hr1 (by omega) (fun L hL => by have := litG_len hlt L hL; omega) (fun L hL => by have := litG_all hlt L hL; simp; omega) (by simp) (by intro p hp; simp [p12, p13] at hp; rcases hp with rfl | rfl <;> simp) true;rw [hn1] at this; exact this
 have HBW1 := Bx.mk (hb1.trans (hB1.mono hb1.size));rw [hl1] at hc1 |-;clear h0 ho1 hn1 hb1 hB1 hr1 hl1;go_wp2_with fail
 rw [<- hW1];clear hW1;go_at_call 23;refine hc1.mono ?_;intro e w2 hE;obtain ⟨a2, c2, g2, rfl, ho2, hn2, hb2⟩ := hE.ok ag1.1;have hl2 : g2.length = 2 := by rw [<- gxs_len, hn2]; exact ag1.2.1
 obtain ⟨W2, hW2⟩ : ∃ W2, W2 = w2.alloc (.cells #[.string ⟨#[49, 46, 50]⟩, .string ⟨#[53, 46, 49]⟩, .string ⟨#[49, 46, 50]⟩, .string ⟨#[53, 46, 50]⟩, .string ⟨#[49, 46, 51]⟩, .string ⟨#[53, 46, 49]⟩, .string ⟨#[49, 46, 51]⟩, .string ⟨#[53, 46, 50]⟩] 49) := ⟨_, rfl⟩
 have hB2 : Below w2.heap.size w2 W2 := by rw [hW2]; exact (Below.refl _ _).alloc (zR _) _
 have hr2 : Rd W2 encP (.slice (some ⟨w2.heap.size, 0, none⟩) 4 4) [(p12, p51), (p12, p52), (p13, p51), (p13, p52)] := by rw [hW2]; exact rdM (l := [(p12, p51), (p12, p52), (p13, p51), (p13, p52)]) rfl (by simp)
 have hc2 : Calls Tryz.prog 26 #[.slice a2 g2.length c2, .slice (some ⟨w2.heap.size, 0, none⟩) 4 4, .bool true] W2 fun e w' => GrP W2 awG2 e w' := by
  have hlt : litG 1000 (gxs g2) = true := by rw [hn2]; exact ag1.2.2
  have := gmap_any W2 (.slice a2 g2.length c2) (.slice (some ⟨w2.heap.size, 0, none⟩) 4 4) g2 [(p12, p51), (p12, p52), (p13, p51), (p13, p52)] (ho2.gl.q.below hB2) hr2 (by omega) (fun L hL => by have := litG_len hlt L hL; omega) (by simp) (by intro p hp; simp at hp; rcases hp with rfl | rfl | rfl | rfl <;> simp [p12, p13, p51, p52]) true;rw [hn2] at this; exact this
 have HBW2 := Bx.mk ((HBW1.out.trans (hb2.mono HBW1.out.size)).trans (hB2.mono (Nat.le_trans HBW1.out.size hb2.size)));rw [hl2] at hc2 |-;clear hc1 hE ho2 hn2 hb2 hB2 hr2 hl2;go_wp2_with fail
 rw [<- hW2];clear hW2;go_at_call 26;refine hc2.mono ?_;intro e w3 hE;obtain ⟨a3, c3, g3, rfl, ho3, hn3, hb3⟩ := hE.ok ag2.1;have hl3 : g3.length = 2 := by rw [<- gxs_len, hn3]; exact ag2.2.1
 obtain ⟨W3, hW3⟩ : ∃ W3, W3 = w3.alloc (.cells #[.string ⟨#[53, 46, 49]⟩, .string ⟨#[53, 46, 50]⟩] 9) := ⟨_, rfl⟩
 have hB3 : Below w3.heap.size w3 W3 := by rw [hW3]; exact (Below.refl _ _).alloc (zR _) _
 have hr3 : Rd W3 encS (.slice (some ⟨w3.heap.size, 0, none⟩) 2 2) [p51, p52] := by rw [hW3]; exact rdS (l := [p51, p52]) rfl (by simp)
 have hc3 : Calls Tryz.prog 23 #[.slice a3 g3.length c3, .slice (some ⟨w3.heap.size, 0, none⟩) 2 2, .bool true] W3 fun e w' => GrP W3 awG3 e w' := by
  have hlt : litG 1000 (gxs g3) = true := by rw [hn3]; exact ag2.2.2
  have := genter_any W3 (.slice a3 g3.length c3) (.slice (some ⟨w3.heap.size, 0, none⟩) 2 2) g3 [p51, p52] (ho3.gl.q.below hB3) hr3 (by omega) (fun L hL => by have := litG_len hlt L hL; omega) (fun L hL => by have := litG_all hlt L hL; simp; omega) (by simp) (by intro p hp; simp [p51, p52] at hp; rcases hp with rfl | rfl <;> simp) true;rw [hn3] at this; exact this
 have HBW3 := Bx.mk ((HBW2.out.trans (hb3.mono HBW2.out.size)).trans (hB3.mono (Nat.le_trans HBW2.out.size hb3.size)));rw [hl3] at hc3 |-;clear hc2 hE ho3 hn3 hb3 hB3 hr3 hl3;go_wp2_with fail
 rw [<- hW3];clear hW3;go_at_call 23;refine hc3.mono ?_;intro e w4 hE;obtain ⟨a4, c4, g4, rfl, ho4, hn4, hb4⟩ := hE.ok ag3.1;have HLT4 := Bx.mk (show litG 1000 (gxs g4) = true by rw [hn4]; exact ag3.2.2);have hl4 : g4.length = 3 := by rw [<- gxs_len, hn4]; exact ag3.2.1
 obtain ⟨W4, hW4⟩ : ∃ W4, W4 = w4.alloc (.cells #[.string ⟨#[49, 46, 51]⟩] 9) := ⟨_, rfl⟩
 have hB4 : Below w4.heap.size w4 W4 := by rw [hW4]; exact (Below.refl _ _).alloc (zR _) _
 have hr4 : Rd W4 encS (.slice (some ⟨w4.heap.size, 0, none⟩) 1 1) [p13] := by rw [hW4]; exact rdS (l := [p13]) rfl (by simp)
 have hc4 : Calls Tryz.prog 28 #[.slice a4 g4.length c4, .slice (some ⟨w4.heap.size, 0, none⟩) 1 1] W4 fun e w' => GrP W4 awG4 e w' := by
  have := grestr_any W4 (.slice a4 g4.length c4) (.slice (some ⟨w4.heap.size, 0, none⟩) 1 1) g4 [p13] (ho4.gl.q.below hB4) hr4 (by omega) (fun L hL => by have := litG_len HLT4.out L hL; omega) (fun l hl v hv => by have := litG_pb HLT4.out l hl v hv; omega) (by simp) (by intro p hp; simp [p13] at hp; subst hp; simp);rw [hn4] at this; exact this
 have HBW4 := Bx.mk ((HBW3.out.trans (hb4.mono HBW3.out.size)).trans (hB4.mono (Nat.le_trans HBW3.out.size hb4.size)));have HGL4 := Bx.mk (ho4.gl.below hB4);have HN4 := Bx.mk hn4;have HL4 := Bx.mk hl4;rw [hl4] at hc4 |-;clear hc3 hE ho4 hn4 hb4 hB4 hr4 hl4;go_wp2_with fail
 rw [<- hW4];clear hW4;go_at_call 28;refine hc4.mono ?_;intro e w5 hE;obtain ⟨a5, c5, g5, rfl, ho5, hn5, hb5⟩ := hE.ok ag4.1;have hlt5 : litG 1000 (gxs g5) = true := by rw [hn5]; exact ag4.2.1
 have hl5 : g5.length = 3 := by rw [<- gxs_len, hn5]; exact ag4.2.2
 have hc5 := gpol2_any w5 (.slice a5 g5.length c5) g5 ho5.gl.q (by omega) (fun L hL => by have := litG_len hlt5 L hL; omega);rw [hn5, ag5] at hc5;have HBW5 := Bx.mk (HBW4.out.trans (hb5.mono HBW4.out.size));have HGL5 := Bx.mk (HGL4.out.below hb5);rw [hl5] at hc5 |-;clear hc4 hE ho5 hn5 hb5 hlt5 hl5;go_wp2_with fail
 go_at_call 31;refine hc5.mono ?_;rintro e w6 ⟨v6, rfl, ho6, hb6⟩;obtain ⟨a6, c6, rfl, -⟩ := ho6.rd.form;have HGL6 := Bx.mk (HGL5.out.below hb6);have HBW6 := Bx.mk (HBW5.out.trans (hb6.mono HBW5.out.size));have HC6 := Bx.mk (strs_cells ho6.rd).2;have hl6 : ([p13] : List B).length = 1 := rfl;rw [hl6];obtain ⟨K, hK⟩ : ∃ K, K = g4[2]'(by rw [HL4.out]; omega) := ⟨_, rfl⟩
 have HK := Bx.mk hK;have hvs : vxs K.vs = awG3.1[2]! := by rw [hK, <- gxs_at g4 2 (by rw [HL4.out]; omega), HN4.out]
 have HKL := Bx.mk (show K.vs.length = 2 by rw [<- vxs_len, hvs]; exact ag3'.1);obtain ⟨b, o, he, hbl, hcl⟩ := (ls_cells HGL6.out.rd).2 w6 (fun _ _ _ => rfl) 2 (by rw [HL4.out]; omega);subst he;rw [<- hK] at hcl;have hvk := HGL6.out.lv K (by rw [hK]; exact zM _);obtain ⟨ka, kc, hks, -⟩ := hvk.rd.form;rw [hks, HKL.out] at hcl;rw [hks] at hvk;obtain ⟨b2, o2, he2, -, -, -, x2⟩ := hvk.at3 w6 (Below.refl _ _) 0 (by rw [HKL.out]; omega);subst he2;have hvx := hvk.at_ _ (zM (show 0 < K.vs.length by rw [HKL.out]; omega))
 have hp0 : (K.vs[0]'(by rw [HKL.out]; omega)).n.par.length = 2 := by
  have h1 := ag3'.2.1;rw [<- hvs, vxs_at K.vs 0 (by rw [HKL.out]; omega)] at h1;exact h1
 obtain ⟨pa, pc, hpq, -⟩ := RqIn.form hvx.2.1;rw [hpq, hp0] at x2;have x2' : w6.cell? ⟨b2, o2 + 2, none⟩ = some (.slice pa 2 pc) := by simpa using x2
 have hsz := gsize_any w6 (.slice (some ⟨b, o, none⟩) g4.length c4) g4 HGL6.out.q (by rw [HL4.out]; omega) (fun L hL => by have := litG_len HLT4.out L hL; omega);rw [HN4.out, ag3'.2.2.1, HL4.out] at hsz;have hvd := fun (W : World) (hW : Below w6.heap.size w6 W) => gvalid_q W (.slice (some ⟨b, o, none⟩) g4.length c4) g4 (HGL6.out.below hW).q (by rw [HL4.out]; omega) (fun L hL => by have := litG_len HLT4.out L hL; omega)
 rw [HN4.out, ag3'.2.2.2, HL4.out] at hvd;have HVD := Bx.mk hvd;clear hc5 ho6 hb6 hl6 hK hvs hbl hvk hks hvx hp0 hpq x2 hvd;go_wp2_with fail
 go_at_call 17;refine hsz.mono ?_;rintro e w7 ⟨rfl, hb7⟩;have HB7 := Bx.mk hb7;obtain ⟨b6, o6, he6, -, hx6⟩ := HC6.out w7 hb7 0 (by simp);subst he6;have hx6' : w7.cell? ⟨b6, o6, none⟩ = some (.string ⟨#[49, 46, 51]⟩) := hx6;have hvd := HVD.out w7 hb7;clear hsz hcl x2' hb7 hx6;go_wp2_with fail
 go_at_call 15;refine hvd.mono ?_;rintro e w8 ⟨rfl, hb8⟩;have HB8 := Bx.mk (HBW6.out.trans ((HB7.out.trans (hb8.mono HB7.out.size)).mono HBW6.out.size));clear hvd hx6' hb8;go_wp2_with fail
 go_ret;exact ⟨rfl, HB8.out⟩
theorem sameg_any (w : World) (v1 v2 : Value) (g1 g2 : List Lv) (h1 : GQ w v1 g1) (h2 : GQ w v2 g2) (he : gxs g1 = gxs g2) (hn : g1.length <= 100000) (hln : ∀ L ∈ g1, L.vs.length <= 100000) :
  Calls Tryz.prog 19 #[v1, v2] w fun e w' => e = .returned (.bool true) /\ Below w.heap.size w w' := by
 have hel : g1.length = g2.length := by rw [<- gxs_len g1, he, gxs_len]
 obtain ⟨a1, c1, rfl, -⟩ := h1.rd.form;obtain ⟨a2, c2, rfl, -⟩ := h2.rd.form;obtain ⟨N, hN⟩ : ∃ N, N = g1.length := ⟨_, rfl⟩
 have HN := Bx.mk hN;have HN2 := Bx.mk (hN.trans hel);rw [<- hel] at h2 |-;rw [<- hN] at h1 h2 hn |-;have HG1 := Bx.mk h1;have HG2 := Bx.mk h2;have HE := Bx.mk he;have HLN := Bx.mk hln;clear h1 h2 he hln hN hel;go_enter Tryz.func19, Tryz.ntmps19;go_wp2_with fail
 go_loopw [5] (fun iv wr => ∃ i : Nat, i <= N /\ iv = .int .i64 i /\ Bx (Below w.heap.size w wr)) (fun iv _ => N - (intOf iv).toNat)
 case atStart => exact ⟨0, by omega, rfl, ⟨Below.refl _ _⟩⟩
 case round =>
  obtain ⟨i, hi, rfl, hB⟩ := hrel;by_cases hlt : i < N
  ·have hk1 : i < g1.length := by rw [<- HN.out]; exact hlt
   have hk2 : i < g2.length := by rw [<- HN2.out]; exact hlt
   obtain ⟨b1, o1, rfl, -, -⟩ := HG1.out.at1 w (Below.refl _ _) i hk1;obtain ⟨b2, o2, rfl, -, -⟩ := HG2.out.at1 w (Below.refl _ _) i hk2;have l1 := fun (e : Ext wr) => HG1.out.at1' e.out (hB.out.trans (e.bel.mono hB.out.size)) i hk1
   have l2 := fun (e : Ext wr) => HG2.out.at1' e.out (hB.out.trans (e.bel.mono hB.out.size)) i hk2
   have HX := Bx.mk (HG1.out.lv _ (zM hk1));have HY := Bx.mk (HG2.out.lv _ (zM hk2));have hxl := HLN.out _ (zM hk1);have HXY := Bx.mk (show vxs (g1[i]'hk1).vs = vxs (g2[i]'hk2).vs by rw [<- gxs_at g1 i hk1, <- gxs_at g2 i hk2, HE.out]);obtain ⟨X, hX⟩ : ∃ L, L = g1[i]'hk1 := ⟨_, rfl⟩
   obtain ⟨Y, hY⟩ : ∃ L, L = g2[i]'hk2 := ⟨_, rfl⟩
   rw [<- hX] at l1 HX HXY hxl;rw [<- hY] at l2 HY HXY;obtain ⟨xa, xc, hxs, -⟩ := HX.out.rd.form;obtain ⟨ya, yc, hys, -⟩ := HY.out.rd.form;rw [hxs] at l1 HX;rw [hys] at l2 HY;obtain ⟨M, hM⟩ : ∃ n, n = X.vs.length := ⟨_, rfl⟩
   have hM2 : M = Y.vs.length := by rw [hM, <- vxs_len X.vs, HXY.out, vxs_len]
   have HM := Bx.mk hM;have HM2 := Bx.mk hM2;rw [<- hM] at l1 HX hxl;rw [<- hM2] at l2 HY;clear hX hY hxs hys hM hM2 hk1 hk2;go_upto_region 6 with fail
   refine wp_region_self (by kernel_rfl) (by kernel_rfl) ?_
   repeat (go_big_quiet_step (fail))
   refine wpQuiet_nil ?_;rintro _ ⟨e1, rfl⟩;have HB1 := Bx.mk (hB.out.trans (e1.bel.mono hB.out.size));obtain ⟨w1, hw1⟩ : ∃ w1, w1 = e1.out := ⟨_, rfl⟩
   rw [<- hw1] at HB1 |-;clear l1 l2 hw1 hB;go_wp2_with fail
   go_loopw [8] (fun kv wr => ∃ k : Nat, k <= M /\ kv = .int .i64 k /\ Bx (Below w.heap.size w wr)) (fun kv _ => M - (intOf kv).toNat)
   case atStart => exact ⟨0, by omega, rfl, HB1⟩
   case round =>
    clear HB1;obtain ⟨k, hk, rfl, hB⟩ := hrel;by_cases hltk : k < M
    ·have hk1 : k < X.vs.length := by rw [<- HM.out]; exact hltk
     have hk2 : k < Y.vs.length := (by rw [<- HM2.out]; exact hltk);obtain ⟨xb, xo, rfl, -, -⟩ := HX.out.at3 w (Below.refl _ _) k hk1;obtain ⟨yb, yo, rfl, -, -⟩ := HY.out.at3 w (Below.refl _ _) k hk2;have HCX := Bx.mk (fun (W : World) (hW : Below w.heap.size w W) => HX.out.at3' W hW k hk1);have HCY := Bx.mk (fun (W : World) (hW : Below w.heap.size w W) => HY.out.at3' W hW k hk2);have HAX := Bx.mk (HX.out.at_ _ (zM hk1));have HAY := Bx.mk (HY.out.at_ _ (zM hk2));have HEE := Bx.mk (show (X.vs[k]'hk1).n = (Y.vs[k]'hk2).n by rw [<- vxs_at X.vs k hk1, <- vxs_at Y.vs k hk2, HXY.out]);obtain ⟨x, hx⟩ : ∃ x, x = X.vs[k]'hk1 := ⟨_, rfl⟩
     obtain ⟨y, hy⟩ : ∃ y, y = Y.vs[k]'hk2 := ⟨_, rfl⟩
     rw [<- hx] at HCX HAX HEE;rw [<- hy] at HCY HAY HEE;obtain ⟨pa, pc, hpq, -⟩ := RqIn.form HAX.out.2.1;obtain ⟨ua, uc, hup, -⟩ := HAX.out.1.form;obtain ⟨qa, qc, hqq, -⟩ := RqIn.form HAY.out.2.1;obtain ⟨va, vc, hvp, -⟩ := HAY.out.1.form;rw [<- HEE.out] at hqq hvp HCY;obtain ⟨PN, hPN⟩ : ∃ n, n = x.n.par.length := ⟨_, rfl⟩
     obtain ⟨UN, hUN⟩ : ∃ n, n = x.n.ex.length := ⟨_, rfl⟩
     have HPN := Bx.mk hPN;rw [hup, hpq, <- hPN, <- hUN] at HCX;rw [hvp, hqq, <- hPN, <- hUN] at HCY;have HPR := Bx.mk (show Ri w (.slice pa PN pc) x.n.par by rw [hPN, <- hpq]; exact HAX.out.2.1)
     have HQR := Bx.mk (show Ri w (.slice qa PN qc) x.n.par by
      have := HAY.out.2.1
      rw [hqq, <- HEE.out, <- hPN] at this; exact this)
     have HUR := Bx.mk (show Rq w (.slice ua UN uc) x.n.ex by rw [hUN, <- hup]; exact HAX.out.1)
     have HVR := Bx.mk (show Rq w (.slice va UN vc) x.n.ex by
      have := HAY.out.1
      rw [hvp, <- HEE.out, <- hUN] at this; exact this)
     have hPNb : PN <= 100000 := (by rw [hPN]; exact HAX.out.2.2.2.2);have HUF := Bx.mk (show x.n.ex.length <= 100000 by have := HAX.out.2.2.1.1; omega);have HEP := Bx.mk (show ((bstr x.n.pol).toList == (bstr x.n.pol).toList) = true by simp);have hext := fun (e : Ext wr) => hB.out.trans (e.bel.mono hB.out.size)
     have x0 := fun (e : Ext wr) => (HCX.out e.out (hext e)).1
     have x1 := fun (e : Ext wr) => (HCX.out e.out (hext e)).2.1
     have x2 := fun (e : Ext wr) => (HCX.out e.out (hext e)).2.2
     have y0 := fun (e : Ext wr) => (HCY.out e.out (hext e)).1
     have y1 := fun (e : Ext wr) => (HCY.out e.out (hext e)).2.1
     have y2 := fun (e : Ext wr) => (HCY.out e.out (hext e)).2.2
     have hsm := fun (e : Ext wr) => rsame_q e.out (.slice ua UN uc) (.slice va UN vc) x.n.ex x.n.ex (HUR.out.below (hext e)) (HVR.out.below (hext e)) (by have := HUF.out; omega)
     simp only [decide_true] at hsm
     obtain ⟨S, hS⟩ : ∃ S, S = bstr x.n.pol := ⟨_, rfl⟩
     rw [<- hS] at x0 y0 HEP;have l3 := HEP.out;clear hx hy hpq hup hqq hvp hPN hUN hS hext hk1 hk2;go_upto_region 12 with fail
     refine wp_region_self (by kernel_rfl) (by kernel_rfl) ?_
     repeat (go_big_quiet_step (first | (go_at_call 30; exact ext_of (hsm _))))
     refine wpQuiet_nil ?_;rintro _ ⟨e1, rfl⟩;have HB1 := Bx.mk (hB.out.trans (e1.bel.mono hB.out.size));obtain ⟨w1, hw1⟩ : ∃ w1, w1 = e1.out := ⟨_, rfl⟩
     rw [<- hw1] at HB1 |-;clear x0 x1 x2 y0 y1 y2 hsm l3 hw1 hB;go_wp2_with fail
     go_loopw [9] (fun nv wr => ∃ n : Nat, n <= PN /\ nv = .int .i64 n /\ Bx (Below w.heap.size w wr)) (fun nv _ => PN - (intOf nv).toNat)
     case atStart => exact ⟨0, by omega, rfl, HB1⟩
     case round =>
      clear HB1;obtain ⟨n, hn2, rfl, hB⟩ := hrel;have hext := fun (e : Ext wr) => hB.out.trans (e.bel.mono hB.out.size)
      have c2 := (HCX.out wr hB.out).2.2;by_cases hltn : n < PN
      ·have hnl : n < x.n.par.length := by rw [<- HPN.out]; exact hltn
       obtain ⟨pb, po, rfl, -, -⟩ := HPR.out.cells w (Below.refl _ _) n hnl;obtain ⟨qb, qo, rfl, -, -⟩ := HQR.out.cells w (Below.refl _ _) n hnl;have x2 := fun (e : Ext wr) => (HCX.out e.out (hext e)).2.2
       have y2 := fun (e : Ext wr) => (HCY.out e.out (hext e)).2.2
       have d1 := fun (e : Ext wr) => HPR.out.at' e.out (hext e) n hnl
       have d2 := fun (e : Ext wr) => HQR.out.at' e.out (hext e) n hnl
       obtain ⟨D, hD⟩ : ∃ D, D = x.n.par[n]'hnl := ⟨_, rfl⟩
       rw [<- hD] at d1 d2;clear hD hnl hext;go_upto_region 17 with fail
       refine wp_region_self (by kernel_rfl) (by kernel_rfl) ?_
       repeat (go_big_quiet_step (fail))
       refine wpQuiet_nil ?_;rintro _ ⟨e1, rfl⟩;have HB1 := Bx.mk (hB.out.trans (e1.bel.mono hB.out.size));obtain ⟨w1, hw1⟩ : ∃ w1, w1 = e1.out := ⟨_, rfl⟩
       rw [<- hw1] at HB1 |-;clear x2 y2 d1 d2 c2 hw1 hB;go_wp2_with fail
       go_roundw
       case rel => exact ⟨n + 1, by omega, by go_num, HB1⟩
       case measure => simp [intOf]; omega
      ·go_wp2_with fail
       go_roundw
       case rel => exact ⟨k + 1, by omega, by go_num, hB⟩
       case measure => simp [intOf]; omega
    ·go_wp2_with fail
     go_roundw
     case rel => exact ⟨i + 1, by omega, by go_num, hB⟩
     case measure => simp [intOf]; omega
  ·go_wp2_with fail
   go_ret;exact ⟨rfl, hB.out⟩
theorem polL_len {G : List (List Vx)} {n b : Nat} (h : LB G n b) : ∀ k, (polL G k).length <= k * b
 | 0 => by simp [polL]
 | k + 1 => by
  have ih := polL_len h k;unfold polL at *;rw [List.range_succ, List.flatMap_append, List.length_append, Nat.succ_mul]
  have h2 : (if k = 0 then [] else ((G[k]!).filter (polV G k)).map (·.pol)).length <= b := by
   split
   ·simp
   ·rw [List.length_map]; exact Nat.le_trans (List.length_filter_le _ _) (h.at_ k)
  simp only [List.flatMap_cons, List.flatMap_nil, List.append_nil]
  omega
theorem gpol_len {G : List (List Vx)} {n b : Nat} (h : LB G n b) (hb : n * b <= 1000000) : (gpolP G).length <= 1000000 := by
 unfold gpolP;split
 ·refine Nat.le_trans (setB_length _) (Nat.le_trans (polL_len h G.length) (Nat.le_trans (Nat.mul_le_mul_right b h.len) hb))
 ·simp
end Go.Proofs.YtmagjdocondmhaaGreat.Tr.Gr
namespace Go.Proofs.YtmagjdocondmhaaGreat.Tr
open Go Go.ChangeShapes Go.WideShapes Go.RowKit Go.Deep Slc Mp
theorem okw_slice {P : Program} {W : World} {r : Reach} {b0 len cap : Nat} {t e : TypeId} {a : Addr} (ht : P.underlying t = some (.slice e)) (h : Value.okWide P W r b0 t (.slice (some a) len cap)) : a.spot = none /\ a.block < W.heap.size := by
 simp only [Value.okWide, ht, Cell.okWide, Cell.ok, World.has] at h
 obtain ⟨-, -, -, hs, row, cells, hsh, -⟩ := h;refine ⟨hs, ?_⟩;rcases Nat.lt_or_ge a.block W.heap.size with q | q
 ·exact q
 ·simp [World.shape?, Array.getElem?_eq_none q] at hsh
theorem cell_lt {w : World} {a : Addr} {v : Value} (h : w.cell? a = some v) : a.block < w.heap.size := by
 rcases Nat.lt_or_ge a.block w.heap.size with h' | h'
 ·exact h'
 ·simp [World.cell?, Array.getElem?_eq_none h'] at h
theorem flat_strs (l : List ByteArray) : (l.map fun s => s.data.toList).flatMap encS = l.map .string := by
 induction l with
 | nil => rfl
 | cons x l ih => rw [List.map_cons, List.flatMap_cons, ih, encS, bstr_back]; rfl
theorem flat_ix {α : Type} {enc : α -> List Value} {z : Nat} (E : Enc z enc) : ∀ (l : List α) (j : Nat) (u : Value), (l.flatMap enc)[j]? = some u -> ∃ k, ∃ hk : k < l.length, ∃ i, i < z /\ j = k * z + i /\ (enc (l[k]))[i]? = some u
 | [], j, u, h => by simp at h
 | x :: l, j, u, h => by
  rw [List.flatMap_cons] at h;rcases Nat.lt_or_ge j z with q | q
  ·rw [List.getElem?_append_left (by rw [E.len]; exact q)] at h;exact ⟨0, by simp, j, q, by simp, h⟩
  ·rw [List.getElem?_append_right (by rw [E.len]; exact q), E.len] at h;obtain ⟨k, hk, i, hi, he, hu⟩ := flat_ix E l (j - z) u h;exact ⟨k + 1, by simp; omega, i, hi, by rw [Nat.add_mul]; omega, by simpa using hu⟩
theorem cells_str1 : Tryz.prog.cellsOf 9 = 1 := by kernel_rfl
theorem bytes_str1 : Tryz.prog.bytesOf 9 = 16 := by kernel_rfl
theorem cells_mapg : Tryz.prog.cellsOf 49 = 2 := by kernel_rfl
theorem reach_val : reachBytes = 140737488351232 := by decide
theorem strs_trod {H : Type} {enc : TypeId × Value -> H} {W : World} {fuel : Nat} {cs : List Value} {x : DataW H × List MemPlace}
  (h : DataW.trod enc Tryz.prog W 0 (fun _ => true) true fuel 34 cs = some x) :
  ∃ (u : Sl) (l : List B), cs = [u.val] /\ Rq W u.val l /\ (u.ad = none -> u.c = 0) /\ l.length <= 9223372036854775807 /\ (∀ b ∈ l, b.length <= 9223372036854775807) /\
   ((∀ n ∈ x.1.weights Tryz.prog 34, n <= reachBytes) -> l.length * 16 <= 140737488351232) := by
 rcases open_strings Tryz.underlying34 Tryz.underlying9 cells_str1 h with ⟨rfl, rfl⟩ | ⟨a, len, cap, ss, rfl, _, hl, hm, hz, rfl, hcell, hsz⟩
 ·exact ⟨⟨none, 0, 0⟩, [], rfl, .inr (.inl ⟨rfl, rfl⟩), fun _ => rfl, by simp, by simp, by simp⟩
 ·simp only [if_true] at hz
  have hML : maxLen = 9223372036854775807 := rfl;obtain ⟨bk, o, spot⟩ := a;have hlen : (ss.take len).length = len := by simp; omega
  have hW : ((∀ n ∈ (DataW.slice (strs (H := H) (ss.take len)) (strs (ss.drop len))).weights Tryz.prog 34, n <= reachBytes) -> len * 16 <= 140737488351232) := by
   intro hn;have := hn _ (by rw [DataW.weights, Tryz.underlying34]; exact List.mem_cons_self);rw [bytes_str1, reach_val] at this;have e1 : (strs (H := H) (ss.take len)).length = len := by rw [strs, List.length_map, hlen]
   omega
  rcases Nat.eq_zero_or_pos len with h0 | h0
  ·subst h0;exact ⟨⟨some ⟨bk, o, spot⟩, 0, cap⟩, [], rfl, .inl ⟨rfl, _, _, rfl⟩, (fun q => by cases q), by simp, by simp, by simp⟩
  ·have hspot : spot = none := by simpa [Addr.add] using World.cell?_spot (hcell 0 (by omega))
   subst hspot;have hb : bk < W.heap.size := cell_lt (hcell 0 (by omega))
   have hc : ∀ (j : Nat) y, (ss.take len)[j]? = some y -> W.cell? ⟨bk, o + j, none⟩ = some (.string y) := by
    intro j y hj
    have hjl : j < len := by
     have := (List.getElem?_eq_some_iff.1 hj).1;omega
    have hy : ss.getD j ByteArray.empty = y := by
     rw [List.getElem?_take_of_lt hjl] at hj;simp [List.getD, hj]
    have := hcell j (by omega);rw [hy] at this;rw [<- this];congr 1
    unfold Addr.add; split
    ·simp [*]
    ·rfl
   refine ⟨⟨some ⟨bk, o, none⟩, len, cap⟩, (ss.take len).map fun s => s.data.toList, rfl, .inr (.inr ⟨bk, o, cap, by rw [List.length_map, hlen]; rfl, hb, by rw [List.length_map, hlen]; exact hl, fun j u hj => ?_⟩), (fun q => by cases q), ?_, fun x hx => ?_, ?_⟩
   ·rw [flat_strs, List.getElem?_map] at hj
    cases hy : (ss.take len)[j]? with
    | none => rw [hy] at hj; cases hj
    | some y =>
     rw [hy] at hj;simp only [Option.map_some, zO] at hj
     subst hj;exact hc j y hy
   ·rw [List.length_map, hlen];omega
   ·rw [List.mem_map] at hx;obtain ⟨s, hs, rfl⟩ := hx;have h1 := hsz s (List.mem_of_mem_take hs);have h2 : s.data.toList.length = s.size := (by rw [Array.length_toList]; rfl);omega
   ·rw [List.length_map, hlen]; exact hW
theorem strs_open {H : Type} {enc : TypeId × Value -> H} {W : World} {b0 : Nat} {r : Reach} {v : Value} {d : DataW H} {p : List MemPlace}
  (hv : Value.okWide Tryz.prog W r b0 34 v) (h : DataW.Trod enc Tryz.prog W 0 (fun _ => true) true 34 v d p) :
  ∃ l : List B, Rd W encS v l /\ l.length <= 9223372036854775807 /\ ∀ x ∈ l, x.length <= 9223372036854775807 := by
 obtain ⟨a0, len, cap, rfl⟩ := okWide_slice Tryz.underlying34 hv;obtain ⟨fuel, hf⟩ := h;obtain ⟨⟨ua, un, uc⟩, l, hcs, hq, hn, hl, hb, -⟩ := strs_trod hf;simp [Value.cells, Sl.val] at hcs
 obtain ⟨rfl, rfl, rfl⟩ := hcs;refine ⟨l, ?_, hl, hb⟩;rcases hq with ⟨rfl, a, c, he⟩ | hq
 ·simp only [Sl.val, Value.slice.injEq] at he
  obtain ⟨rfl, rfl, rfl⟩ := he
  cases a0 with
  | none => exact .inl ⟨by rw [show cap = 0 from hn rfl], rfl⟩
  | some a =>
   obtain ⟨hsp, hlt⟩ := okw_slice Tryz.underlying34 hv;obtain ⟨bk, o, spot⟩ := a;simp only at hsp hlt
   subst hsp;exact .inr ⟨bk, o, cap, rfl, hlt, Nat.zero_le _, fun j u hj => by simp at hj⟩
 ·exact hq
theorem map_trod {H : Type} {enc : TypeId × Value -> H} {W : World} {fuel : Nat} {cs : List Value} {x : DataW H × List MemPlace}
  (h : DataW.trod enc Tryz.prog W 0 (fun _ => true) true fuel 49 cs = some x) :
  ∃ t : B × B, cs = encP t /\ t.1.length <= 9223372036854775807 /\ t.2.length <= 9223372036854775807 := by
 obtain ⟨ys, n, rfl, rfl, hlen, hyl, hf⟩ := DataW.trod_struct Tryz.underlying49 h;rw [cells_mapg] at hlen
 match cs, hlen with
 | [c0, c1], _ =>
  match ys, hyl with
  | [y0, y1], _ =>
   have f0 : DataW.trod enc Tryz.prog W 0 (fun _ => true) true n 9 (List.take (Tryz.prog.cellsOf 9) [c0, c1]) = some y0 := hf 0 _ rfl;have f1 : DataW.trod enc Tryz.prog W 0 (fun _ => true) true n 9 (List.take (Tryz.prog.cellsOf 9) [c1]) = some y1 := hf 1 _ rfl;simp only [show Tryz.prog.cellsOf 9 = 1 from by kernel_rfl, List.take] at f0 f1
   obtain ⟨s0, e0, -, w0⟩ := DataW.trod_string Tryz.underlying9 f0;obtain ⟨s1, e1, -, w1⟩ := DataW.trod_string Tryz.underlying9 f1;simp only [List.cons.injEq, and_true] at e0 e1
   subst e0 e1;have hML : maxLen = 9223372036854775807 := rfl;refine ⟨(s0.data.toList, s1.data.toList), ?_, ?_, ?_⟩
   ·show _ = [Value.string (bstr s0.data.toList), .string (bstr s1.data.toList)]
    rw [bstr_back, bstr_back]
   ·have h2 : s0.data.toList.length = s0.size := by rw [Array.length_toList]; rfl
    show s0.data.toList.length <= _
    omega
   ·have h2 : s1.data.toList.length = s1.size := by rw [Array.length_toList]; rfl
    show s1.data.toList.length <= _
    omega
theorem maps_open {H : Type} {enc : TypeId × Value -> H} {W : World} {b0 : Nat} {r : Reach} {v : Value} {d : DataW H} {p : List MemPlace}
  (hv : Value.okWide Tryz.prog W r b0 40 v) (h : DataW.Trod enc Tryz.prog W 0 (fun _ => true) true 40 v d p) :
  ∃ l : List (B × B), Rd W encP v l /\ (∀ x ∈ l, x.1.length <= 9223372036854775807 /\ x.2.length <= 9223372036854775807) /\ l.length <= 9223372036854775807 := by
 obtain ⟨a0, len, cap, rfl⟩ := okWide_slice Tryz.underlying40 hv;obtain ⟨fuel, hf⟩ := h;rcases open_slice Tryz.underlying40 hf with ⟨hcs, hx⟩ | ⟨a, len', cap', m, n, D, Pl, hcs, _, hl, hm, hmm, hx, hi⟩
 ·simp [Value.cells] at hcs
  obtain ⟨rfl, rfl, rfl⟩ := hcs;exact ⟨[], Rd.nil W, (fun c hc => by cases hc), by simp⟩
 ·simp [Value.cells] at hcs
  obtain ⟨rfl, rfl, rfl⟩ := hcs;simp only [if_true] at hmm
  subst hmm
  have hC : ∀ i : Fin len, ∃ c : B × B, (c.1.length <= 9223372036854775807 /\ c.2.length <= 9223372036854775807) /\ W.cells? 0 (a.add (i.1 * 2)) 2 = some (encP c) := by
   intro i;obtain ⟨cs', hc, ht⟩ := hi i.1 (by omega);rw [cells_mapg] at hc;obtain ⟨c, rfl, hin⟩ := map_trod ht;exact ⟨c, hin, hc⟩
  obtain ⟨g, hg⟩ := Classical.axiomOfChoice hC;obtain ⟨bk, o, spot⟩ := a;obtain ⟨hsp, hb⟩ := okw_slice Tryz.underlying40 hv;simp only at hsp hb
  subst hsp
  have key : ∀ k (hk : k < len), ∀ j u, (encP (g ⟨k, hk⟩))[j]? = some u -> W.cell? ⟨bk, o + (k * 2 + j), none⟩ = some u := by
   intro k hk j u hj;have hs := (hg ⟨k, hk⟩).2;obtain ⟨_, _, hcell⟩ := World.cells?_some hs;have hj8 : j < 2 := by have := (List.getElem?_eq_some_iff.1 hj).1; simpa [encP] using this
   have h0 := (hcell j hj8).trans hj;rw [add_at, add_at, Nat.add_assoc] at h0;exact h0
  ·refine ⟨List.ofFn g, .inr ⟨bk, o, m, by rw [List.length_ofFn], hb, by simp; omega, fun j u hj => ?_⟩, fun c hc => ?_, ?_⟩
   ·obtain ⟨k, hk, i, hi2, he, hj2⟩ := flat_ix encP_ok (List.ofFn g) j u hj;have hkl : k < len := (by simpa using hk);simp only [List.getElem_ofFn] at hj2
    rw [he];exact key k hkl i u hj2
   ·rw [List.mem_ofFn] at hc;obtain ⟨i, rfl⟩ := hc;exact (hg i).1
   ·simp only [List.length_ofFn]
    have : maxLen = 9223372036854775807 := (by rfl);omega
end Go.Proofs.YtmagjdocondmhaaGreat.Tr
namespace Go.Proofs.YtmagjdocondmhaaGreat.Tr
open Go Go.RowKit Slc St Mp
attribute [local go_sem] Oper.semAt_some
def shortL (l : List B) : Bool := l.all fun b => decide (b.length <= 100)
def fewB (l : List B) (n m : Nat) : Bool := decide (l.length <= n) && l.all fun b => decide (b.length <= m)
theorem few_any (w : World) (v : Value) (l : List B) (n m : Nat) (h : Rd w encS v l) (hl : l.length <= 9223372036854775807) (hx : ∀ b ∈ l, b.length <= 9223372036854775807) (hn : n <= 1000000) (hm : m <= 1000000) :
  Calls Tryz.prog 33 #[v, .int .i64 n, .int .i64 m] w fun e w' => e = .returned (.bool (fewB l n m)) /\ w = w' := by
 obtain ⟨ad, c, rfl, -⟩ := h.form;have HC := Bx.mk ((strs_cells h).2 w (Below.refl _ _));have HX := Bx.mk hx;obtain ⟨R, hR⟩ : ∃ R, R = fewB l n m := ⟨_, rfl⟩
 rw [<- hR];have HR := Bx.mk hR;obtain ⟨N, hN⟩ : ∃ N, N = l.length := ⟨_, rfl⟩
 have HN := Bx.mk hN;rw [<- hN] at hl |-;clear hR hN h hx;by_cases hq : N <= n
 ·have t1 : decide ((N : Int) > (n : Int)) = false := by rw [decide_eq_false_iff_not]; omega
  have t2 : decide (n < N) = false := by rw [decide_eq_false_iff_not]; omega
  have HR2 := Bx.mk (show R = l.all fun b => decide (b.length <= m) by rw [HR.out]; unfold fewB; rw [<- HN.out, zT hq, Bool.true_and]);go_enter Tryz.func33, Tryz.ntmps33;go_wp2_with fail
  go_loop [8, 15] (fun _ i => ∃ k : Nat, k <= N /\ i = .int .i64 (k : Int) /\ Bx (((l.take k).all fun b => decide (b.length <= m)) = true)) (fun _ i => N - (intOf i).toNat)
  case atStart => exact ⟨0, Nat.zero_le _, rfl, ⟨rfl⟩⟩
  case round =>
   obtain ⟨k, hk, rfl, hok⟩ := hrel;by_cases hlt : k < N
   ·have hkl : k < l.length := by rw [<- HN.out]; exact hlt
    obtain ⟨b2, o2, rfl, -, d0⟩ := HC.out k hkl;have HTM := Bx.mk (zA hkl);have HME := Bx.mk (zM hkl);obtain ⟨y, hy⟩ : ∃ y, y = l[k] := ⟨_, rfl⟩
    rw [<- hy] at d0 HTM HME;have hys : (bstr y).size = y.length := bstr_size _;have hyl := HX.out y HME.out;obtain ⟨Y, hY⟩ : ∃ Y, Y = y.length := ⟨_, rfl⟩
    have HY := Bx.mk hY;rw [<- hY] at hys hyl;generalize bstr y = YS at *;clear hy hkl hY;by_cases hq2 : Y <= m
    ·have t3 : decide ((Y : Int) > (m : Int)) = false := by rw [decide_eq_false_iff_not]; omega
     have t4 : decide (m < Y) = false := by rw [decide_eq_false_iff_not]; omega
     have HN2 := Bx.mk (show ((l.take (k + 1)).all fun b => decide (b.length <= m)) = true by
      rw [HTM.out, List.all_append, hok.out]; simp [<- HY.out, hq2])
     go_wp2_with fail
     go_round
     case rel => exact ⟨k + 1, by omega, by go_num, HN2⟩
     case measure => simp [intOf]; omega
    ·have t3 : decide ((Y : Int) > (m : Int)) = true := by rw [decide_eq_true_eq]; omega
     have t4 : decide (m < Y) = true := by rw [decide_eq_true_eq]; omega
     have HF := Bx.mk (show R = false by
      rw [HR2.out, List.all_eq_false]
      exact ⟨y, HME.out, by simp [<- HY.out, hq2]⟩)
     go_wp2_with fail
     go_ret;exact ⟨by rw [HF.out]; rfl, rfl⟩
   ·obtain rfl : k = N := by omega
    have HF := Bx.mk (show R = true by rw [HR2.out]; have := hok.out; rw [HN.out, List.take_length] at this; exact this);go_wp2_with fail
    go_ret;exact ⟨by rw [HF.out]; rfl, rfl⟩
 ·have t1 : decide ((N : Int) > (n : Int)) = true := by rw [decide_eq_true_eq]; omega
  have t2 : decide (n < N) = true := by rw [decide_eq_true_eq]; omega
  have HR2 := Bx.mk (show R = false by rw [HR.out]; unfold fewB; rw [<- HN.out, zF hq, Bool.false_and]);go_enter Tryz.func33, Tryz.ntmps33;go_wp2_with fail
  go_ret;exact ⟨by rw [HR2.out]; rfl, rfl⟩
end Go.Proofs.YtmagjdocondmhaaGreat.Tr
