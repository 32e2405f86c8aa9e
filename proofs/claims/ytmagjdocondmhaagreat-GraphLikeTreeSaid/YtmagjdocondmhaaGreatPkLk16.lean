/- packed -/
import Derived.Test.YtmagjdocondmhaaGreatPkLk15
set_option linter.unusedVariables false
set_option linter.unusedSimpArgs false
set_option maxRecDepth 100000
set_option maxHeartbeats 64000000
namespace Go.Proofs.YtmagjdocondmhaaGreat.Tr.Gr
open Go Go.RowKit Slc St Mp Tr Rg
attribute [local go_sem] Oper.semAt_some
theorem pd_ni {w : World} {B : Nat} {g : List Lv} (h : PD w B (g.flatMap (·.vs))) : NI B g := fun L hL x hx k hk => ((h.own x (List.mem_flatMap.2 ⟨L, hL, hx⟩)).lt k hk).1
def GrI (w : World) (R : List (List Vx) × Int) (e : Ending) (w' : World) : Prop := ∃ v' g', e = .returned (.tuple #[v', .int .i64 R.2]) /\ GO w' w.heap.size v' g' /\ gxs g' = R.1 /\ Below w.heap.size w w' /\ NI w.heap.size g'
theorem GrI.p {w w' : World} {R : List (List Vx) × Int} {e : Ending} (h : GrI w R e w') : GrP w R e w' := by
 obtain ⟨v', g', a1, a2, a3, a4, -⟩ := h;exact ⟨v', g', a1, a2, a3, a4⟩
theorem genter_nj (w : World) (v pv : Value) (g : List Lv) (ps : List B) (h : GQ w v g) (hp : Rd w encS pv ps) (hn : g.length <= 90000) (hln : ∀ L ∈ g, L.vs.length <= 100000) (hex : ∀ L ∈ g, (allJ (vxs L.vs) L.vs.length).length + ps.length <= 100000) (hpl : ps.length <= 100000) (hpx : ∀ p ∈ ps, p.length <= 1000000) (cnt : Bool) :
  Calls Tryz.prog 23 #[v, pv, .bool cnt] w fun e w' => GrI w (genterP (gxs g) ps cnt) e w' := by
 obtain ⟨ib, hib, hib0, hib1, hib2⟩ := info_parts info_int;obtain ⟨il, hil, hil0, hil1, hil2⟩ := info_parts info_lev;have hval := gvalid_q w v g h (by omega) hln;obtain ⟨R, hR⟩ : ∃ R, R = genterP (gxs g) ps cnt := ⟨_, rfl⟩
 rw [<- hR];unfold genterP at hR;obtain ⟨ad, c, rfl, -⟩ := h.rd.form;obtain ⟨pa, pc, rfl, -⟩ := hp.form;have HQ := Bx.mk h;have HP := Bx.mk hp;have HLN := Bx.mk hln;have HEX := Bx.mk hex;have HPX := Bx.mk hpx;obtain ⟨N, hN⟩ : ∃ N, N = g.length := ⟨_, rfl⟩
 have HN := Bx.mk hN;obtain ⟨PN, hPN⟩ : ∃ N, N = ps.length := ⟨_, rfl⟩
 have HPN := Bx.mk hPN;obtain ⟨V, hV⟩ : ∃ V, V = gvalidB (gxs g) := ⟨_, rfl⟩
 rw [<- hV] at hval hR;have HV := Bx.mk hV;rw [gxs_len, <- hN] at hR;have HRR := Bx.mk hR;rw [<- hN] at hn hval |-;rw [<- hPN] at hpl |-;clear h hp hln hex hpx hN hPN hV hR;unfold GrI;go_enter Tryz.func23, Tryz.ntmps23;go_wp2_with fail
 go_at_call 15;refine hval.mono ?_;rintro e w1 ⟨rfl, hb1⟩;clear hval
 cases V with
 | false =>
  have HF := Bx.mk (show R = ([], 7) by rw [HRR.out]; rfl);go_wp2_with fail
  go_ret2
  exact ⟨_, [], by rw [HF.out]; rfl, GO.nil _ _, by rw [HF.out]; rfl, hb1, NI.nil _⟩
 | true =>
 have HGL := Bx.mk (HQ.out.gl HV.out.symm HLN.out);rcases Nat.eq_zero_or_pos N with e | hN1
 ·have HF := Bx.mk (show R = ([], 0) by rw [HRR.out, if_pos rfl, if_pos e]);have t5 : ((N : Int) == 0) = true := by simp; omega
  have e' : (N : Int) = 0 := by omega
  go_wp2_with fail
  go_ret2;exact ⟨_, [], by rw [HF.out]; rfl, GO.nil _ _, by rw [HF.out]; rfl, hb1, NI.nil _⟩
 ·have t5 : ((N : Int) == 0) = false := by simp; omega
  have HB1 := Bx.mk hb1;have hN1l : N - 1 < g.length := by rw [<- HN.out]; omega
  obtain ⟨b, o, rfl, hbl, hcl⟩ := ls_cells HGL.out.rd |>.2 w1 (fun k hk _ => hb1.block k hk) (N - 1) hN1l
  have HRF := Bx.mk (show R = (pruneG (gxs g ++ [levP (vxs (g[N - 1]).vs) ps cnt]), 0) by
   rw [HRR.out, if_pos rfl, if_neg (by omega), gxs_at g (N - 1) hN1l])
  have HVL := Bx.mk (HGL.out.lv _ (zM hN1l));have HLL := Bx.mk (HLN.out _ (zM hN1l));have HEL := Bx.mk (HEX.out _ (zM hN1l));have HPR := Bx.mk (show gvalidB (gxs g) = true from HV.out.symm);have HLG0 := Bx.mk (show g[N - 1] ∈ g /\ (gxs g)[N - 1]! = vxs (g[N - 1]).vs from ⟨zM hN1l, gxs_at g (N - 1) hN1l⟩);obtain ⟨L, hL⟩ : ∃ L, L = g[N - 1]'hN1l := ⟨_, rfl⟩
  have HLG : Bx (L ∈ g /\ (gxs g)[N - 1]! = vxs L.vs) := ⟨by rw [hL]; exact HLG0.out⟩;clear HLG0;rw [<- hL] at hcl HRF HVL HLL HEL;have hidx : ((N : Int) - 1).toNat = N - 1 := by omega
  have hcl' : w1.cell? ⟨b, o + ((N : Int) - 1).toNat, none⟩ = some L.s.val := by rw [hidx]; exact hcl
  obtain ⟨la, lc, hls, -⟩ := HVL.out.rd.form;have HLS := Bx.mk hls;obtain ⟨M, hM⟩ : ∃ M, M = L.vs.length := ⟨_, rfl⟩
  have HM := Bx.mk hM;rw [hls, <- hM] at hcl hcl';rw [hls] at HVL;rw [<- hM] at HLL;have hMM := HLL.out;clear hN1l hL hM hls hb1;go_upto_region 5 with fail
  obtain ⟨W2, hW2⟩ : ∃ W2, W2 = w1.alloc (.cells #[.slice la M lc] 63) := ⟨_, rfl⟩
  obtain ⟨q8, hq8⟩ : ∃ q, q = w1.heap.size := ⟨_, rfl⟩
  go_upto_region 6 with fail
  rw [<- hW2, <- hq8];clear hcl hcl' hidx t5;have HR8 := Bx.mk (show W2.heap[q8]? = some (.cells #[.slice la M lc] 63 (0, 0)) by rw [hW2, hq8]; exact heap_alloc_new _ _);have HB2 := Bx.mk (show Below w.heap.size w W2 by rw [hW2]; exact HB1.out.alloc HB1.out.size _);have HZ2 := Bx.mk (show W2.heap.size = q8 + 1 by rw [hW2, hq8]; simp);clear hW2 hq8;have hmm := @run_makeMap Tryz.prog;obtain ⟨W3, hW3⟩ : ∃ W3, W3 = W2.alloc (.map #[] 0) := ⟨_, rfl⟩
  obtain ⟨be, hbe⟩ : ∃ be, be = W2.heap.size := ⟨_, rfl⟩
  have HBE := Bx.mk hbe;have HM3 := Bx.mk (show ∃ q, q <= (allJ (vxs L.vs) 0).length /\ OwnF W3 kS rdS edS be q (fun _ => none) from ⟨0, by omega, by rw [hW3, hbe]; exact OwnF.made W2 kS rdS edS⟩);have HT3 := Bx.mk (show TBI W3 be (fun _ => none) (exJ (vxs L.vs) 0) from ⟨fun p => (by simp [exJ_zero]), (by intro p s hp; cases hp), (by intro p p' s s' hp; cases hp)⟩);have HBA := Bx.mk (show Below be W2 W3 by rw [hW3, hbe]; exact (Below.refl _ _).alloc (zR _) _);go_upto_region 7 with fail
  rw [<- hW3, <- hbe];clear hW3 hbe hmm;have hr8 := (HBA.out.block q8 (by have := HBE.out; have := HZ2.out; omega)).trans HR8.out;have m8 := cell_of_row _ _ 0 _ _ _ hr8;simp only [List.getElem?_toArray, List.getElem?_cons_zero, List.getElem?_cons_succ] at m8
  clear hr8;go_wp2_with fail
  clear m8;go_loopw [34] (fun i wr => ∃ (k : Nat) (f : B -> Option Sg), k <= M /\ i = .int .i64 k /\ Bx (TBI wr be f (exJ (vxs L.vs) k)) /\ Bx (∃ q, q <= (allJ (vxs L.vs) k).length /\ OwnF wr kS rdS edS be q f) /\ Bx (Below be W2 wr)) (fun i _ => M - (intOf i).toNat)
  case atStart => exact ⟨0, _, by omega, rfl, HT3, HM3, HBA⟩
  case round =>
   clear HT3 HM3 HBA;obtain ⟨k, f, hk, rfl, hT, hO, hB⟩ := hrel;by_cases hlt : k < M
   ·have hkl : k < L.vs.length := by rw [<- HM.out]; exact hlt
    have HBW := Bx.mk (show Below w.heap.size w wr from HB2.out.trans (hB.out.mono (by have := HB2.out.size; have := HBE.out; omega)));obtain ⟨bv, ov, rfl, -, c0, c1, c2⟩ := VL.at3 HVL.out wr HBW.out k hkl;have HXA := Bx.mk (show VtAt w (L.vs[k]) from HVL.out.at_ _ (zM hkl));have HXN := Bx.mk (vxs_at L.vs k hkl);obtain ⟨x, hx⟩ : ∃ x, x = L.vs[k]'hkl := ⟨_, rfl⟩
    rw [<- hx] at c0 c1 c2 HXA HXN;simp only [Sl.val] at c1 c2
    have hXR := HXA.out.1.1;have hXF := HXA.out.2.2.1;obtain ⟨ua, uc, hu, -⟩ := hXR.form;simp only [Sl.val, Value.slice.injEq] at hu
    obtain ⟨hu1, hu2, hu3⟩ := hu;obtain ⟨E, hE⟩ : ∃ E, E = x.n.ex.length := ⟨_, rfl⟩
    have HEN := Bx.mk hE;have HSC := Bx.mk (strs_cells (show Rd w encS (.slice ua x.n.ex.length uc) x.n.ex by rw [<- hu1, <- hu2, <- hu3]; exact hXR)).2;rw [hu1, hu2, hu3, <- hE] at c1;have hEl : E <= 100000 := (by rw [hE]; exact hXF.1);have HPL := Bx.mk hXF.2;clear hx hXR hXF hu1 hu2 hu3 hE hkl;obtain ⟨W4, hW4⟩ : ∃ W4, W4 = wr.alloc (.cells #[.string (bstr x.n.pol), .slice ua E uc, .slice x.q.ad x.q.n x.q.c] 65) := ⟨_, rfl⟩
    obtain ⟨q11, hq11⟩ : ∃ q, q = wr.heap.size := ⟨_, rfl⟩
    have HBA := Bx.mk (show Below wr.heap.size wr W4 by rw [hW4]; exact (Below.refl _ _).alloc (zR _) _);have hr4 : W4.heap[q11]? = some (.cells #[.string (bstr x.n.pol), .slice ua E uc, .slice x.q.ad x.q.n x.q.c] 65 (0, 0)) := (by rw [hW4, hq11]; exact heap_alloc_new _ _);go_upto_region 10 with fail
    rw [<- hW4, <- hq11];clear hW4 hq11 c0 c1 c2;have HT4 := Bx.mk (show TBI W4 be f (exQ (vxs L.vs) k 0) by rw [exQ_zero]; exact hT.out.below HBA.out);have HO4 := Bx.mk (show ∃ q, q <= (allJ (vxs L.vs) k).length + 0 /\ OwnF W4 kS rdS edS be q f by obtain ⟨q, h1, h2⟩ := hO.out; exact ⟨q, h1, h2.below HBA.out⟩);have HB4 := Bx.mk (show Below be W2 W4 from hB.out.trans (HBA.out.mono (by have := hB.out.size; have := HBE.out; omega)));have m4 := cell_of_row _ _ 1 _ _ _ hr4;simp only [List.getElem?_toArray, List.getElem?_cons_zero, List.getElem?_cons_succ] at m4
    clear hr4 hT hO hB;go_wp2_with fail
    clear m4;go_loopw [42] (fun i wr => ∃ (j : Nat) (f : B -> Option Sg), j <= E /\ i = .int .i64 j /\ Bx (TBI wr be f (exQ (vxs L.vs) k j)) /\ Bx (∃ q, q <= (allJ (vxs L.vs) k).length + j /\ OwnF wr kS rdS edS be q f) /\ Bx (Below be W2 wr)) (fun i _ => E - (intOf i).toNat)
    case atStart => exact ⟨0, _, by omega, rfl, HT4, HO4, HB4⟩
    case round =>
     clear HT4 HO4 HB4 HBW HBA;obtain ⟨j, f, hj, rfl, hT, hO, hB⟩ := hrel;by_cases hltj : j < E
     ·have hjl : j < x.n.ex.length := by rw [<- HEN.out]; exact hltj
      have hbw : Below w.heap.size w wr := HB2.out.trans (hB.out.mono (by have := HB2.out.size; have := HBE.out; omega));obtain ⟨bs, os, rfl, -, c0⟩ := HSC.out wr hbw j hjl;have HXS := Bx.mk (exQ_succ (vxs L.vs) k j x.n.ex (by rw [HXN.out]) hjl);have HPK := Bx.mk (HPL.out _ (zM hjl));obtain ⟨p, hp⟩ : ∃ p, p = x.n.ex[j]'hjl := ⟨_, rfl⟩
      rw [<- hp] at c0 HXS HPK
      have HSZ := Bx.mk (show (allJ (vxs L.vs) k).length + j + 1 <= 100000 by
       have h1 := allJ_mono (vxs L.vs) (j := k + 1) (k := L.vs.length) (by rw [<- HM.out]; omega);have h2 := allJ_succ (vxs L.vs) k;rw [HXN.out, <- HEN.out] at h2;have := HEL.out
       omega)
      obtain ⟨q, hq, hop⟩ := hO.out;have HQK := Bx.mk hq;have HOP := Bx.mk hop;have HGL2 := Bx.mk (exQ_len (vxs L.vs) k j p);obtain ⟨G, hG⟩ : ∃ G, G = exQ (vxs L.vs) k j p := ⟨_, rfl⟩
      have HG := Bx.mk hG;have HOWN0 := Bx.mk (hT.out.get p);obtain ⟨sv, hsv⟩ : ∃ s, s = (f p).getD nilS := ⟨_, rfl⟩
      have HSV := Bx.mk hsv;rw [<- hsv, <- hG] at HOWN0;rw [<- hG] at HGL2;obtain ⟨va, vc, hvf, -⟩ := HOWN0.out.rd.form
      have hlook : (Instr.lookup 77 (.map (some be)) (.string (bstr p)) false).run Tryz.prog wr = .ok (.slice va G.length vc) wr := by
       have := (HOP.out.lookS u_mapSI Sg.val nilS (Tryz.zeroValue22 _) rdS_mk rdS_inv (k := p) (by have := HPK.out; unfold maxLen; omega)).1;rw [<- hsv, hvf] at this;exact this
      rw [hvf] at HOWN0;have HVF := Bx.mk hvf;have hba : Below wr.heap.size wr (wr.alloc (.cells #[.int .i64 (k : Nat)] 3)) := (Below.refl _ _).alloc (zR _) _;have HSRC := Bx.mk (src_int wr (k : Nat));have HOWN := Bx.mk (show Slc.Own (wr.alloc (.cells #[.int .i64 (k : Nat)] 3)) (be + 1) 3 1 encI (.slice va G.length vc) G from HOWN0.out.below hba);have HTA := Bx.mk (hT.out.below hba);have HOA := Bx.mk (hop.below hba);have HBB := Bx.mk (show Below be W2 (wr.alloc (.cells #[.int .i64 (k : Nat)] 3)) from hB.out.trans (hba.mono (by have := hB.out.size; have := HBE.out; omega)));have hbz : be + 1 <= (wr.alloc (.cells #[.int .i64 (k : Nat)] 3)).heap.size := (by have := hop.lt; have := hba.size; omega);have hm1 : G.length + 1 <= maxLen := (by have := HGL2.out; have := HSZ.out; unfold maxLen; omega);have hm2 : (G.length + 1) * 8 <= 140737488355328 := (by have := HGL2.out; have := HSZ.out; omega);clear hq hop hG hsv hvf hba hT hO hB hbw hp hjl;go_wp2_with (at_builtin; refine wpList_append_any rfl _ _ _ rfl (be + 1) 3 ib _ 1 8 und_ints hib hib0 hib1 hib2 rfl (by decide) _ G.length (G.flatMap encI) rfl HOWN.out _ 1 ([(k : Int)].flatMap encI) rfl HSRC.out hm1 hm2 hbz ?_)
      intro v9 w9 hapd;have hown := Slc.Own.apd (m := [(k : Int)]) HOWN.out rfl rfl rfl rfl hapd;obtain ⟨s', rfl⟩ := own_sgI hown
      have hne : ∀ j, sv.val.ownBlock = some j -> j ≠ be := fun j hj => by
       have := (HOWN.out.lt j (by rw [<- HVF.out]; exact hj)).1; omega
      have hgr := hapd.grown;rw [<- HVF.out] at hgr;obtain ⟨w10, hrun, ho10, hg10⟩ := (HOA.out.kept hgr (fun e => hne be e.symm rfl)).putS u_mapSI (by have := HQK.out; have := HSZ.out; unfold maxLen; omega) (k := p) (by have := HPK.out; unfold maxLen; omega) s' s'.val (rdS_mk _);have hblk := hapd.blk;rw [<- HVF.out] at hblk
      have hT10 := HTA.out.step (p := p) (x := (k : Int)) (s' := s') (HSV.out ▸ hgr) (by rw [<- HG.out]; exact hown) (by
       rw [<- HSV.out];rcases hblk with q | q
       ·exact .inl q
       ·exact .inr ⟨_, q, zR _⟩) hg10
      have HT10 := Bx.mk (show TBI w10 be (fun j => if j = p then some s' else f j) (exQ (vxs L.vs) k (j + 1)) by
       have e : exQ (vxs L.vs) k (j + 1) = fun i => if i = p then exQ (vxs L.vs) k j p ++ [(k : Int)] else exQ (vxs L.vs) k j i := by
        funext i
        rw [HXS.out];by_cases e : i = p
        ·subst e; simp
        ·rw [if_neg e, zF fun q => e q.symm]; simp
       rw [e]; exact hT10)
      have HO10 := Bx.mk (show ∃ q, q <= (allJ (vxs L.vs) k).length + (j + 1) /\ OwnF w10 kS rdS edS be q (fun j => if j = p then some s' else f j) from ⟨_, by have := HQK.out; omega, ho10⟩)
      have HB10 := Bx.mk (show Below be W2 w10 from (HBB.out.grown hgr (by have := HBB.out.size; have := HBE.out; omega) fun j hj => by
       have := (HOWN.out.lt j (by rw [<- HVF.out]; exact hj)).1; omega).grown hg10 (by have := HBB.out.size; have := hgr.size; have := HBE.out; omega) fun j hj => by simp only [zO] at hj; omega)
      have hsf : ∃ sa sn sc, s'.val = .slice sa sn sc := ⟨_, _, _, rfl⟩
      obtain ⟨sa, sn, sc, hsf⟩ := hsf;have hrun' : (Instr.mapUpdate 77 (.map (some be)) (.string (bstr p)) (.slice sa sn sc)).run Tryz.prog w9 = .ok () w10 := (by rw [<- hsf]; exact hrun);rw [hsf];clear hown hne hgr hrun ho10 hg10 hblk hT10 hsf hlook c0 hapd hm1 hm2 hbz;go_wp2_with fail
      go_roundw
      case rel => exact ⟨j + 1, _, by omega, by go_num, HT10, HO10, HB10⟩
      case measure => simp [intOf]; omega
     ·obtain rfl : j = E := by omega
      have HT5 := Bx.mk (show TBI wr be f (exJ (vxs L.vs) (k + 1)) by
       have := hT.out;rw [HEN.out, <- HXN.out, exQ_all] at this
       exact this)
      have HO5 := Bx.mk (show ∃ q, q <= (allJ (vxs L.vs) (k + 1)).length /\ OwnF wr kS rdS edS be q f by
       obtain ⟨q, h1, h2⟩ := hO.out;refine ⟨q, ?_, h2⟩
       rw [allJ_succ, HXN.out, <- HEN.out]; exact h1)
      go_wp2_with fail
      go_roundw
      case rel => exact ⟨k + 1, f, by omega, by go_num, HT5, HO5, hB⟩
      case measure => simp [intOf]; omega
   ·obtain rfl : k = M := by omega
    obtain ⟨q, hq, hop⟩ := hO.out;have hbw : Below w.heap.size w wr := HB2.out.trans (hB.out.mono (by have := HB2.out.size; have := HBE.out; omega));have HBW := Bx.mk hbw;obtain ⟨vx, hvx⟩ : ∃ vx, vx = vxs L.vs := ⟨_, rfl⟩
    have hvl : vx.length = k := (by rw [hvx, vxs_len, <- HM.out]);have HVX := Bx.mk hvx;have HVXL := Bx.mk hvl;have hTT := hT.out;rw [<- hvx] at hq hTT;have HEL2 := Bx.mk (show (allJ vx vx.length).length + PN <= 100000 by have := HEL.out; rw [hvx, vxs_len, HPN.out]; exact this);have HQ2 := Bx.mk (show q <= 100000 by have := HEL2.out; rw [hvl] at this; omega);have HHAS := Bx.mk (show ∀ p, (f p).isSome = true ↔ exI vx p ≠ [] by unfold exI; rw [hvl]; exact hTT.has_)
    have HXR := Bx.mk (show ∀ p s, f p = some s -> RdIn wr (fun j => j < wr.heap.size /\ w.heap.size <= j) encI s.val (exI vx p) by
     unfold exI; rw [hvl]
     exact fun p s hp => ⟨(hTT.own p s hp).rd, fun j hj => ⟨((hTT.own p s hp).lt j hj).2, by have := ((hTT.own p s hp).lt j hj).1; have := HBE.out; have := HB2.out.size; omega⟩⟩)
    have HR8w := Bx.mk ((hB.out.block q8 (by have := HBE.out; have := HZ2.out; omega)).trans HR8.out);have HBEL := Bx.mk hop.lt;have HOP := Bx.mk hop;have HBB := Bx.mk hB.out;have hmm := @run_makeMap Tryz.prog;obtain ⟨W5, hW5⟩ : ∃ W5, W5 = wr.alloc (.map #[] 0) := ⟨_, rfl⟩
    obtain ⟨bp, hbp⟩ : ∃ bp, bp = wr.heap.size := ⟨_, rfl⟩
    have HBP := Bx.mk hbp;have HM5 := Bx.mk (show OwnF W5 kS rdS edS bp 0 (fun _ => none) by rw [hW5, hbp]; exact OwnF.made wr kS rdS edS);have HBA := Bx.mk (show Below bp wr W5 by rw [hW5, hbp]; exact (Below.refl _ _).alloc (zR _) _);have HZ5 := Bx.mk (show W5.heap.size = bp + 1 by rw [hW5, hbp]; simp);clear hT hO hB hq hop hTT hvx hvl;go_upto_region 17 with fail
    rw [<- hW5, <- hbp];clear hW5 hbp hmm;have hct := contains_any W5 (.slice pa PN pc) ps anyP (by rw [HPN.out]; exact HP.out.below (hbw.trans (HBA.out.mono (by have := hbw.size; have := HBP.out; omega)))) (by rw [<- HPN.out]; omega);rw [anyP_str] at hct;obtain ⟨A, hA⟩ : ∃ A, A = decide (anyP ∈ ps) := ⟨_, rfl⟩
    have HA := Bx.mk hA;rw [<- hA] at hct;clear hA hbw;go_cut [61] (fun cc wx => cc = .bool (cnt && A) /\ wx = W5)
    case first =>
     cases cnt with
     | false =>
      go_wp2_with fail
      go_meet
      exact ⟨rfl, rfl⟩
     | true =>
      go_wp2_with fail
      go_at_call 48;refine hct.mono ?_;rintro e w2 ⟨rfl, rfl⟩;clear hct;go_wp2_with fail
      go_meet;exact ⟨by cases A <;> rfl, rfl⟩
    case rest =>
    obtain ⟨rfl, hwc⟩ := hcut;rw [hwc];clear hct hwc wc;obtain ⟨C, hC⟩ : ∃ C, C = (cnt && A) := ⟨_, rfl⟩
    have HC := Bx.mk hC;rw [<- hC];clear hC
    have hcp := mcopy_any W5 bp be q f HM5.out (HOP.out.block (HBA.out.block be (by have := HBP.out; have := HBEL.out; omega))) (by have := HBP.out; have := HBEL.out; omega) (by have := HQ2.out; omega) (fun p hp => by
     have h1 := (exJ_mem _ _ _).1 ((HHAS.out p).1 hp);unfold allJ at h1;obtain ⟨i, hi, h1⟩ := List.mem_flatMap.1 h1;have hi' : i < L.vs.length := (by rw [<- HM.out, <- HVXL.out]; exact List.mem_range.1 hi);rw [HVX.out, vxs_at L.vs i hi'] at h1
     exact (HVL.out.at_ _ (zM hi')).2.2.1.2 p h1)
    have HCP := Bx.mk hcp;clear hcp;go_upto_if 61 with fail
    go_cut [61] (fun _ wx => Bx (∃ q', q' <= 100000 /\ OwnF wx kS rdS edS bp q' (fun p => if C then f p else none)) /\ Bx (W5.grownBy wx (some bp)))
    case first =>
     cases C with
     | false =>
      go_wp2_with fail
      go_meet
      exact ⟨⟨0, by omega, HM5.out⟩, ⟨⟨rfl, rfl, rfl, zR _, fun _ _ _ => rfl⟩⟩⟩
     | true =>
      go_wp2_with fail
      go_at_call 49;refine HCP.out.mono ?_;rintro e w2 ⟨⟨u, rfl⟩, ⟨q', hq', ho'⟩, hg'⟩;go_wp2_with fail
      go_meet;exact ⟨⟨q', by have := HQ2.out; omega, ho'⟩, ⟨hg'⟩⟩
    case rest =>
    obtain ⟨⟨q', hq', ho'⟩, ⟨hg5⟩⟩ := hcut;have hbe : be < bp := (by have := HBP.out; have := HBEL.out; omega);have hq8 : q8 < be := (by have := HBE.out; have := HZ2.out; omega);have HOE := Bx.mk (show OwnF wc kS rdS edS be q f from (HOP.out.block (HBA.out.block be hbe)).kept hg5 (by simp only [ne_eq, zO]; omega));have hb6 : Below w.heap.size w wc := (HBW.out.trans (HBA.out.mono (by have := HBW.out.size; have := HBP.out; omega))).grown hg5 (by have := HBW.out.size; have := HBA.out.size; omega) fun j hj => by simp only [zO] at hj; have := HBW.out.size; have := HBP.out; omega
    have HB6 := Bx.mk hb6;have hr8 := (hg5.block q8 (by have := HZ5.out; omega) (by simp only [ne_eq, zO]; omega)).trans ((HBA.out.block q8 (by omega)).trans HR8w.out);have m8 := cell_of_row _ _ 0 _ _ _ hr8;simp only [List.getElem?_toArray, List.getElem?_cons_zero, List.getElem?_cons_succ] at m8
    have hfd := find_any wc (.slice la L.vs.length lc) L.vs (HVL.out.below hb6) (by rw [<- HM.out]; omega) anyP;rw [<- HVX.out, <- HM.out, anyP_str] at hfd;obtain ⟨ST, hST⟩ : ∃ ST, ST = fndP vx anyP := ⟨_, rfl⟩
    have HST := Bx.mk hST;rw [<- hST] at hfd;have HO6 := Bx.mk ho';have HQ6 := Bx.mk hq';have HBE2 := Bx.mk hbe
    have HXR6 := Bx.mk (show ∀ p s, f p = some s -> RdIn wc (fun j => j < bp /\ w.heap.size <= j) encI s.val (exI vx p) from fun p s hp => by
     have h1 := HXR.out p s hp;refine (h1.keep (w' := wc) (by have := hg5.size; have := HBA.out.size; omega) fun j hj hjl => ?_).mono fun j hj _ => by have := HBP.out; omega
     exact (hg5.block j (by have := HBA.out.size; omega) (by simp only [ne_eq, zO]; have := HBP.out; omega)).trans (HBA.out.block j (by have := HBP.out; omega)))
    have HBC := Bx.mk (show bp < wc.heap.size from ho'.lt);clear hg5 hb6 hr8 ho' hq' hbe hq8 HXR HOP HBW HBB HBA HM5 hST;go_wp2_with fail
    go_at_call 50;refine hfd.mono ?_;rintro e w7 ⟨rfl, hb7⟩;clear hfd m8
    have HPT := Bx.mk (show (∀ p, (if C then f p else none).isSome = true ↔ parG vx C [] p ≠ []) from fun p => by
     rw [parG_nil]
     cases C with
     | false => simp
     | true => simpa using HHAS.out p)
    have HPS := Bx.mk (show ∀ p s, (if C then f p else none) = some s -> RdIn w7 (fun j => j ≠ bp /\ w.heap.size <= j) encI s.val (parG vx C [] p) from fun p s hp => by
     rw [parG_nil]
     cases C with
     | false => simp at hp
     | true => exact (RdIn.below (HXR6.out p s (by simpa using hp)) hb7).mono fun j _ hj => by omega)
    have HXR7 := Bx.mk (show ∀ p s, f p = some s -> RdIn w7 (fun j => j ≠ bp /\ w.heap.size <= j) encI s.val (exI vx p) from fun p s hp => (RdIn.below (HXR6.out p s hp) hb7).mono fun j _ hj => by omega);have HO7 := Bx.mk (HO6.out.below hb7);have HOE7 := Bx.mk (HOE.out.below hb7);have HB7 := Bx.mk (HB6.out.trans (hb7.mono HB6.out.size));have HBC7 := Bx.mk (show bp < w7.heap.size by have := HBC.out; have := hb7.size; omega);have HPC := Bx.mk (show ∀ (W : World), Below w.heap.size w W -> ∀ k (hk : k < ps.length), ∃ b o, pa = some ⟨b, o, none⟩ /\ b < w.heap.size /\ W.cell? ⟨b, o + k, none⟩ = some (.string (bstr ps[k])) from (strs_cells HP.out).2);clear HO6 HOE HXR6 HBC hb7;go_wp2_with fail
    go_loopw [69] (fun i wr => ∃ (k : Nat) (fp : B -> Option Sg), k <= PN /\ i = .int .i64 k /\ Bx (∀ p, (fp p).isSome = true ↔ parG vx C (ps.take k) p ≠ []) /\ Bx (∀ p s, fp p = some s -> RdIn wr (fun j => j ≠ bp /\ w.heap.size <= j) encI s.val (parG vx C (ps.take k) p)) /\ Bx (∃ q', q' <= 100000 + k /\ OwnF wr kS rdS edS bp q' fp) /\ Bx (w7.grownBy wr (some bp))) (fun i _ => PN - (intOf i).toNat)
    case atStart => exact ⟨0, _, by omega, rfl, HPT, HPS, ⟨q', by have := HQ6.out; omega, HO7.out⟩, ⟨⟨rfl, rfl, rfl, zR _, fun _ _ _ => rfl⟩⟩⟩
    case round =>
     clear HPT HPS HO7;obtain ⟨i, fp, hi, rfl, hHas, hRd, hO, hG⟩ := hrel;have hbw : Below w.heap.size w wr := HB7.out.grown hG.out HB7.out.size fun j hj => by simp only [zO] at hj; have := HB2.out.size; have := HBE.out; have := HBE2.out; omega
     by_cases hlt : i < PN
     ·have hil : i < ps.length := by rw [<- HPN.out]; exact hlt
      obtain ⟨bs, os, rfl, -, c0⟩ := HPC.out wr hbw i hil;have HTK := Bx.mk (show ps.take (i + 1) = ps.take i ++ [ps[i]] from zA hil);have HPK := Bx.mk (HPX.out _ (zM hil));obtain ⟨p, hp⟩ : ∃ p, p = ps[i]'hil := ⟨_, rfl⟩
      rw [<- hp] at c0 HTK HPK;clear hp hil hbw;have hs := same_any p;obtain ⟨tp, htp⟩ : ∃ t, t = decide (p = anyP) := ⟨_, rfl⟩
      rw [<- htp] at hs;have HTP := Bx.mk htp;clear htp
      cases tp with
      | true =>
       have hpa : p = anyP := of_decide_eq_true HTP.out.symm;have HH2 := Bx.mk (show (∀ p, (fp p).isSome = true ↔ parG vx C (ps.take (i + 1)) p ≠ []) from by rw [HTK.out, parG_any _ _ _ _ hpa]; exact hHas.out);have HR2 := Bx.mk (show (∀ p s, fp p = some s -> RdIn wr (fun j => j ≠ bp /\ w.heap.size <= j) encI s.val (parG vx C (ps.take (i + 1)) p)) from by rw [HTK.out, parG_any _ _ _ _ hpa]; exact hRd.out);have HO2 := Bx.mk (show ∃ q', q' <= 100000 + (i + 1) /\ OwnF wr kS rdS edS bp q' fp by obtain ⟨q', h1, h2⟩ := hO.out; exact ⟨q', by omega, h2⟩);clear hpa;go_wp2_with fail
       go_roundw
       case rel => exact ⟨i + 1, fp, by omega, by go_num, HH2, HR2, HO2, hG⟩
       case measure => simp [intOf]; omega
      | false =>
       have HPA := Bx.mk (show p ≠ anyP from of_decide_eq_false HTP.out.symm);have HOEw := Bx.mk (HOE7.out.kept hG.out (by simp only [ne_eq, zO]; have := HBE2.out; omega))
       have hv : ∃ va vc, ((f p).getD nilS).val = .slice va (exI vx p).length vc := by
        cases hf : f p with
        | some s0 => obtain ⟨va, vc, h1, -⟩ := (HXR7.out p s0 hf).1.form; exact ⟨va, vc, h1⟩
        | none =>
         have : exI vx p = [] := by
          cases he : exI vx p with
          | nil => rfl
          | cons a b => have := (HHAS.out p).2 (by rw [he]; simp); rw [hf] at this; cases this
         exact ⟨none, 0, by rw [this]; rfl⟩
       obtain ⟨va, vc, hvf⟩ := hv
       have hlook : (Instr.lookup 77 (.map (some be)) (.string (bstr p)) false).run Tryz.prog wr = .ok (.slice va (exI vx p).length vc) wr := by
        have := (HOEw.out.lookS u_mapSI Sg.val nilS (Tryz.zeroValue22 _) rdS_mk rdS_inv (k := p) (by have := HPK.out; unfold maxLen; omega)).1;rw [hvf] at this;exact this
       obtain ⟨EL, hEL⟩ : ∃ n, n = (exI vx p).length := ⟨_, rfl⟩
       rw [<- hEL] at hlook hvf;have HELN := Bx.mk hEL;have HVF := Bx.mk hvf;clear hEL hvf;by_cases hpos : 0 < EL
       ·have tpos : decide ((EL : Int) > 0) = true := zT (by omega);have hne : exI vx p ≠ [] := fun e => by have := HELN.out; rw [e] at this; simp at this; omega
        have hsome := (HHAS.out p).2 hne;obtain ⟨s0, hs0⟩ := Option.isSome_iff_exists.1 hsome;obtain ⟨q1, hq1, ho1⟩ := hO.out;obtain ⟨w8, hrun, ho8, hg8⟩ := ho1.putS u_mapSI (by unfold maxLen; omega) (k := p) (by have := HPK.out; unfold maxLen; omega) s0 s0.val (rdS_mk _);have hvs : s0.val = .slice va EL vc := (by have := HVF.out; rw [hs0] at this; exact this);rw [hvs] at hrun;have hrun' : (Instr.mapUpdate 77 (.map (some bp)) (.string (bstr p)) (.slice va EL vc)).run Tryz.prog wr = .ok () w8 := hrun;have hkeep : ∀ {v : Value} {l : List Int}, RdIn wr (fun j => j ≠ bp /\ w.heap.size <= j) encI v l -> RdIn w8 (fun j => j ≠ bp /\ w.heap.size <= j) encI v l := fun hv => hv.keep hg8.size fun j hj hjl => hg8.block j hjl (by simp only [ne_eq, zO]; exact hj.1)
        have hk7 : RdIn wr (fun j => j ≠ bp /\ w.heap.size <= j) encI s0.val (exI vx p) := (HXR7.out p s0 hs0).keep hG.out.size fun j hj hjl => hG.out.block j hjl (by simp only [ne_eq, zO]; exact hj.1)
        have HH2 := Bx.mk (show (∀ j, ((fun j => if j = p then some s0 else fp j) j).isSome = true ↔ parG vx C (ps.take (i + 1)) j ≠ []) from fun j => by
         rw [HTK.out, parG_exp _ _ _ _ HPA.out hne];by_cases e : j = p
         ·simp [e, hne]
         ·simp only [if_neg e]; exact hHas.out j)
        have HR2 := Bx.mk (show (∀ j s, (fun j => if j = p then some s0 else fp j) j = some s -> RdIn w8 (fun j => j ≠ bp /\ w.heap.size <= j) encI s.val (parG vx C (ps.take (i + 1)) j)) from fun j s hj => by
         rw [HTK.out, parG_exp _ _ _ _ HPA.out hne];by_cases e : j = p
         ·simp only [if_pos e, zO] at hj |-
          subst hj; exact hkeep hk7
         ·simp only [if_neg e] at hj |-; exact hkeep (hRd.out j s hj))
        have HO2 := Bx.mk (show ∃ q', q' <= 100000 + (i + 1) /\ OwnF w8 kS rdS edS bp q' (fun j => if j = p then some s0 else fp j) from ⟨_, by omega, ho8⟩);have HG2 := Bx.mk (grown_same hG.out hg8);clear hne hsome hs0 hq1 ho1 hrun ho8 hg8 hvs hk7 hHas hRd hO hG hkeep;go_wp2_with fail
        go_roundw
        case rel => exact ⟨i + 1, _, by omega, by go_num, HH2, HR2, HO2, HG2⟩
        case measure => simp [intOf]; omega
       ·have tpos : decide ((EL : Int) > 0) = false := zF (by omega);have HNE := Bx.mk (show exI vx p = [] from List.length_eq_zero_iff.1 (by have := HELN.out; omega));by_cases hst : 0 <= ST
        ·have tst : decide (ST >= 0) = true := zT hst;obtain ⟨q1, hq1, ho1⟩ := hO.out;have hba : Below wr.heap.size wr (wr.alloc (.cells #[.int .i64 ST] 3)) := (Below.refl _ _).alloc (zR _) _;have hnew : Slc.Own (wr.alloc (.cells #[.int .i64 ST] 3)) wr.heap.size 3 1 encI (.slice (some ⟨wr.heap.size, 0, none⟩) 1 1) [ST] := own_alloc encI_ok wr [ST] _ rfl (zR _) (by unfold maxLen; simp);obtain ⟨w8, hrun, ho8, hg8⟩ := (ho1.below hba).putS u_mapSI (by unfold maxLen; omega) (k := p) (by have := HPK.out; unfold maxLen; omega) (⟨some (wr.heap.size, 0), 1, 1⟩ : Sg) (.slice (some ⟨wr.heap.size, 0, none⟩) 1 1) (rdS_mk (⟨some (wr.heap.size, 0), 1, 1⟩ : Sg));have hrun' : (Instr.mapUpdate 77 (.map (some bp)) (.string (bstr p)) (.slice (some ⟨wr.heap.size, 0, none⟩) 1 1)).run Tryz.prog (wr.alloc (.cells #[.int .i64 ST] 3)) = .ok () w8 := hrun;have hbl := ho1.lt;have hkeep : ∀ {v : Value} {l : List Int}, RdIn (wr.alloc (.cells #[.int .i64 ST] 3)) (fun j => j ≠ bp /\ w.heap.size <= j) encI v l -> RdIn w8 (fun j => j ≠ bp /\ w.heap.size <= j) encI v l := fun hv => hv.keep hg8.size fun j hj hjl => hg8.block j hjl (by simp only [ne_eq, zO]; exact hj.1)
         have hst' : 0 <= fndP vx anyP := by rw [<- HST.out]; exact hst
         have HH2 := Bx.mk (show (∀ j, ((fun j => if j = p then some (⟨some (wr.heap.size, 0), 1, 1⟩ : Sg) else fp j) j).isSome = true ↔ parG vx C (ps.take (i + 1)) j ≠ []) from fun j => by
          rw [HTK.out, parG_star _ _ _ _ HPA.out HNE.out hst'];by_cases e : j = p
          ·simp [e]
          ·simp only [if_neg e]; exact hHas.out j)
         have HR2 := Bx.mk (show (∀ j s, (fun j => if j = p then some (⟨some (wr.heap.size, 0), 1, 1⟩ : Sg) else fp j) j = some s -> RdIn w8 (fun j => j ≠ bp /\ w.heap.size <= j) encI s.val (parG vx C (ps.take (i + 1)) j)) from fun j s hj => by
          rw [HTK.out, parG_star _ _ _ _ HPA.out HNE.out hst'];by_cases e : j = p
          ·simp only [if_pos e, zO] at hj |-
           subst hj;rw [<- HST.out];exact hkeep ⟨hnew.rd, fun j hj => by have := (hnew.lt j hj).1; have := HB7.out.size; have := hG.out.size; omega⟩
          ·simp only [if_neg e] at hj |-; exact hkeep ((hRd.out j s hj).below hba))
         have HO2 := Bx.mk (show ∃ q', q' <= 100000 + (i + 1) /\ OwnF w8 kS rdS edS bp q' (fun j => if j = p then some (⟨some (wr.heap.size, 0), 1, 1⟩ : Sg) else fp j) from ⟨_, by omega, ho8⟩);have HG2 := Bx.mk (grown_same (grown_bel hG.out hba) hg8);clear hq1 ho1 hrun ho8 hg8 hHas hRd hO hG hkeep hnew hba hbl hst';go_wp2_with fail
         go_roundw
         case rel => exact ⟨i + 1, _, by omega, by go_num, HH2, HR2, HO2, HG2⟩
         case measure => simp [intOf]; omega
        ·have tst : decide (ST >= 0) = false := zF hst;have hst' : ¬ 0 <= fndP vx anyP := (by rw [<- HST.out]; exact hst);have HH2 := Bx.mk (show (∀ p, (fp p).isSome = true ↔ parG vx C (ps.take (i + 1)) p ≠ []) from by rw [HTK.out, parG_no _ _ _ _ HNE.out hst']; exact hHas.out);have HR2 := Bx.mk (show (∀ p s, fp p = some s -> RdIn wr (fun j => j ≠ bp /\ w.heap.size <= j) encI s.val (parG vx C (ps.take (i + 1)) p)) from by rw [HTK.out, parG_no _ _ _ _ HNE.out hst']; exact hRd.out);have HO2 := Bx.mk (show ∃ q', q' <= 100000 + (i + 1) /\ OwnF wr kS rdS edS bp q' fp by obtain ⟨q', h1, h2⟩ := hO.out; exact ⟨q', by omega, h2⟩);clear hst';go_wp2_with fail
         go_roundw
         case rel => exact ⟨i + 1, fp, by omega, by go_num, HH2, HR2, HO2, hG⟩
         case measure => simp [intOf]; omega
     ·obtain rfl : PN = i := by omega
      have HPF := Bx.mk (show parG vx C (ps.take PN) = parF vx ps cnt by rw [HPN.out, List.take_length, parG_all, HC.out, HA.out]);have hHas' := hHas.out;have hRd' := hRd.out;rw [HPF.out] at hHas' hRd';have HHAS' := Bx.mk hHas';have HRD' := Bx.mk hRd';have hcpy := copied_any wr _ g (HGL.out.below hbw) (by rw [<- HN.out]; omega) HLN.out;rw [<- HN.out] at hcpy;have HBW := Bx.mk hbw;obtain ⟨q1, hq1, ho1⟩ := hO.out;have HQ1 := Bx.mk (show q1 <= 1000000 by omega);have HO1 := Bx.mk ho1;have HBR := Bx.mk (show w.heap.size <= wr.heap.size from hbw.size);clear hHas hRd hHas' hRd' hO hq1 ho1 hbw hG;go_wp2_with fail
      go_at_call 52;refine hcpy.mono ?_;rintro e w8 ⟨v', g', rfl, hgo, hgx, hpd, hb8⟩;clear hcpy;have HGO := Bx.mk hgo;have HGX := Bx.mk hgx;have HPD := Bx.mk (pd_ni hpd);have HB8 := Bx.mk hb8
      have hks : ∀ p ∈ keyL vx ps cnt, p.length <= 1000000 := fun p hp => by
       rcases keyL_from hp with h1 | h1
       ·unfold allJ at h1;obtain ⟨j, hj, h1⟩ := List.mem_flatMap.1 h1;have hj' : j < L.vs.length := (by rw [<- HM.out, <- HVXL.out]; exact List.mem_range.1 hj);rw [HVX.out, vxs_at L.vs j hj'] at h1;exact (HVL.out.at_ _ (zM hj')).2.2.1.2 p h1
       ·exact HPX.out p h1
      have hkl := keyL_len vx ps cnt;rw [<- HPN.out] at hkl;have hkl2 : (keyL vx ps cnt).length <= 100000 := (by have := HEL2.out; omega);have hlev := level_any w8 bp q1 fp (parF vx ps cnt) (fun j => j < wr.heap.size /\ w.heap.size <= j) (keyL vx ps cnt) (HO1.out.below hb8) HQ1.out (fun p s hp => ⟨(HRD'.out p s hp).1.below hb8, fun j hj => ⟨(HRD'.out p s hp).1.lt j hj, ((HRD'.out p s hp).2 j hj).2⟩⟩) (keyL_asc _ _ _) (fun p => by rw [keyL_mem, HHAS'.out]) (by omega) hks;have HKS := Bx.mk hks;have HKL := Bx.mk hkl2;obtain ⟨ga, gc, rfl, -⟩ := hgo.own.rd.form;clear hgo hgx hpd hb8 hks hkl hkl2;go_wp2_with fail
      go_at_call 53;refine hlev.mono ?_;rintro e w9 ⟨v9, Lx, rfl, hlp, hvx9, hb9⟩;clear hlev;obtain ⟨s9, hs9⟩ := sl_of hlp.own;subst hs9;have HLP := Bx.mk hlp;have HV9 := Bx.mk hvx9;have hba : Below w9.heap.size w9 (w9.alloc (.cells #[s9.val] 63)) := (Below.refl _ _).alloc (zR _) _;have hb10 : Below w8.heap.size w8 (w9.alloc (.cells #[s9.val] 63)) := hb9.trans (hba.mono hb9.size);have HB10 := Bx.mk hb10;have hg10 := HGO.out.below hb10;have HSRC := Bx.mk (show SrcV (w9.alloc (.cells #[s9.val] 63)) 1 (.slice (some ⟨w9.heap.size, 0, none⟩) 1 1) 1 ([(⟨Lx, s9⟩ : Lv)].flatMap encL) from src_new encL_ok (heap_alloc_new _ _));have HG10 := Bx.mk hg10;have hgl : g'.length = N := (by have := congrArg List.length HGX.out; rw [gxs_len, gxs_len, <- HN.out] at this; exact this);have hm1 : g'.length + 1 <= maxLen := (by unfold maxLen; omega);have hm2 : (g'.length + 1) * 24 <= 140737488355328 := (by omega);have hbz : wr.heap.size <= (w9.alloc (.cells #[s9.val] 63)).heap.size := (by have := hb10.size; have := HB8.out.size; omega);have HGLN := Bx.mk hgl;have HOWN := Bx.mk hg10.own;have HBA := Bx.mk hba;have HB9 := Bx.mk hb9;have HSV := Bx.mk (show s9.val = .slice s9.ad s9.n s9.c from rfl);simp only [Sl.val] at HSRC HOWN hbz |-
      clear hlp hvx9 hba hb10 hg10 hgl hb9;go_wp2_with (at_builtin; refine wpList_append_any rfl _ _ _ rfl wr.heap.size 63 il _ 1 24 und_levs hil hil0 hil1 hil2 rfl (by decide) _ g'.length (g'.flatMap encL) rfl HOWN.out _ 1 ([(⟨Lx, s9⟩ : Lv)].flatMap encL) rfl HSRC.out hm1 hm2 hbz ?_)
      intro v11 w11 hapd;have hgr := hapd.grown;have hvx9 := HV9.out;have hlp := HLP.out;have hs9 : ∀ j, s9.val.ownBlock = some j -> w8.heap.size <= j := fun j hj => (hlp.own.lt j hj).1
      have hgb : ∀ j, GB (.slice ga g'.length gc) g' j -> wr.heap.size <= j /\ j < w8.heap.size := fun j hj => HGO.out.lt hj
      obtain ⟨hgo11, hgb11⟩ := HG10.out.snoc (⟨Lx, s9⟩ : Lv) ((hlp.own.below HBA.out).mono HB8.out.size) (fun j hj hn => by have := hs9 j hj; have := (hgb j hn).2; omega)
       (fun L0 h0 x hx => (VtIn.below (HGO.out.nm L0 h0 x hx).at_ HB10.out).mono fun j _ hj e => by have := hs9 j e; omega)
       (fun x hx => by
        have hu := (RdIn.below (hlp.u x hx) HBA.out).mono (S' := fun k => ¬ GB (.slice ga g'.length gc) g' k /\ s9.val.ownBlock ≠ some k) fun j _ hj => ⟨fun hn => by have := (hgb j hn).2; have := hj.1; omega, hj.2⟩
        have hq := (RdIn.below (hlp.q x hx) HBA.out).mono (S' := fun k => ¬ GB (.slice ga g'.length gc) g' k /\ s9.val.ownBlock ≠ some k) fun j _ hj => ⟨fun hn => by have := (hgb j hn).1; omega, fun e => by have := hs9 j e; have := HB8.out.size; omega⟩
        refine ⟨hu, .inr hq, ?_⟩;have hxm : x.n ∈ vxs Lx := List.mem_map.2 ⟨x, hx, rfl⟩;rw [hvx9] at hxm;obtain ⟨p, hp, he⟩ := List.mem_map.1 hxm;rw [<- he];refine ⟨⟨by simp [lvV], fun b hb => ?_⟩, HKS.out p hp, ?_, fun i hi => ?_⟩
        ·simp only [lvV, zS] at hb; subst hb; exact HKS.out _ hp
        ·have h1 := parF_len vx ps cnt p;have h2 := HEL2.out;have h3 := HEL.out
         show (parF vx ps cnt p).length <= 100000
         by_cases hz : (allJ vx vx.length).length = 0 \/ 0 < PN
         ·rcases hz with hz | hz <;> omega
         ·have hps : ps = [] := List.length_eq_zero_iff.1 (by rw [<- HPN.out]; omega);have h4 := exJ_len vx vx.length p
          have h5 : parF vx ps cnt p = [] \/ parF vx ps cnt p = exI vx p := by
           unfold parF;rw [hps];split
           ·exact .inr rfl
           ·left; simp
          rcases h5 with h5 | h5
          ·rw [h5]; simp
          ·rw [h5]; unfold exI; omega
        ·have := parF_range vx ps cnt p i hi;rw [HVXL.out] at this
         omega)
       rfl rfl rfl rfl hapd
      have hgxs : gxs (g' ++ [⟨Lx, s9⟩]) = gxs g ++ [levP vx ps cnt] := by
       have e1 : gxs (g' ++ [⟨Lx, s9⟩]) = gxs g' ++ [vxs Lx] := (by simp [gxs]);rw [e1, HGX.out, hvx9]; rfl
      have hvl1 : (gxs g)[(gxs g).length - 1]! = vx := by rw [gxs_len, <- HN.out, HLG.out.2, HVX.out]
      have hpg := enter_pg HPR.out (by rw [gxs_len, <- HN.out]; exact hN1) (fun l hl => by
       obtain ⟨L0, h0, rfl⟩ := List.mem_map.1 hl
       rw [vxs_len]; exact HLN.out L0 h0) ps cnt (by rw [hvl1]; exact HKL.out)
      rw [hvl1] at hpg
      have HNI := Bx.mk (show NI w.heap.size (g' ++ [⟨Lx, s9⟩]) from fun L0 h0 x hx j hj => by
       rcases List.mem_append.1 h0 with q | q
       ·have := HPD.out L0 q x hx j hj; have := HBR.out; omega
       ·rw [zS] at q;subst q
        exact ((hlp.q x hx).2 j hj).2)
      have hprn := prune_nj w11 wr.heap.size v11 (g' ++ [⟨Lx, s9⟩]) hgo11 (by rw [hgxs]; exact hpg) (by rw [List.length_append, HGLN.out]; simp; omega)
      have hb11 : Below wr.heap.size wr w11 := (HB8.out.trans (HB10.out.mono HB8.out.size)).grown hgr (by have := HB8.out.size; have := HB10.out.size; omega) fun j hj => by
       have := (HG10.out.own.lt j hj).1; omega
      have HB11 := Bx.mk hb11;have HGS := Bx.mk hgxs;have HGL11 := Bx.mk (fun j => hgo11.lt (k := j));obtain ⟨va, vc, rfl, -⟩ := hgo11.own.rd.form;obtain ⟨N1, hN1l⟩ : ∃ n, n = (g' ++ [(⟨Lx, s9⟩ : Lv)]).length := ⟨_, rfl⟩
      rw [<- hN1l] at hprn HGL11 |-;clear hN1l;clear hgr hvx9 hlp hs9 hgb hgo11 hgb11 hgxs hvl1 hpg hb11 hapd hm1 hm2 hbz;go_wp2_with fail
      go_at_call 51;refine hprn.mono ?_;rintro e w12 ⟨v12, g12, rfl, hgo12, hgx12, hfr12, -, hnj⟩;clear hprn;have HNI12 := Bx.mk (hnj w.heap.size (by have := HB11.out.size; have := HBR.out; omega) HNI.out);have hb12 : Below wr.heap.size w11 w12 := hfr12.below (fun j hj => (HGL11.out j hj).1) (by have := HB11.out.size; omega);have HB12 := Bx.mk (show Below w.heap.size w w12 from HBW.out.trans ((HB11.out.trans hb12).mono HBR.out));have HG12 := Bx.mk (hgo12.mono HBR.out);have HX12 := Bx.mk (show gxs g12 = R.1 by rw [hgx12, HGS.out, HRF.out, HVX.out]);obtain ⟨xa, xc, rfl, -⟩ := hgo12.own.rd.form;clear hgo12 hgx12 hfr12 hb12 hnj;go_wp2_with fail
      go_ret2;exact ⟨_, g12, by rw [HRF.out]; rfl, HG12.out, HX12.out, HB12.out, HNI12.out⟩
theorem genter_any (w : World) (v pv : Value) (g : List Lv) (ps : List B) (h : GQ w v g) (hp : Rd w encS pv ps) (hn : g.length <= 90000) (hln : ∀ L ∈ g, L.vs.length <= 100000) (hex : ∀ L ∈ g, (allJ (vxs L.vs) L.vs.length).length + ps.length <= 100000) (hpl : ps.length <= 100000) (hpx : ∀ p ∈ ps, p.length <= 1000000) (cnt : Bool) :
  Calls Tryz.prog 23 #[v, pv, .bool cnt] w fun e w' => GrP w (genterP (gxs g) ps cnt) e w' :=
 (genter_nj w v pv g ps h hp hn hln hex hpl hpx cnt).mono fun e w' hh => GrI.p hh
theorem TabP.fr {w w' : World} {S : Nat -> Prop} {ms : List (B × B)} {bm : Nat} {f : B -> Option Sg} (h : TabP w ms bm f) (hf : Fr S w w') (hb : ¬ S bm) (hs : ∀ p s, f p = some s -> ∀ b, s.val.ownBlock = some b -> ¬ S b) : TabP w' ms bm f := by
 refine ⟨h.has_, fun p s hp => ?_, ?_⟩
 ·have h1 := h.rd p s hp;have h2 : RdIn w (fun b => s.val.ownBlock = some b) encS s.val (subL ms p) := ⟨h1.1, fun k hk => hk⟩;have h3 := h2.keep hf.size fun k hk hlt => hf.block k hlt (hs p s hp k hk)
  exact ⟨h3.1, fun k hk => h1.2 k hk⟩
 ·obtain ⟨q, h1, h2⟩ := h.mp;exact ⟨q, h1, h2.block (hf.block bm h2.lt hb)⟩
structure MpS (W : World) (Bk : Nat) (v : Value) (g : List Lv) (ms : List (B × B)) (bm qd : Nat) (f : B -> Option Sg) : Prop where
 go : GO W Bk v g
 tab : TabP W ms bm f
 sub : ∀ p s, f p = some s -> ∀ b, s.val.ownBlock = some b -> bm < b
 cell : W.heap[qd]? = some (.cells #[.map (some bm)] 86 (0, 0))
 new : ∀ j, GB v g j -> j < bm
 qn : bm < qd
theorem MpS.at_ {W w : World} {Bk : Nat} {v : Value} {g g2 : List Lv} {ms : List (B × B)} {bm qd : Nat} {f : B -> Option Sg} (h : MpS W Bk v g ms bm qd f) (hs : GStep W Bk v g w g2) :
  TabP w ms bm f /\ w.heap[qd]? = some (.cells #[.map (some bm)] 86 (0, 0)) /\ (∀ p s, f p = some s -> ∀ b, s.val.ownBlock = some b -> ¬ GB v g2 b) /\ ¬ GB v g2 bm /\ ¬ GB v g2 qd := by
 have hq := lt_of_some h.cell;have hqn := h.qn
 have hnew : ∀ j, bm <= j -> j < W.heap.size -> ¬ GB v g2 j := fun j h1 h2 hn => by
  rcases hs.nb j hn with q | q
  ·have := h.new j q; omega
  ·omega
 have hsub : ∀ p s, f p = some s -> ∀ b, s.val.ownBlock = some b -> bm < b /\ b < W.heap.size := fun p s hp b hb => ⟨h.sub p s hp b hb, (h.tab.rd p s hp).1.lt b hb⟩
 have hnG : ∀ j, bm <= j -> ¬ GB v g j := fun j h1 hn => by have := h.new j hn; omega
 refine ⟨TabP.fr h.tab hs.fr (hnG bm (zR _)) fun p s hp b hb => hnG b (by have := (hsub p s hp b hb).1; omega), (hs.fr.block qd hq (hnG qd (by omega))).trans h.cell, fun p s hp b hb => hnew b (by have := (hsub p s hp b hb).1; omega) (hsub p s hp b hb).2, hnew bm (zR _) (by omega), hnew qd (by omega) hq⟩
theorem MpS.look {W w : World} {Bk : Nat} {v : Value} {g g2 : List Lv} {ms : List (B × B)} {bm qd : Nat} {f : B -> Option Sg} (h : MpS W Bk v g ms bm qd f) (hs : GStep W Bk v g w g2) (p : B) (hp : p.length <= 1000000) :
  ∃ va n vc, (p ∈ srcL ms -> RdIn w (fun b => ¬ GB v g2 b) encS (.slice va n vc) (subL ms p)) /\ ∀ w', Below w.heap.size w w' -> (Instr.lookup 86 (.map (some bm)) (.string (bstr p)) false).run Tryz.prog w' = .ok (.slice va n vc) w' := by
 obtain ⟨ht, -, hsb, -, -⟩ := h.at_ hs;obtain ⟨va, n, vc, he, -, -⟩ := ht.look p hp;refine ⟨va, n, vc, fun hm => ?_, fun w' hw => ?_⟩
 ·have h2 := ht.has_ p;rw [zT hm] at h2;obtain ⟨s, hs'⟩ := Option.isSome_iff_exists.1 h2;rw [hs'] at he;have h3 := ht.rd p s hs';rw [<- he];exact ⟨h3.1, fun b hb => hsb p s hs' b hb⟩
 ·obtain ⟨va', n', vc', he', -, hl⟩ := (ht.below hw).look p hp;rw [he] at he';rw [he']; exact hl
theorem ginsert_n (w : World) (Bk gb c N : Nat) (g : List Lv) (hN : g.length = N) (h : GO w Bk (.slice (some ⟨gb, 0, none⟩) N c) g) (k : Nat) (hk : k < g.length) (x : Vt) (hx : VtIn w (fun j => ¬ GB (.slice (some ⟨gb, 0, none⟩) N c) g j) x) (hn : (g[k]).vs.length <= 90000) :
  Calls Tryz.prog 65 #[.pointer (some ⟨gb, k, none⟩), verV x] w fun e w' => (∃ u, e = .returned u) /\ ∃ L', GStep w Bk (.slice (some ⟨gb, 0, none⟩) N c) g w' (g.set k L') /\ L'.vs = insT (g[k]).vs x := by
 subst hN;exact ginsert_any w Bk gb c g h k hk x hx hn
theorem MpS.below {W w' : World} {Bk : Nat} {v : Value} {g : List Lv} {ms : List (B × B)} {bm qd : Nat} {f : B -> Option Sg} (h : MpS W Bk v g ms bm qd f) (hb : Below W.heap.size W w') : MpS w' Bk v g ms bm qd f :=
 ⟨h.go.below hb, TabP.below h.tab hb, h.sub, (hb.block qd (lt_of_some h.cell)).trans h.cell, h.new, h.qn⟩
theorem gmap_nj (w : World) (v lv : Value) (g : List Lv) (ms : List (B × B)) (h : GQ w v g) (hm : Rd w encP lv ms) (hn : g.length <= 90000) (hln : ∀ L ∈ g, L.vs.length <= 40000) (hml : ms.length <= 40000) (hmx : ∀ m ∈ ms, m.1.length <= 1000000 /\ m.2.length <= 1000000) (ok : Bool) :
  Calls Tryz.prog 26 #[v, lv, .bool ok] w fun e w' => GrI w (gmapP (gxs g) ms ok) e w' := by
 have mixed : Tryz.prog.follows .mixedOrders = true := by kernel_rfl
 have hval := gvalid_q w v g h (by omega) (fun L hL => by have := hln L hL; omega);obtain ⟨R, hR⟩ : ∃ R, R = gmapP (gxs g) ms ok := ⟨_, rfl⟩
 rw [<- hR];unfold gmapP at hR;obtain ⟨ad, c, rfl, -⟩ := h.rd.form;obtain ⟨ma, mc, rfl, -⟩ := hm.form;have HQ := Bx.mk h;have HM := Bx.mk hm;have HLN := Bx.mk hln;have HMX := Bx.mk hmx;obtain ⟨N, hN⟩ : ∃ N, N = g.length := ⟨_, rfl⟩
 have HN := Bx.mk hN;obtain ⟨MN, hMN⟩ : ∃ N, N = ms.length := ⟨_, rfl⟩
 have HMN := Bx.mk hMN;obtain ⟨V, hV⟩ : ∃ V, V = gvalidB (gxs g) := ⟨_, rfl⟩
 rw [<- hV] at hval hR;have HV := Bx.mk hV;rw [gxs_len, <- hN] at hR;have HRR := Bx.mk hR;rw [<- hN] at hn hval |-;rw [<- hMN] at hml |-;clear h hm hln hmx hN hMN hV hR;unfold GrI;go_enter Tryz.func26, Tryz.ntmps26;go_wp2_with fail
 go_at_call 15;refine hval.mono ?_;rintro e w1 ⟨rfl, hb1⟩;clear hval
 cases V with
 | false =>
  have HF := Bx.mk (show R = ([], 7) by rw [HRR.out]; rfl);go_wp2_with fail
  go_ret2
  exact ⟨_, [], by rw [HF.out]; rfl, GO.nil _ _, by rw [HF.out]; rfl, hb1, NI.nil _⟩
 | true =>
 rw [Bool.true_and] at HRR;by_cases hN1 : N = 1
 ·have HF := Bx.mk (show R = ([], 7) by rw [HRR.out, zT hN1]; rfl);subst hN1;go_wp2_with fail
  go_ret2;exact ⟨_, [], by rw [HF.out]; rfl, GO.nil _ _, by rw [HF.out]; rfl, hb1, NI.nil _⟩
 have t5 : ((N : Int) == 1) = false := by simp; omega
 rw [zF hN1] at HRR;rcases Nat.eq_zero_or_pos N with e | hN0
 ·have HF := Bx.mk (show R = ([], 0) by rw [HRR.out]; simp [e]);subst e;go_wp2_with fail
  go_ret2;exact ⟨_, [], by rw [HF.out]; rfl, GO.nil _ _, by rw [HF.out]; rfl, hb1, NI.nil _⟩
 have t6 : ((N : Int) == 0) = false := by simp; omega
 have HGL := Bx.mk (HQ.out.gl HV.out.symm (fun L hL => by have := HLN.out L hL; omega));have hN2 : 2 <= N := by omega
 have HRF := Bx.mk (show R = (pruneG ((gxs g).set (N - 1) (gmapL (gxs g) ms ok)), 0) by
  rw [HRR.out];simp only [Bool.not_false, if_true]
  rw [if_neg (by omega)])
 have hcpy := copied_any w1 _ g (HGL.out.below hb1) (by rw [<- HN.out]; omega) (fun L hL => by have := HLN.out L hL; omega);rw [<- HN.out] at hcpy;have HB1 := Bx.mk hb1;clear hb1 hN0 hN1;go_wp2_with fail
 go_at_call 52;refine hcpy.mono ?_;rintro e w3 ⟨v', g', rfl, hgo, hgx, hpd, hb3⟩;have HNI3 := Bx.mk (pd_ni hpd);clear hcpy hpd
 have hln' : g'.length = N := by
  have := congrArg List.length hgx;rw [gxs_len, gxs_len, <- HN.out] at this; exact this
 obtain ⟨va, vc, rfl, -⟩ := hgo.own.rd.form;rw [hln'] at hgo |-;obtain ⟨n, hn1⟩ : ∃ n, n = N - 1 := ⟨_, rfl⟩
 have HNN := Bx.mk hn1;have hng : n < g'.length := by omega
 have hgo2 := hgo;rw [<- hln'] at hgo2;obtain ⟨gb, rfl, -, -⟩ := hgo2.cellL n hng;have HGX := Bx.mk hgx;have HLN' := Bx.mk hln';have HW3 := Bx.mk (show Below w.heap.size w w3 from HB1.out.trans (hb3.mono HB1.out.size));have htab := gtable_any w3 (.slice ma MN mc) ms (by rw [HMN.out]; exact HM.out.below HW3.out) (by rw [<- HMN.out]; omega) HMX.out;have HGO3 := Bx.mk hgo;have HB31 := Bx.mk (show w.heap.size <= w1.heap.size from HB1.out.size);clear hgo hgo2 hgx hln' hng hb3;go_wp2_with fail
 go_at_call 60;refine htab.mono ?_;rintro e w4 ⟨bm, f, rfl, hbm, htb, hb4, hsub⟩;clear htab;obtain ⟨q9, hq9⟩ : ∃ q, q = w4.heap.size := ⟨_, rfl⟩
 obtain ⟨W5, hW5⟩ : ∃ W5, W5 = w4.alloc (.cells #[.map (some bm)] 86) := ⟨_, rfl⟩
 have hb5 : Below w4.heap.size w4 W5 := by rw [hW5]; exact (Below.refl _ _).alloc (zR _) _
 have hbml := htb.mp
 have HST := Bx.mk (show MpS W5 w1.heap.size (.slice (some ⟨gb, 0, none⟩) N vc) g' ms bm q9 f from
  ⟨(HGO3.out.below hb4).below hb5, htb.below hb5, hsub, by rw [hW5, hq9]; exact heap_alloc_new _ _, fun j hj => by have := (HGO3.out.lt hj).2; omega, by
   obtain ⟨q, -, ho⟩ := hbml
   have := ho.lt; omega⟩)
 have HBW5 := Bx.mk (show Below w.heap.size w W5 from HW3.out.trans ((hb4.trans (hb5.mono hb4.size)).mono HW3.out.size));have HQ9 := Bx.mk hq9;have HW5 := Bx.mk hW5;have HZ1 := Bx.mk (show w1.heap.size <= W5.heap.size by have := HGO3.out.lt (k := gb) (.inl rfl); have := hb4.size; have := hb5.size; omega);have hidx : ((N : Int) - 1).toNat = n := by omega
 have hidx2 : N - 1 = n := by omega
 have HNL := Bx.mk (show n < g'.length by rw [HLN'.out]; omega);clear hbm htb hb4 hsub hb5 hbml hn1;go_upto_region 6 with fail
 rw [<- hq9];rw [<- hW5];clear hW5 hq9;go_upto_region 7 with fail
 obtain ⟨gb2, he2, l0, hlfz⟩ := HST.out.go.cellL n HNL.out;simp only [zO, Addr.mk.injEq, and_true] at he2
 subst he2;have hvl := HST.out.go.gl.lv _ (zM HNL.out);have hown := HST.out.go.lv _ (zM HNL.out)
 have hlen : (g'[n]'HNL.out).vs.length <= 40000 := by
  have h1 : ((gxs g')[n]!).length = ((gxs g)[n]!).length := by rw [HGX.out]
  rw [gxs_at g' n HNL.out, gxs_at g n (by rw [<- HN.out]; omega), vxs_len, vxs_len] at h1;rw [h1]; exact HLN.out _ (zM _)
 have HGN := Bx.mk (show (gxs g)[N - 1]! = vxs (g'[n]'HNL.out).vs by rw [<- HGX.out, hidx2, gxs_at g' n HNL.out])
 have HPG := Bx.mk (map_pg HV.out.symm (by rw [gxs_len, <- HN.out]; exact hN2) (fun l hl => by
  obtain ⟨L0, h0, rfl⟩ := List.mem_map.1 hl
  rw [vxs_len]; have := HLN.out L0 h0; omega) ms (by rw [<- HMN.out]; omega) ok)
 obtain ⟨L, hL⟩ : ∃ L, L = g'[n]'HNL.out := ⟨_, rfl⟩
 rw [<- hL] at l0 hvl hown hlen HGN;have HL := Bx.mk hL;obtain ⟨la, lc, hls, -⟩ := hvl.rd.form;have HLS := Bx.mk hls;rw [hls] at l0 hvl hown;obtain ⟨M, hM⟩ : ∃ M, M = L.vs.length := ⟨_, rfl⟩
 have HM' := Bx.mk hM;rw [<- hM] at l0 hvl hown hlen;have HVL := Bx.mk hvl;have HOWN := Bx.mk hown;have L0 := Bx.mk l0;clear hL hls hM hvl hown hlfz
 cases ok with
 | false =>
  have hst := HST.out;obtain ⟨q, hq, hop⟩ := hst.tab.mp;have hgbm : ∀ j, (Value.slice la M lc).ownBlock = some j -> j < bm := fun j hj => hst.new j (.inr ⟨_, zM HNL.out, by rw [<- HL.out, HLS.out, <- HM'.out]; exact hj⟩)
  have hdel := gdelV_any W5 w1.heap.size (.slice la M lc) L.vs HOWN.out (fun x hx => HVL.out.at_ x hx) (by rw [<- HM'.out]; omega) q9 bm q f hop (by rw [cell_of_row _ _ _ _ _ _ hst.cell]; rfl) (lt_of_some hst.cell) (fun e => by have := hgbm q9 e; have := hst.qn; omega) (fun e => by have := hgbm bm e; omega)
  have HLX := Bx.mk (show ∀ l : List Vt, vxs (l.filter fun x => !(f x.n.pol).isSome) = (vxs l).filter fun v => !decide (v.pol ∈ srcL ms) from fun l => by
   unfold vxs;rw [List.filter_map];congr 1
   apply List.filter_congr
   intro x _;simp only [Function.comp_apply]
   rw [hst.tab.has_])
  clear hst hop hgbm;go_wp2_with fail
  go_at_call 61;refine hdel.mono ?_;rintro e w6 ⟨v6, rfl, hvb, hvo, hvg⟩;clear hdel;obtain ⟨a6, c6, rfl, -⟩ := hvo.rd.form;obtain ⟨n6, hn6⟩ : ∃ n6, n6 = (L.vs.filter fun x => !(f x.n.pol).isSome).length := ⟨_, rfl⟩
  rw [<- hn6] at hvo hvb |-;clear hn6;have hlv : (g'[n]'HNL.out).s.val.ownBlock = (Value.slice la M lc).ownBlock := by rw [<- HL.out, HLS.out, <- HM'.out]
  have hst6 := HST.out.go.setL2 n HNL.out (by rw [hlv]; exact hvg) ⟨L.vs.filter fun x => !(f x.n.pol).isSome, ⟨a6, n6, c6⟩⟩ hvo (fun j hj => by rw [hlv, <- hvb]; exact .inl hj) (fun y hy => HST.out.go.nm _ (zM HNL.out) y (by rw [<- HL.out]; exact (List.mem_filter.1 hy).1));obtain ⟨gb', cap', hv', hl', hfz, hcl, hgs⟩ := hst6;simp only [Value.slice.injEq, zO, Addr.mk.injEq, and_true] at hv'
  obtain ⟨rfl, -, -⟩ := hv';rw [<- HL.out, HLS.out, <- HM'.out] at hcl;simp only [Sl.val] at hgs
  have z1 := hfz n;obtain ⟨W7, hW7⟩ : ∃ W7, W7 = w6.setCell ⟨gb, n, none⟩ (.slice a6 n6 c6) := ⟨_, rfl⟩
  rw [<- hW7] at hgs;have HGS := Bx.mk hgs
  have hgx7 : gxs (g'.set n ⟨L.vs.filter fun x => !(f x.n.pol).isSome, ⟨a6, n6, c6⟩⟩) = (gxs g).set (N - 1) (gmapL (gxs g) ms false) := by
   have e1 : gxs (g'.set n ⟨L.vs.filter fun x => !(f x.n.pol).isSome, ⟨a6, n6, c6⟩⟩) = (gxs g').set n (vxs (L.vs.filter fun x => !(f x.n.pol).isSome)) := List.map_set;rw [e1, HGX.out, HLX.out, hidx2];unfold gmapL;rw [gxs_len, <- HN.out, HGN.out]; rfl
  have hprn := prune_nj W7 w1.heap.size (.slice (some ⟨gb, 0, none⟩) N vc) _ hgs.go (by rw [hgx7]; have := HPG.out; rw [gxs_len, <- HN.out] at this; exact this) (by rw [zL, HLN'.out]; omega);have HNI := Bx.mk (show NI w1.heap.size (g'.set n ⟨L.vs.filter fun x => !(f x.n.pol).isSome, ⟨a6, n6, c6⟩⟩) from HNI3.out.set n fun x hx kb hkb => HNI3.out _ (zM HNL.out) x (by rw [<- HL.out]; exact (List.mem_filter.1 hx).1) kb hkb);have HGX7 := Bx.mk hgx7;have HW7 := Bx.mk hW7;clear hvb hvo hvg hlv hfz hgs hgx7 hl' hW7 l0;go_wp2_with fail
  rw [<- HW7.out];go_at_call 51;refine hprn.mono ?_;rintro e w12 ⟨v12, g12, rfl, hgo12, hgx12, hfr12, -, hnj⟩;clear hprn;have HNI12 := Bx.mk (hnj w.heap.size (by have := HGS.out.fr.size; have := HZ1.out; have := HB31.out; omega) (HNI.out.mono HB31.out));have hb12 : Below w1.heap.size W7 w12 := hfr12.below (fun j hj => (HGS.out.go.lt hj).1) (by have := HGS.out.fr.size; have := HZ1.out; omega);have HB12 := Bx.mk (show Below w.heap.size w w12 from (HBW5.out.trans ((HGS.out.bel HST.out.go HZ1.out).mono HB31.out)).trans (hb12.mono HB31.out));have HG12 := Bx.mk (hgo12.mono HB31.out);have HX12 := Bx.mk (show gxs g12 = R.1 by rw [hgx12, HGX7.out, HRF.out]);obtain ⟨xa, xc, rfl, -⟩ := hgo12.own.rd.form;clear hgo12 hgx12 hfr12 hb12 hnj;go_wp2_with fail
  go_ret2
  exact ⟨_, g12, by rw [HRF.out]; rfl, HG12.out, HX12.out, HB12.out, HNI12.out⟩
 | true =>
  obtain ⟨m, hm1⟩ : ∃ m, m = N - 2 := ⟨_, rfl⟩
  have HMM := Bx.mk hm1;have HML := Bx.mk (show m < g'.length by rw [HLN'.out]; omega);have hidx3 : ((N : Int) - 2).toNat = m := by omega
  obtain ⟨gb3, he3, a0, -⟩ := HST.out.go.cellL m HML.out;simp only [zO, Addr.mk.injEq, and_true] at he3
  subst he3;have hvla := HST.out.go.gl.lv _ (zM HML.out);have HGA := Bx.mk (show (gxs g)[N - 2]! = vxs (g'[m]'HML.out).vs by rw [<- HGX.out, <- HMM.out, gxs_at g' m HML.out])
  have hlena : (g'[m]'HML.out).vs.length <= 40000 := by
   have h1 : ((gxs g')[m]!).length = ((gxs g)[m]!).length := by rw [HGX.out]
   rw [gxs_at g' m HML.out, gxs_at g m (by rw [<- HN.out]; omega), vxs_len, vxs_len] at h1;rw [h1]; exact HLN.out _ (zM _)
  obtain ⟨LA, hLA⟩ : ∃ L, L = g'[m]'HML.out := ⟨_, rfl⟩
  rw [<- hLA] at a0 hvla HGA hlena;obtain ⟨aa, ac, has, -⟩ := hvla.rd.form;rw [has] at a0 hvla;have hf1 : ∀ e : Ext W5, Calls Tryz.prog 50 #[.agg #[.slice la M lc], .string (bstr anyP)] e.out (fun r w' => r = .returned (.int .i64 (fndP (vxs L.vs) anyP)) /\ Below e.out.heap.size e.out w') := fun e => find_any e.out _ L.vs (HVL.out.below e.bel) (by rw [<- HM'.out]; omega) anyP
  have hf2 : ∀ e : Ext W5, Calls Tryz.prog 50 #[.agg #[.slice aa LA.vs.length ac], .string (bstr anyP)] e.out (fun r w' => r = .returned (.int .i64 (fndP (vxs LA.vs) anyP)) /\ Below e.out.heap.size e.out w') := fun e => find_any e.out _ LA.vs (hvla.below e.bel) (by omega) anyP
  rw [anyP_str] at hf1 hf2;obtain ⟨AN, hAN⟩ : ∃ AN, AN = LA.vs.length := ⟨_, rfl⟩
  rw [<- hAN] at a0 hf2 hlena;obtain ⟨ST, hSTr⟩ : ∃ ST, ST = fndP (vxs L.vs) anyP := ⟨_, rfl⟩
  obtain ⟨AB, hAB⟩ : ∃ AB, AB = fndP (vxs LA.vs) anyP := ⟨_, rfl⟩
  rw [<- hSTr] at hf1;rw [<- hAB] at hf2;have HSTR := Bx.mk hSTr;have HABR := Bx.mk hAB
  have HABB := Bx.mk (show -1 <= AB /\ AB <= 40000 by
   rw [hAB];rcases Int.lt_or_le (fndP (vxs LA.vs) anyP) 0 with q | q
   ·have : fndP (vxs LA.vs) anyP = -1 := idxG_no (idxG_neg q);omega
   ·have := fndP_lt q
    rw [vxs_len] at this; omega)
  have c1 : ∀ e : Ext W5, e.out.cell? ⟨gb, n, none⟩ = some (.slice la M lc) := fun e => (e.bel.cell (p := ⟨gb, n, none⟩) (World.block_lt_of_cell? W5 _ L0.out)).trans L0.out
  have c2 : ∀ e : Ext W5, e.out.cell? ⟨gb, m, none⟩ = some (.slice aa AN ac) := fun e => (e.bel.cell (p := ⟨gb, m, none⟩) (World.block_lt_of_cell? W5 _ a0)).trans a0
  clear hLA hvla has hAN hSTr hAB a0 l0 hm1;go_wp2_with fail
  refine wp_region_self (by kernel_rfl) (by kernel_rfl) ?_
  repeat (go_big_quiet_step ((go_at_call 50; first | exact ext_of (hf1 _) | exact ext_of (hf2 _))))
  refine wpQuiet_nil ?_;rintro _ ⟨e1, rfl⟩;have HE1 := Bx.mk e1.bel;obtain ⟨W6, hW6⟩ : ∃ W6, W6 = e1.out := ⟨_, rfl⟩
  rw [<- hW6] at HE1 |-;clear hf1 hf2 c1 c2 hW6 hidx3;have HS6 := Bx.mk (HST.out.below HE1.out);have hs6 := HS6.out;obtain ⟨q, hq, hop⟩ := hs6.tab.mp;have hsk := sortedT bm q f W6 hop (by omega) (srcL ms) (setB_asc _) (fun p => by rw [hs6.tab.has_, decide_eq_true_eq]);have hkk := keysT (some bm) W6;have k9 : W6.cell? ⟨q9, 0, none⟩ = some (.map (some bm)) := by rw [cell_of_row _ _ _ _ _ _ hs6.cell]; rfl
  obtain ⟨kb, hkb⟩ : ∃ kb, kb = W6.heap.size := ⟨_, rfl⟩
  obtain ⟨WK, hWK⟩ : ∃ W, W = W6.alloc (.cells #[.map (some bm)] 86) := ⟨_, rfl⟩
  have HBK := Bx.mk (show Below W6.heap.size W6 WK by rw [hWK]; exact (Below.refl _ _).alloc (zR _) _);have HKB := Bx.mk hkb;rw [<- hWK, <- hkb] at hsk hkk;obtain ⟨S, hS⟩ : ∃ S, S = srcL ms := ⟨_, rfl⟩
  have HS := Bx.mk hS;rw [<- hS] at hsk;clear hop hq hkb hWK hS hs6;go_wp2_with fail
  go_at_call 64;refine hkk.mono ?_;rintro e w6 ⟨rfl, rfl⟩;clear hkk k9;go_wp2_with fail
  go_at_call 63;refine hsk.mono ?_;rintro e w7 ⟨sv, rfl, ho7, hb7⟩;obtain ⟨sa, sc, rfl, -⟩ := ho7.rd.form;have HB7 := Bx.mk (show Below W6.heap.size W6 w7 from HBK.out.trans (hb7.mono (by have := HKB.out; omega)));have hsl := srcL_len ms;rw [<- HMN.out, <- HS.out] at hsl
  have HSX := Bx.mk (show ∀ p ∈ S, p.length <= 1000000 /\ p ∈ srcL ms from fun p hp => by
   rw [HS.out] at hp;refine ⟨?_, hp⟩;unfold srcL at hp;rw [setB_mem, List.mem_map] at hp;obtain ⟨m, hm, rfl⟩ := hp
   exact (HMX.out m (List.mem_filter.1 hm).1).1)
  have HFEW := Bx.mk (show ∀ p, Few (subL ms p) from fun p => by
   unfold subL;refine ⟨?_, fun b hb => ?_⟩
   ·have h1 := setB_length ((ms.filter fun m => decide (m.1 = p) && okM m).map (·.2));have h2 := List.length_filter_le (fun m => decide (m.1 = p) && okM m) ms;rw [List.length_map] at h1;have := HMN.out; omega
   ·rw [setB_mem, List.mem_map] at hb;obtain ⟨m, hm, rfl⟩ := hb
    exact (HMX.out m (List.mem_filter.1 hm).1).2)
  have HSC := Bx.mk (show ∀ k (hk : k < S.length), ∃ b, sa = some ⟨b, 0, none⟩ /\ W6.heap.size < b /\ w7.cell? ⟨b, k, none⟩ = some (.string (bstr S[k])) from fun k hk => by
   rcases ho7.2 with ⟨h0, hn0⟩ | ⟨g0, cap, cur, hv, hB, -⟩
   ·exact absurd hn0 (by omega)
   ·simp only [Value.slice.injEq] at hv
    obtain ⟨rfl, -, rfl⟩ := hv;have h1 := ho7.cell encS_ok k hk 0 (by omega) _ rfl;rw [Nat.mul_one, Nat.add_zero] at h1
    exact ⟨g0, rfl, by have := HKB.out; omega, h1⟩)
  obtain ⟨SN, hSN⟩ : ∃ n, n = S.length := ⟨_, rfl⟩
  have HSN := Bx.mk hSN;rw [<- hSN] at ho7 hsl |-;have HS7 := Bx.mk (HS6.out.below HB7.out);have HBW7 := Bx.mk (show Below W5.heap.size W5 w7 from HE1.out.trans (HB7.out.mono HE1.out.size));clear hsk ho7 hb7 hSN;go_wp2_with fail
  go_loopw [64] (fun i wr => ∃ (k : Nat) (gr : List Lv), k <= SN /\ i = .int .i64 k /\ Bx (GStep w7 w1.heap.size (.slice (some ⟨gb, 0, none⟩) N vc) g' wr gr) /\ Bx (gxs gr = (gxs g).set n (mapL ms ST AB (vxs L.vs) (S.take k))) /\ Bx (NI w1.heap.size gr)) (fun i _ => SN - (intOf i).toNat)
  case atStart =>
   refine ⟨0, g', by omega, rfl, ⟨GStep.refl HS7.out.go⟩, ⟨?_⟩, HNI3⟩;rw [HGX.out];apply List.ext_getElem
   ·simp
   ·intro i h1 h2;rw [List.getElem_set];split
    ·rename_i e
     subst e;have := HGN.out;rw [hidx2, getElem!_pos _ n h1] at this;rw [this]; rfl
    ·rfl
  case round =>
   obtain ⟨k, gr, hk, rfl, hS', hX, hJ⟩ := hrel
   have hgl : gr.length = N := by
    have h1 := congrArg List.length hX.out;rw [gxs_len, zL, gxs_len, <- HN.out] at h1; exact h1
   have HGRL := Bx.mk hgl;have HNR := Bx.mk (show n < gr.length by rw [hgl]; omega);clear hgl
   have HVR := Bx.mk (show vxs (gr[n]'HNR.out).vs = mapL ms ST AB (vxs L.vs) (S.take k) by
    have h1 : (gxs gr)[n]! = ((gxs g).set n (mapL ms ST AB (vxs L.vs) (S.take k)))[n]! := (by rw [hX.out]);rw [gxs_at gr n HNR.out, getElem!_pos _ n (by rw [zL, gxs_len, <- HN.out]; omega), List.getElem_set_self] at h1
    exact h1)
   have hlr : (gr[n]'HNR.out).vs.length <= M + k := by
    have h1 := mapL_len ms ST AB (S.take k) (vxs L.vs);rw [<- HVR.out, vxs_len, vxs_len, <- HM'.out, List.length_take] at h1;omega
   have hgor := hS'.out.go;obtain ⟨gb3, he3, l1, hfz1⟩ := hgor.cellL n HNR.out;simp only [zO, Addr.mk.injEq, and_true] at he3
   subst he3;have hvl1 := hgor.gl.lv _ (zM HNR.out);obtain ⟨Lr, hLr⟩ : ∃ L, L = gr[n]'HNR.out := ⟨_, rfl⟩
   rw [<- hLr] at l1 hvl1 hlr HVR;have HLR := Bx.mk hLr;obtain ⟨ra, rc, hrs, -⟩ := hvl1.rd.form;have HRS := Bx.mk hrs;rw [hrs] at l1 hvl1;obtain ⟨RN, hRN⟩ : ∃ M, M = Lr.vs.length := ⟨_, rfl⟩
   have HRN := Bx.mk hRN;rw [<- hRN] at l1 hlr;have HV1 := Bx.mk hvl1;clear hLr hvl1 hrs hRN hgor hfz1;by_cases hlt : k < SN
   ·have hkl : k < S.length := by rw [<- HSN.out]; exact hlt
    obtain ⟨b, rfl, hbK, cx0⟩ := HSC.out k hkl
    have cx : wr.cell? ⟨b, k, none⟩ = some (.string (bstr S[k])) := by
     have h1 := hS'.out.fr.block b (World.block_lt_of_cell? w7 _ cx0) (fun hn => by
      have h2 := HS7.out.new b hn;have h3 := HS7.out.qn;have h4 := lt_of_some HS6.out.cell
      omega)
     unfold World.cell? at cx0 |-;rw [h1]; exact cx0
    have HTK := Bx.mk (show S.take (k + 1) = S.take k ++ [S[k]] from zA hkl);obtain ⟨hpl, hpm⟩ := HSX.out S[k] (zM hkl);obtain ⟨p, hp⟩ : ∃ p, p = S[k]'hkl := ⟨_, rfl⟩
    rw [<- hp] at cx hpl hpm HTK;obtain ⟨va, vn, uc, hvr, hlook⟩ := HS7.out.look hS'.out p hpl;have HRD := Bx.mk (hvr hpm);have HLOOK := Bx.mk hlook;have HPL := Bx.mk hpl;have HPM := Bx.mk hpm;have hfd := find_any wr (.slice ra RN rc) Lr.vs (by rw [HRN.out]; exact HV1.out) (by rw [<- HRN.out]; omega) p;have HMS := Bx.mk (show mapL ms ST AB (vxs L.vs) (S.take (k + 1)) = mapS ms ST AB (vxs Lr.vs) p by rw [HTK.out, mapL_snoc, HVR.out]);obtain ⟨FI, hFI⟩ : ∃ F, F = fndP (vxs Lr.vs) p := ⟨_, rfl⟩
    rw [<- hFI] at hfd;have HFI := Bx.mk hFI;have HL1 := Bx.mk l1;have hcell9 := (HS7.out.at_ hS'.out).2.1;have HC9 := Bx.mk hcell9;clear hp hpl hpm hvr hlook hFI cx0 hbK hkl hcell9;go_wp2_with fail
    go_at_call 50;refine hfd.mono ?_;rintro e w8 ⟨rfl, hb8⟩;have HB8 := Bx.mk hb8;clear hfd l1 cx hb8;by_cases hfi : 0 <= FI
    ·obtain ⟨i, hi, hie, -, -⟩ := fndP_some (show 0 <= fndP (vxs Lr.vs) p by rw [<- HFI.out]; exact hfi);rw [vxs_len, <- HRN.out] at hi;rw [<- HFI.out] at hie;subst hie;have tf : decide ((i : Int) >= 0) = true := zT (by omega);have HIL := Bx.mk (show i < Lr.vs.length by rw [<- HRN.out]; exact hi);obtain ⟨y, hy⟩ : ∃ y, y = Lr.vs[i]'HIL.out := ⟨_, rfl⟩
     have HY := Bx.mk hy;have hyn := hS'.out.go.nm _ (zM HNR.out) y (by rw [<- HLR.out, hy]; exact zM HIL.out);obtain ⟨x', hx'⟩ : ∃ x' : Vt, x' = ⟨⟨y.n.pol, subL ms p, y.n.par⟩, ⟨va, vn, uc⟩, y.q⟩ := ⟨_, rfl⟩
     have HX' := Bx.mk hx'
     have HXN := Bx.mk (show VtIn wr (fun j => ¬ GB (.slice (some ⟨gb, 0, none⟩) N vc) gr j) x' by
      rw [hx']; exact ⟨HRD.out, hyn.2.1, HFEW.out p, hyn.2.2.2.1, hyn.2.2.2.2⟩)
     have HM3 := Bx.mk (show mapS ms ST AB (vxs Lr.vs) p = vxs (Lr.vs.set i x') by
      unfold mapS;rw [<- HFI.out, if_pos (by omega), Int.toNat_natCast, vxs_at Lr.vs i HIL.out, <- hy, hx']
      simp [vxs, List.map_set])
     have HIR := Bx.mk (show ∀ (h : n < gr.length), i < (gr[n]).vs.length from fun h => by rw [<- HLR.out]; exact HIL.out)
     have HENC := Bx.mk (show ∀ (h : n < gr.length) (h' : i < (gr[n]).vs.length), encV x' = (encV ((gr[n]).vs[i])).set 1 (.slice va vn uc) from fun h h' => by
      have e : (gr[n]).vs[i] = y := by rw [hy]; congr 1; rw [<- HLR.out]
      rw [e, hx']; rfl)
     obtain ⟨nb, cap0, hv0, -⟩ := hS'.out.go.setV n HNR.out i (HIR.out HNR.out) 1 (by omega) (.slice va vn uc) x' (HENC.out HNR.out (HIR.out HNR.out)) HXN.out;rw [<- HLR.out, HRS.out] at hv0;simp only [Value.slice.injEq] at hv0
     obtain ⟨rfl, -, -⟩ := hv0;have l1e : ∀ e : Ext w8, e.out.cell? ⟨gb, n, none⟩ = some (.slice (some ⟨nb, 0, none⟩) RN rc) := fun e => ((HB8.out.trans (e.bel.mono HB8.out.size)).cell (p := ⟨gb, n, none⟩) (World.block_lt_of_cell? wr _ HL1.out)).trans HL1.out
     have k9e : ∀ e : Ext w8, e.out.cell? ⟨q9, 0, none⟩ = some (.map (some bm)) := fun e => by rw [cell_of_row _ _ _ _ _ _ (((HB8.out.trans (e.bel.mono HB8.out.size)).block q9 (lt_of_some HC9.out)).trans HC9.out)]; rfl
     have lke : ∀ e : Ext w8, (Instr.lookup 86 (.map (some bm)) (.string (bstr p)) false).run Tryz.prog e.out = .ok (.slice va vn uc) e.out := fun e => HLOOK.out e.out (HB8.out.trans (e.bel.mono HB8.out.size))
     clear hy hx' hyn;go_wp2_with fail
     refine wp_region_ext_tail 10 (Ext.self w8) (by kernel_rfl) (by kernel_rfl) rfl rfl ?_;simp only [List.take_succ_cons, List.take_zero, List.drop_succ_cons, List.drop_zero]
     repeat (go_big_quiet_step (fail))
     refine wpQuiet_nil ?_;rintro _ ⟨e1, rfl⟩;have hbe : Below wr.heap.size wr e1.out := HB8.out.trans (e1.bel.mono HB8.out.size);have hgoe := hS'.out.go.below hbe;obtain ⟨nb', cap', hv', hl', hfz', hgo', hgr'⟩ := hgoe.setV n HNR.out i (HIR.out HNR.out) 1 (by omega) (.slice va vn uc) x' (HENC.out HNR.out (HIR.out HNR.out)) (HXN.out.below hbe);have hown1 := hgoe.lv _ (zM HNR.out);rw [<- HLR.out, HRS.out] at hv' hown1;simp only [Value.slice.injEq, zO, Addr.mk.injEq, and_true] at hv'
     obtain ⟨rfl, -, -⟩ := hv';have c3 := hown1.cell encV_ok i HIL.out 1 (by omega) (Lr.vs[i]'HIL.out).u.val rfl;simp only [Sl.val] at c3
     have z3 := hfz' (i * 3 + 1);have hset : gr.set n ⟨(gr[n]'HNR.out).vs.set i x', (gr[n]'HNR.out).s⟩ = gr.set n ⟨Lr.vs.set i x', Lr.s⟩ := (by rw [<- HLR.out]);rw [hset] at hgo';obtain ⟨W10, hW10⟩ : ∃ W, W = e1.out.setCell ⟨nb, i * 3 + 1, none⟩ (.slice va vn uc) := ⟨_, rfl⟩
     rw [<- hW10] at hgo' hgr';have hnbG : GB (.slice (some ⟨gb, 0, none⟩) N vc) gr nb := .inr ⟨_, zM HNR.out, by rw [<- HLR.out, HRS.out]; rfl⟩
     have HS10 := Bx.mk (show GStep w7 w1.heap.size (.slice (some ⟨gb, 0, none⟩) N vc) g' W10 (gr.set n ⟨Lr.vs.set i x', Lr.s⟩) from
      GStep.trans (hS'.out.below hbe) ⟨hgo', Fr.of_grown hgr' fun r hr => by
       simp only [zO] at hr; subst hr; exact hnbG, fun r hr => by
       rw [<- hset] at hr
       exact .inl ((GB.same HNR.out _).1 hr)⟩)
     have HX10 := Bx.mk (show gxs (gr.set n ⟨Lr.vs.set i x', Lr.s⟩) = (gxs g).set n (mapL ms ST AB (vxs L.vs) (S.take (k + 1))) by
      have e1 : gxs (gr.set n ⟨Lr.vs.set i x', Lr.s⟩) = (gxs gr).set n (vxs (Lr.vs.set i x')) := List.map_set
      rw [e1, hX.out, List.set_set, HMS.out, HM3.out])
     have HJ10 := Bx.mk (show NI w1.heap.size (gr.set n ⟨Lr.vs.set i x', Lr.s⟩) from hJ.out.set n fun z hz kb hkb => by
      rcases List.mem_or_eq_of_mem_set (show z ∈ Lr.vs.set i x' from hz) with q | q
      ·exact hJ.out _ (zM HNR.out) z (by rw [<- HLR.out]; exact q) kb hkb
      ·rw [q, HX'.out] at hkb
       exact hJ.out _ (zM HNR.out) y (by rw [<- HLR.out, HY.out]; exact zM HIL.out) kb hkb)
     have HW10 := Bx.mk hW10;clear hbe hgoe hfz' hgo' hgr' hown1 hset hW10 hnbG l1e k9e lke hl';go_wp2_with fail
     rw [<- HW10.out];go_roundw
     case rel => exact ⟨k + 1, _, by omega, by go_num, HS10, HX10, HJ10⟩
     case measure => simp [intOf]; omega
    ·have tf : decide (FI >= 0) = false := zF hfi;by_cases hst : 0 <= ST
     ·have ts : decide (ST >= 0) = true := zT hst
      have HM2 := Bx.mk (show mapS ms ST AB (vxs Lr.vs) p = insV (vxs Lr.vs) ⟨p, subL ms p, [AB]⟩ by
       unfold mapS; rw [<- HFI.out, if_neg hfi, if_pos hst])
      obtain ⟨q7, hq7⟩ : ∃ q, q = w8.heap.size := ⟨_, rfl⟩
      obtain ⟨W9, hW9⟩ : ∃ W, W = w8.alloc (.cells #[.int .i64 AB] 3) := ⟨_, rfl⟩
      have hb9 : Below w8.heap.size w8 W9 := (by rw [hW9]; exact (Below.refl _ _).alloc (zR _) _);have hbr9 : Below wr.heap.size wr W9 := HB8.out.trans (hb9.mono HB8.out.size)
      have hq : Slc.Own W9 w8.heap.size 3 1 encI (.slice (some ⟨q7, 0, none⟩) 1 1) [AB] := by
       rw [hW9, hq7]; exact own_alloc encI_ok w8 [AB] _ rfl (zR _) (by unfold maxLen; simp)
      have hxv : VtIn W9 (fun j => ¬ GB (.slice (some ⟨gb, 0, none⟩) N vc) gr j) ⟨⟨p, subL ms p, [AB]⟩, ⟨va, vn, uc⟩, ⟨some ⟨q7, 0, none⟩, 1, 1⟩⟩ := by
       refine ⟨RdIn.below HRD.out hbr9, .inr ⟨hq.rd, fun j hj hn => ?_⟩, HFEW.out p, HPL.out, by simp, fun z hz => ?_⟩
       ·have h1 := (hq.lt j hj).1;have h2 := (hS'.out.go.lt hn).2;have := HB8.out.size;omega
       ·simp only [zS] at hz
        subst hz;have := HABB.out; omega
      have hgo9 := hS'.out.go.below hbr9;have hins := ginsert_n W9 w1.heap.size gb vc N gr HGRL.out hgo9 n HNR.out ⟨⟨p, subL ms p, [AB]⟩, ⟨va, vn, uc⟩, ⟨some ⟨q7, 0, none⟩, 1, 1⟩⟩ hxv (by rw [<- HLR.out, <- HRN.out]; omega);unfold verV at hins;simp only [Sl.val] at hins
      rw [<- HLR.out] at hins;have HBR9 := Bx.mk hbr9;have lk := HLOOK.out w8 HB8.out;have k9 : w8.cell? ⟨q9, 0, none⟩ = some (.map (some bm)) := (by rw [cell_of_row _ _ _ _ _ _ ((HB8.out.block q9 (lt_of_some HC9.out)).trans HC9.out)]; rfl);have HQ7N := Bx.mk (show w1.heap.size <= q7 by rw [hq7]; have := HZ1.out; have := HBW7.out.size; have := hS'.out.fr.size; have := HB8.out.size; omega);clear hb9 hbr9 hq hxv hgo9;go_wp2_with fail
      rw [<- hq7, <- hW9];clear hq7 hW9 lk k9;go_at_call 65;refine hins.mono ?_;rintro e w10 ⟨⟨u, rfl⟩, L', hs10, hl10⟩;have HS10 := Bx.mk ((hS'.out.below HBR9.out).trans hs10)
      have HX10 := Bx.mk (show gxs (gr.set n L') = (gxs g).set n (mapL ms ST AB (vxs L.vs) (S.take (k + 1))) by
       have e1 : gxs (gr.set n L') = (gxs gr).set n (vxs L'.vs) := List.map_set
       rw [e1, hX.out, List.set_set, HMS.out, HM2.out, hl10, insT_vxs])
      have HJ10 := Bx.mk (show NI w1.heap.size (gr.set n L') from hJ.out.set n fun z hz kb hkb => by
       rw [hl10] at hz;unfold insT at hz;have hold : z ∈ Lr.vs -> w1.heap.size <= kb := fun q => hJ.out _ (zM HNR.out) z (by rw [<- HLR.out]; exact q) kb hkb
       rcases List.mem_append.1 hz with q | q
       ·exact hold (List.mem_of_mem_take q)
       ·rcases List.mem_cons.1 q with q | q
        ·subst q;have hkb' : some q7 = some kb := hkb;simp only [zO] at hkb'
         rw [<- hkb']; exact HQ7N.out
        ·exact hold (List.mem_of_mem_drop q))
      clear hins hs10 hl10;go_wp2_with fail
      go_roundw
      case rel => exact ⟨k + 1, _, by omega, by go_num, HS10, HX10, HJ10⟩
      case measure => simp [intOf]; omega
     ·have ts : decide (ST >= 0) = false := zF hst
      have HX2 := Bx.mk (show gxs gr = (gxs g).set n (mapL ms ST AB (vxs L.vs) (S.take (k + 1))) by
       rw [HMS.out];unfold mapS
       rw [<- HFI.out, if_neg hfi, if_neg hst, HVR.out]; exact hX.out)
      have HS2 := Bx.mk (hS'.out.below HB8.out);go_wp2_with fail
      go_roundw
      case rel => exact ⟨k + 1, gr, by omega, by go_num, HS2, HX2, hJ⟩
      case measure => simp [intOf]; omega
   ·obtain rfl : k = SN := by omega
    have hgx7 : gxs gr = (gxs g).set (N - 1) (gmapL (gxs g) ms true) := by
     rw [hX.out, hidx2];unfold gmapL;rw [gxs_len, <- HN.out, HGN.out, HGA.out, <- HSTR.out, <- HABR.out, <- HS.out, HSN.out, List.take_length]; rfl
    have hprn := prune_nj wr w1.heap.size (.slice (some ⟨gb, 0, none⟩) N vc) gr hS'.out.go (by rw [hgx7]; have := HPG.out; rw [gxs_len, <- HN.out] at this; exact this) (by rw [HGRL.out]; omega);have HGX7 := Bx.mk hgx7;clear hgx7;go_wp2_with fail
    go_at_call 51;refine hprn.mono ?_;rintro e w12 ⟨v12, g12, rfl, hgo12, hgx12, hfr12, -, hnj⟩;clear hprn;have HNI12 := Bx.mk (hnj w.heap.size (by have := hS'.out.fr.size; have := HBW7.out.size; have := HZ1.out; have := HB31.out; omega) (hJ.out.mono HB31.out));have hz7 : w1.heap.size <= w7.heap.size := (by have := HZ1.out; have := HBW7.out.size; omega);have hb12 : Below w1.heap.size wr w12 := hfr12.below (fun j hj => (hS'.out.go.lt hj).1) (by have := hS'.out.fr.size; omega);have HB12 := Bx.mk (show Below w.heap.size w w12 from (HBW5.out.trans ((HBW7.out.mono (by have := HBW5.out.size; omega)).trans ((hS'.out.bel HS7.out.go hz7).mono HB31.out))).trans (hb12.mono HB31.out));have HG12 := Bx.mk (hgo12.mono HB31.out);have HX12 := Bx.mk (show gxs g12 = R.1 by rw [hgx12, HGX7.out, HRF.out]);obtain ⟨xa, xc, rfl, -⟩ := hgo12.own.rd.form;clear hgo12 hgx12 hfr12 hb12 hnj;go_wp2_with fail
    go_ret2;exact ⟨_, g12, by rw [HRF.out]; rfl, HG12.out, HX12.out, HB12.out, HNI12.out⟩
theorem gmap_any (w : World) (v lv : Value) (g : List Lv) (ms : List (B × B)) (h : GQ w v g) (hm : Rd w encP lv ms) (hn : g.length <= 90000) (hln : ∀ L ∈ g, L.vs.length <= 40000) (hml : ms.length <= 40000) (hmx : ∀ m ∈ ms, m.1.length <= 1000000 /\ m.2.length <= 1000000) (ok : Bool) :
  Calls Tryz.prog 26 #[v, lv, .bool ok] w fun e w' => GrP w (gmapP (gxs g) ms ok) e w' :=
 (gmap_nj w v lv g ms h hm hn hln hml hmx ok).mono fun e w' hh => GrI.p hh
end Go.Proofs.YtmagjdocondmhaaGreat.Tr.Gr
