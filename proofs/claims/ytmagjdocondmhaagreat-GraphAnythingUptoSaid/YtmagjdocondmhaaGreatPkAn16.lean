/- packed -/
import Derived.Test.YtmagjdocondmhaaGreatPkAn15
set_option linter.unusedVariables false
set_option linter.unusedSimpArgs false
set_option maxRecDepth 100000
set_option maxHeartbeats 64000000
namespace Go.Proofs.YtmagjdocondmhaaGreat.Tr.Gr
open Go Go.RowKit Slc St Mp Tr Rg
attribute [local go_sem] Oper.semAt_some
structure LO (w : World) (Bk : Nat) (v : Value) (l : List Vt) : Prop where
 own : Slc.Own w Bk 65 3 encV v l
 ov : ∀ x ∈ l, OV w Bk x /\ Vx.Ok x.n
theorem LO.nil (w : World) (Bk : Nat) : LO w Bk (.slice none 0 0) [] := ⟨Slc.Own.nil _ _, fun x hx => by cases hx⟩
theorem LO.below {w w' : World} {Bk : Nat} {v : Value} {l : List Vt} (h : LO w Bk v l) (hb : Below w.heap.size w w') : LO w' Bk v l := ⟨h.own.below hb, fun x hx => ⟨(h.ov x hx).1.below hb, (h.ov x hx).2⟩⟩
theorem LO.vl {w : World} {Bk : Nat} {v : Value} {l : List Vt} (h : LO w Bk v l) : VL w v l := ⟨h.own.rd, fun x hx => (h.ov x hx).1.vt (S := fun k => k < w.heap.size) (h.ov x hx).2 (fun k hk => ((h.ov x hx).1.1.lt k hk).2) (fun k hk => ((h.ov x hx).1.2.lt k hk).2)⟩
theorem lput_any (w : World) (Bk : Nat) (v : Value) (l : List Vt) (n : Vx) (u q : Sl) (h : LO w Bk v l) (hB : Bk <= w.heap.size) (hu : Slc.Own w Bk 9 1 encS u.val n.ex) (hq : Slc.Own w Bk 3 1 encI q.val n.par) (hok : Vx.Ok n) (hn : l.length <= 100000) (hs : OrdP (vxs l)) (hno : ∀ y ∈ vxs l, y.pol ≠ n.pol) :
  Calls Tryz.prog 57 #[v, .agg #[.string (bstr n.pol), .slice u.ad u.n u.c, .slice q.ad q.n q.c]] w fun e w' => ∃ v' l', e = .returned v' /\ LO w' Bk v' l' /\ vxs l' = insV (vxs l) n /\ Below w.heap.size w w' := by
 have hov : OV w Bk ⟨n, u, q⟩ := ⟨hu, hq⟩;have hx : VtAt w ⟨n, u, q⟩ := hov.vt (S := fun k => k < w.heap.size) hok (fun k hk => (hu.lt k hk).2) (fun k hk => (hq.lt k hk).2);refine (rput_any w v l ⟨n, u, q⟩ h.vl hx hn hs hno).mono ?_;rintro e w' ⟨v', rfl, ho, hb⟩;refine ⟨v', _, rfl, ⟨ho.mono hB, fun y hy => ?_⟩, insT_vxs _ _, hb⟩;rcases insT_mem hy with q | rfl
 ·exact ⟨(h.ov y q).1.below hb, (h.ov y q).2⟩
 ·exact ⟨hov.below hb, hok⟩
theorem enA_len (l : List Vx) (ps : List B) (h : Asc ps) : (enA l ps).length <= ps.length := by
 have hg := enA_good l _ ps rfl h
 have h1 : ((enA l ps).map (·.pol)).length <= ps.length := nodup_le _ _ (by
  rw [List.nodup_iff_pairwise_ne, List.pairwise_map];refine hg.1.imp ?_;intro a b hab e;rw [e] at hab
  exact List.lt_irrefl _ hab) fun x hx => by
   obtain ⟨v, hv, rfl⟩ := List.mem_map.1 hx;exact ((hg.2 v).1 hv).1
 rwa [List.length_map] at h1
theorem enB_len (l : List Vx) : ∀ (ps : List B) (a : List Vx), (enB l a ps).length <= a.length + ps.length
 | [], a => by simp [enB]
 | p :: ps, a => by
  have h1 := enB_len l ps (enU l a p)
  have h2 : (enU l a p).length <= a.length + 1 := by
   unfold enU;split
   ·rw [insV_len]; omega
   ·omega
  show (enB l (enU l a p) ps).length <= _
  rw [List.length_cons]; omega
theorem enB_ord (l : List Vx) : ∀ (ps : List B) {a : List Vx}, OrdP a -> OrdP (enB l a ps)
 | [], _, h => h
 | p :: ps, _, h => enB_ord l ps (enU_ord h p)
theorem upF_ok {l : List Vx} {p : B} (hl : l.length <= 100000) (hp : p.length <= 1000000) (ps : List Int) (h : ps = upF l p \/ ps = expL l p) : Vx.Ok ⟨p, [p], ps⟩ := by
 have hx : (expL l p).length <= 100000 := Nat.le_trans (expK_len l p l.length) hl
 have hm : ∀ i ∈ expL l p, 0 <= i /\ i < (l.length : Int) := fun i hi => by
  unfold expL expK at hi;obtain ⟨j, hj, rfl⟩ := List.mem_map.1 hi;have := List.mem_range.1 (List.mem_filter.1 hj).1;omega
 have hu : (upF l p).length <= 100000 /\ ∀ i ∈ upF l p, 0 <= i /\ i < (l.length : Int) := by
  unfold upF;split
  ·rename_i h
   refine ⟨by simp, fun i hi => ?_⟩;rw [zS] at hi;subst hi;exact ⟨h.2, fndP_lt h.2⟩
  ·exact ⟨hx, hm⟩
 refine ⟨⟨by simp, fun b hb => ?_⟩, hp, ?_, fun i hi => ?_⟩
 ·simp only [zS] at hb; subst hb; exact hp
 ·rcases h with rfl | rfl
  ·exact hu.1
  ·exact hx
 ·rcases h with rfl | rfl
  ·have := hu.2 i hi; omega
  ·have := hm i hi; omega
def GrN (w : World) (R : List (List Vx) × Int) (e : Ending) (w' : World) : Prop := ∃ v' g', e = .returned (.tuple #[v', .int .i64 R.2]) /\ GO w' w.heap.size v' g' /\ gxs g' = R.1 /\ Below w.heap.size w w' /\ NQ w.heap.size g'
theorem rgenter_any (w : World) (v pv : Value) (g : List Lv) (ps : List B) (h : GQ w v g) (hp : Rd w encS pv ps) (hn : g.length <= 90000) (hln : ∀ L ∈ g, L.vs.length <= 100000) (hex : ∀ L ∈ g, (allJ (vxs L.vs) L.vs.length).length + ps.length <= 100000) (hpl : ps.length <= 100000) (hpx : ∀ p ∈ ps, p.length <= 1000000) (cnt : Bool) :
  Calls Tryz.prog 24 #[v, pv, .bool cnt] w fun e w' => GrN w (genterP (gxs g) ps cnt) e w' := by
 obtain ⟨ib, hib, hib0, hib1, hib2⟩ := info_parts info_int;obtain ⟨il, hil, hil0, hil1, hil2⟩ := info_parts info_lev;have hval := rgvalid_q w v g h (by omega) hln;obtain ⟨R, hR⟩ : ∃ R, R = genterP (gxs g) ps cnt := ⟨_, rfl⟩
 rw [<- hR];unfold genterP at hR;obtain ⟨ad, c, rfl, -⟩ := h.rd.form;obtain ⟨pa, pc, rfl, -⟩ := hp.form;have HQ := Bx.mk h;have HP := Bx.mk hp;have HLN := Bx.mk hln;have HEX := Bx.mk hex;have HPX := Bx.mk hpx;have HPL := Bx.mk hpl;obtain ⟨N, hN⟩ : ∃ N, N = g.length := ⟨_, rfl⟩
 have HN := Bx.mk hN;obtain ⟨PN, hPN⟩ : ∃ N, N = ps.length := ⟨_, rfl⟩
 have HPN := Bx.mk hPN;obtain ⟨V, hV⟩ : ∃ V, V = gvalidB (gxs g) := ⟨_, rfl⟩
 rw [<- hV] at hval hR;have HV := Bx.mk hV;rw [gxs_len, <- hN] at hR;have HRR := Bx.mk hR;rw [<- hN] at hn hval |-;rw [<- hPN] at hpl |-;clear h hp hln hex hpx hN hPN hV hR;unfold GrN;go_enter Tryz.func24, Tryz.ntmps24;go_wp2_with fail
 go_at_call 16;refine hval.mono ?_;rintro e w1 ⟨rfl, hb1⟩;clear hval
 cases V with
 | false =>
  have HF := Bx.mk (show R = ([], 7) by rw [HRR.out]; rfl);go_wp2_with fail
  go_ret2
  exact ⟨_, [], by rw [HF.out]; rfl, GO.nil _ _, by rw [HF.out]; rfl, hb1, NQ.nil _⟩
 | true =>
 have HGL := Bx.mk (HQ.out.gl HV.out.symm HLN.out);rcases Nat.eq_zero_or_pos N with e | hN1
 ·have HF := Bx.mk (show R = ([], 0) by rw [HRR.out, if_pos rfl, if_pos e]);have t5 : ((N : Int) == 0) = true := by simp; omega
  have e' : (N : Int) = 0 := by omega
  go_wp2_with fail
  go_ret2;exact ⟨_, [], by rw [HF.out]; rfl, GO.nil _ _, by rw [HF.out]; rfl, hb1, NQ.nil _⟩
 ·have t5 : ((N : Int) == 0) = false := by simp; omega
  have HB1 := Bx.mk hb1;have hN1l : N - 1 < g.length := by rw [<- HN.out]; omega
  obtain ⟨b, o, rfl, hbl, hcl⟩ := ls_cells HGL.out.rd |>.2 w1 (fun k hk _ => hb1.block k hk) (N - 1) hN1l;have HPR := Bx.mk (show gvalidB (gxs g) = true from HV.out.symm);have hlq := valid_lq HPR.out (k := N - 1) (by rw [gxs_len]; exact hN1l);rw [gxs_at g (N - 1) hN1l] at hlq
  have HRF := Bx.mk (show R = (pruneG (gxs g ++ [renL (vxs (g[N - 1]).vs) ps cnt]), 0) by
   rw [HRR.out, if_pos rfl, if_neg (by omega), gxs_at g (N - 1) hN1l, renL_eq hlq])
  have HRN := Bx.mk (renL_eq hlq ps cnt);have HVL := Bx.mk (HGL.out.lv _ (zM hN1l));have HLL := Bx.mk (HLN.out _ (zM hN1l));have HEL := Bx.mk (HEX.out _ (zM hN1l));have HLG0 := Bx.mk (show g[N - 1] ∈ g /\ (gxs g)[N - 1]! = vxs (g[N - 1]).vs from ⟨zM hN1l, gxs_at g (N - 1) hN1l⟩);obtain ⟨L, hL⟩ : ∃ L, L = g[N - 1]'hN1l := ⟨_, rfl⟩
  have HLG : Bx (L ∈ g /\ (gxs g)[N - 1]! = vxs L.vs) := ⟨by rw [hL]; exact HLG0.out⟩;clear HLG0 hlq;rw [<- hL] at hcl HRF HVL HLL HEL HRN;have hidx : ((N : Int) - 1).toNat = N - 1 := by omega
  have hcl' : w1.cell? ⟨b, o + ((N : Int) - 1).toNat, none⟩ = some L.s.val := by rw [hidx]; exact hcl
  obtain ⟨la, lc, hls, -⟩ := HVL.out.rd.form;obtain ⟨M, hM⟩ : ∃ M, M = L.vs.length := ⟨_, rfl⟩
  have HM := Bx.mk hM;rw [hls, <- hM] at hcl hcl';rw [hls, <- hM] at HVL;rw [<- hM] at HLL;have hMM := HLL.out;obtain ⟨vx, hvx⟩ : ∃ vx, vx = vxs L.vs := ⟨_, rfl⟩
  have HVX := Bx.mk hvx;rw [<- hvx] at HRF HRN;have HVN := Bx.mk (show vx.length = M by rw [hvx, vxs_len, hM]);have HSA := Bx.mk (show Asc (setB ps) from setB_asc ps);have HSL := Bx.mk (show (setB ps).length <= PN by rw [HPN.out]; exact setB_length ps);have HSM := Bx.mk (show ∀ p ∈ setB ps, p.length <= 1000000 from fun p hp => HPX.out p (setB_mem.1 hp));have HAL := Bx.mk (show (allJ vx M).length + PN <= 100000 by rw [hvx, hM, HPN.out]; exact HEL.out);obtain ⟨S, hS⟩ : ∃ S, S = setB ps := ⟨_, rfl⟩
  have HS := Bx.mk hS;rw [<- hS] at HSA HSL HSM;have hset := rset_any w1 (.slice pa PN pc) ps (by rw [HPN.out]; exact HP.out.below hb1) HPL.out;rw [<- hS] at hset;clear hN1l hL hM hls hb1 hvx hS;go_wp2_with fail
  go_at_call 54;refine hset.mono ?_;rintro e w2 ⟨sv, rfl, hso, hb2⟩;obtain ⟨sa, sc, rfl, -⟩ := hso.rd.form;have HSC := Bx.mk (strs_cells hso.rd).2;have HSO := Bx.mk hso;obtain ⟨SN, hSN⟩ : ∃ SN, SN = S.length := ⟨_, rfl⟩
  have HSN := Bx.mk hSN;rw [<- hSN];have hSNb : SN <= 100000 := by rw [hSN]; have := HSL.out; omega
  have HB2 := Bx.mk (HB1.out.trans (hb2.mono HB1.out.size));have HB20 := Bx.mk (Below.refl w2.heap.size w2);clear hset hso hb2 hSN hcl hcl' hidx t5;go_wp2_with fail
  go_loopw [10, 11] (fun lv iv wr => ∃ (k : Nat) (vs' : List Vt), k <= SN /\ iv = .int .i64 k /\ Bx (LO wr w.heap.size lv vs') /\ Bx (vxs vs' = enA vx (S.take k)) /\ Bx (Below w2.heap.size w2 wr)) (fun _ iv _ => SN - (intOf iv).toNat)
  case atStart => exact ⟨0, [], by omega, rfl, ⟨LO.nil _ _⟩, ⟨by simp [enA]⟩, HB20⟩
  case round =>
   clear HB20;obtain ⟨k, vs', hk, rfl, hO, hX, hB⟩ := hrel;obtain ⟨va, vc, hva, -⟩ := hO.out.own.rd.form;obtain ⟨VN, hVN⟩ : ∃ VN, VN = vs'.length := ⟨_, rfl⟩
   have HVN' := Bx.mk hVN;rw [<- hVN] at hva;subst hva;clear hVN;have HBW := Bx.mk (show Below w.heap.size w wr from HB2.out.trans (hB.out.mono HB2.out.size))
   have HVB := Bx.mk (show vs'.length <= 100000 by
    have h1 := enA_len vx (S.take k) (HSA.out.sublist (List.take_sublist _ _));rw [<- hX.out, vxs_len, List.length_take] at h1;have := HSL.out;have := HAL.out
    omega)
   have hVNb : VN <= 100000 := by rw [HVN'.out]; exact HVB.out
   by_cases hlt : k < SN
   ·have hkl : k < S.length := by rw [<- HSN.out]; exact hlt
    obtain ⟨bs, os, rfl, -, c0⟩ := HSC.out wr hB.out k hkl;have HTK := Bx.mk (enA_take (l := vx) hkl);have HPM := Bx.mk (show S[k].length <= 1000000 from HSM.out _ (zM hkl))
    have HPA := Bx.mk (show OrdP (enA vx (S.take k)) /\ ∀ u, u ∈ enA vx (S.take k) -> u.pol ≠ S[k] from by
     have h1 := enA_good vx _ (S.take k) rfl (HSA.out.sublist (List.take_sublist _ _));refine ⟨h1.1, fun u hu e => ?_⟩;have h2 := ((h1.2 u).1 hu).1;have h3 : Asc (S.take k ++ [S[k]]) := (by rw [<- zA hkl]; exact HSA.out.sublist (List.take_sublist _ _));have h4 := (asc_snoc h3).2 _ h2;rw [e] at h4
     exact List.lt_irrefl _ h4)
    obtain ⟨p, hp⟩ : ∃ p, p = S[k] := ⟨_, rfl⟩
    rw [<- hp] at c0 HTK HPM HPA;have hs := same_any p;clear hp hkl;by_cases hany : p = anyP
    ·rw [zT hany] at hs;have HX' := Bx.mk (show vxs vs' = enA vx (S.take (k + 1)) by rw [HTK.out, hX.out]; unfold enS; rw [if_pos hany]);generalize bstr p = PB at *;clear hany;go_wp2_with fail
     go_roundw
     case rel => exact ⟨k + 1, vs', by omega, by go_num, hO, HX', hB⟩
     case measure => simp [intOf]; omega
    ·rw [zF hany] at hs;have HANY := Bx.mk hany;have hex := rexp_any wr (.slice la M lc) L.vs (HVL.out.q.below HBW.out) (by rw [<- HM.out]; exact hMM) p;rw [<- HVX.out] at hex;obtain ⟨PB, hPB⟩ : ∃ PB, PB = bstr p := ⟨_, rfl⟩
     have HPB := Bx.mk hPB;rw [<- hPB] at c0 hs hex;clear hany hPB;go_wp2_with fail
     go_at_call 55;refine hex.mono ?_;rintro e w3 ⟨uv, rfl, huo, hb3⟩;obtain ⟨ua, uc, rfl, -⟩ := huo.rd.form;have hvt := rvert_any w3 (.slice la M lc) L.vs ((HVL.out.q.below HBW.out).below hb3) (by rw [<- HM.out]; exact hMM) anyP;rw [<- HVX.out, anyP_str] at hvt;obtain ⟨EN, hEN⟩ : ∃ EN, EN = (expL vx p).length := ⟨_, rfl⟩
     have HEN := Bx.mk hEN;rw [<- hEN];have hENb : EN <= 100000 := (by rw [hEN]; have := expK_len vx p vx.length; have := HVN.out; unfold expL; omega);have HUO := Bx.mk huo;have HB3 := Bx.mk hb3;clear hex huo hb3 hEN;go_wp2_with fail
     go_at_call 56;refine hvt.mono ?_;rintro e w4 ⟨rfl, hb4⟩;have HB34 := Bx.mk (HB3.out.trans (hb4.mono HB3.out.size));have HUO4 := Bx.mk (HUO.out.below hb4);obtain ⟨z, hz⟩ : ∃ z, z = fndP vx anyP := ⟨_, rfl⟩
     have HZ := Bx.mk hz;rw [<- hz];clear hvt hb4 hz;by_cases hE : EN = 0
     ·subst hE;have t1 : (((0 : Nat) : Int) == 0) = true := rfl;have hEN0 : expL vx p = [] := List.length_eq_zero_iff.1 HEN.out.symm;by_cases hz0 : 0 <= z
      ·have t2 : decide (z >= 0) = true := zT hz0;have HUP := Bx.mk (show upF vx p = [z] by unfold upF; rw [if_pos ⟨hEN0, by rw [<- HZ.out]; exact hz0⟩, <- HZ.out]);obtain ⟨W5, hW5⟩ : ∃ W5, W5 = w4.alloc (.cells #[.int .i64 z] 3) := ⟨_, rfl⟩
       obtain ⟨q5, hq5⟩ : ∃ q, q = w4.heap.size := ⟨_, rfl⟩
       have hb5 : Below w4.heap.size w4 W5 := (by rw [hW5]; exact (Below.refl _ _).alloc (zR _) _);have hsz : w.heap.size <= w4.heap.size := Nat.le_trans HBW.out.size HB34.out.size;have HQO := Bx.mk (show Slc.Own W5 w.heap.size 3 1 encI (Sl.val ⟨some ⟨q5, 0, none⟩, 1, 1⟩) (upF vx p) by rw [HUP.out, hW5, hq5]; exact own_alloc encI_ok w4 [z] _ rfl hsz (by unfold maxLen; simp));have HNE := Bx.mk (show upF vx p ≠ [] by rw [HUP.out]; simp);have HBB := Bx.mk (show Below wr.heap.size wr W5 from HB34.out.trans (hb5.mono HB34.out.size));clear hb5 hsz hEN0 hz0;go_upto_region 17 with fail
       rw [<- hW5, <- hq5];clear hW5 hq5 t1 t2;obtain ⟨sq, hsq⟩ : ∃ sq : Sl, sq = ⟨some ⟨q5, 0, none⟩, 1, 1⟩ := ⟨_, rfl⟩
       rw [<- hsq] at HQO;have hqa : sq.ad = some ⟨q5, 0, none⟩ := (by rw [hsq]);have hqn : sq.n = 1 := (by rw [hsq]);have hqc : sq.c = 1 := (by rw [hsq]);rw [<- hqa, show (Value.slice sq.ad 1 1) = .slice sq.ad sq.n sq.c by rw [hqn, hqc]];have hqnb : (0 : Nat) < sq.n /\ sq.n <= 100000 := (by omega);clear hsq hqa hqn hqc;have tl : decide ((sq.n : Int) > 0) = true := zT (by omega)
       have HX' := Bx.mk (show enA vx (S.take (k + 1)) = insV (enA vx (S.take k)) ⟨p, [p], upF vx p⟩ by
        rw [HTK.out];unfold enS
        rw [if_neg HANY.out, if_neg HNE.out])
       obtain ⟨W6, hW6⟩ : ∃ W6, W6 = W5.alloc (.cells #[.string PB] 9) := ⟨_, rfl⟩
       obtain ⟨q6, hq6⟩ : ∃ q, q = W5.heap.size := ⟨_, rfl⟩
       have hb6 : Below W5.heap.size W5 W6 := (by rw [hW6]; exact (Below.refl _ _).alloc (zR _) _);have hsz : w.heap.size <= W5.heap.size := Nat.le_trans HBW.out.size HBB.out.size;have huo6 : Slc.Own W6 w.heap.size 9 1 encS (Sl.val ⟨some ⟨q6, 0, none⟩, 1, 1⟩) [p] := (by rw [hW6, hq6, HPB.out]; exact own_alloc encS_ok W5 [p] _ rfl hsz (by unfold maxLen; simp));have hput := lput_any W6 w.heap.size (.slice va VN vc) vs' ⟨p, [p], upF vx p⟩ ⟨some ⟨q6, 0, none⟩, 1, 1⟩ sq ((hO.out.below HBB.out).below hb6) (Nat.le_trans hsz hb6.size) huo6 (HQO.out.below hb6) (upF_ok (by rw [HVN.out]; exact hMM) HPM.out _ (.inl rfl)) HVB.out (by rw [hX.out]; exact HPA.out.1) (by rw [hX.out]; exact HPA.out.2);rw [<- HPB.out] at hput;have HB6 := Bx.mk (show Below wr.heap.size wr W6 from HBB.out.trans (hb6.mono HBB.out.size));clear hb6 hsz huo6;go_wp2_with fail
       rw [<- hW6, <- hq6];clear hW6 hq6;go_at_call 57;refine hput.mono ?_;rintro e w7 ⟨v7, l7, rfl, hlo7, hx7, hb7⟩;have HO7 := Bx.mk hlo7;have HX7 := Bx.mk (show vxs l7 = enA vx (S.take (k + 1)) by rw [hx7, hX.out, HX'.out]);have HB7 := Bx.mk (hB.out.trans ((HB6.out.trans (hb7.mono HB6.out.size)).mono hB.out.size));obtain ⟨a7, c7, rfl, -⟩ := hlo7.own.rd.form;clear hput hlo7 hx7 hb7 tl;go_wp2_with fail
       go_roundw
       case rel => exact ⟨k + 1, l7, by omega, by go_num, HO7, HX7, HB7⟩
       case measure => simp [intOf]; omega
      ·have t2 : decide (z >= 0) = false := zF hz0
       have HX' := Bx.mk (show vxs vs' = enA vx (S.take (k + 1)) by
        rw [HTK.out, hX.out];unfold enS;rw [if_neg HANY.out, if_pos];unfold upF
        rw [if_neg (fun q => hz0 (by rw [HZ.out]; exact q.2))]; exact hEN0)
       have HO' := Bx.mk (hO.out.below HB34.out);have HB' := Bx.mk (hB.out.trans (HB34.out.mono hB.out.size));clear hz0 hEN0;go_wp2_with fail
       go_roundw
       case rel => exact ⟨k + 1, vs', by omega, by go_num, HO', HX', HB'⟩
       case measure => simp [intOf]; omega
     ·have t1 : ((EN : Int) == 0) = false := by simp; omega
      have t1' : ¬ (EN : Int) = 0 := (by omega);have hEN0 : expL vx p ≠ [] := fun e => hE (by rw [HEN.out, e]; rfl)
      have hup : upF vx p = expL vx p := (by unfold upF; rw [if_neg (fun q => hEN0 q.1)]);have HNE := Bx.mk (show upF vx p ≠ [] by rw [hup]; exact hEN0);obtain ⟨W5, hW5⟩ : ∃ W5, W5 = w4 := ⟨_, rfl⟩
      have HQO := Bx.mk (show Slc.Own W5 w.heap.size 3 1 encI (Sl.val ⟨ua, EN, uc⟩) (upF vx p) by
       rw [hup, hW5];have := HUO4.out.mono HBW.out.size;rw [<- HEN.out] at this
       exact this)
      have HBB := Bx.mk (show Below wr.heap.size wr W5 by rw [hW5]; exact HB34.out);clear hEN0 hup;go_upto_region 17 with fail
      rw [<- hW5];clear hW5 t1 t1';obtain ⟨sq, hsq⟩ : ∃ sq : Sl, sq = ⟨ua, EN, uc⟩ := ⟨_, rfl⟩
      rw [<- hsq] at HQO;have hqa : sq.ad = ua := (by rw [hsq]);have hqn : sq.n = EN := (by rw [hsq]);have hqc : sq.c = uc := (by rw [hsq]);rw [show (Value.slice ua EN uc) = .slice sq.ad sq.n sq.c by rw [hqa, hqn, hqc]];have hqnb : (0 : Nat) < sq.n /\ sq.n <= 100000 := (by omega);clear hsq hqa hqn hqc;have tl : decide ((sq.n : Int) > 0) = true := zT (by omega)
      have HX' := Bx.mk (show enA vx (S.take (k + 1)) = insV (enA vx (S.take k)) ⟨p, [p], upF vx p⟩ by
       rw [HTK.out];unfold enS
       rw [if_neg HANY.out, if_neg HNE.out])
      obtain ⟨W6, hW6⟩ : ∃ W6, W6 = W5.alloc (.cells #[.string PB] 9) := ⟨_, rfl⟩
      obtain ⟨q6, hq6⟩ : ∃ q, q = W5.heap.size := ⟨_, rfl⟩
      have hb6 : Below W5.heap.size W5 W6 := (by rw [hW6]; exact (Below.refl _ _).alloc (zR _) _);have hsz : w.heap.size <= W5.heap.size := Nat.le_trans HBW.out.size HBB.out.size;have huo6 : Slc.Own W6 w.heap.size 9 1 encS (Sl.val ⟨some ⟨q6, 0, none⟩, 1, 1⟩) [p] := (by rw [hW6, hq6, HPB.out]; exact own_alloc encS_ok W5 [p] _ rfl hsz (by unfold maxLen; simp));have hput := lput_any W6 w.heap.size (.slice va VN vc) vs' ⟨p, [p], upF vx p⟩ ⟨some ⟨q6, 0, none⟩, 1, 1⟩ sq ((hO.out.below HBB.out).below hb6) (Nat.le_trans hsz hb6.size) huo6 (HQO.out.below hb6) (upF_ok (by rw [HVN.out]; exact hMM) HPM.out _ (.inl rfl)) HVB.out (by rw [hX.out]; exact HPA.out.1) (by rw [hX.out]; exact HPA.out.2);rw [<- HPB.out] at hput;have HB6 := Bx.mk (show Below wr.heap.size wr W6 from HBB.out.trans (hb6.mono HBB.out.size));clear hb6 hsz huo6;go_wp2_with fail
      rw [<- hW6, <- hq6];clear hW6 hq6;go_at_call 57;refine hput.mono ?_;rintro e w7 ⟨v7, l7, rfl, hlo7, hx7, hb7⟩;have HO7 := Bx.mk hlo7;have HX7 := Bx.mk (show vxs l7 = enA vx (S.take (k + 1)) by rw [hx7, hX.out, HX'.out]);have HB7 := Bx.mk (hB.out.trans ((HB6.out.trans (hb7.mono HB6.out.size)).mono hB.out.size));obtain ⟨a7, c7, rfl, -⟩ := hlo7.own.rd.form;clear hput hlo7 hx7 hb7 tl;go_wp2_with fail
      go_roundw
      case rel => exact ⟨k + 1, l7, by omega, by go_num, HO7, HX7, HB7⟩
      case measure => simp [intOf]; omega
   ·obtain rfl : k = SN := by omega
    have HXA := Bx.mk (show vxs vs' = enA vx S by rw [hX.out, HSN.out, List.take_length]);have HAO := Bx.mk (enA_good vx _ S rfl HSA.out).1;have HALN := Bx.mk (show (enA vx S).length <= k by rw [HSN.out]; exact enA_len vx S HSA.out);obtain ⟨A, hA⟩ : ∃ A, A = enA vx S := ⟨_, rfl⟩
    have HA := Bx.mk hA;rw [<- hA] at HXA HAO HALN
    have HRR2 := Bx.mk (show renL vx ps cnt = if cnt && decide (anyP ∈ S) then enB vx A (allJ vx M) else A by
     unfold renL
     rw [<- HS.out, <- hA, <- HVN.out])
    obtain ⟨LV, hLV⟩ : ∃ LV, LV = renL vx ps cnt := ⟨_, rfl⟩
    have HLV := Bx.mk hLV;rw [<- hLV] at HRR2 HRF HRN;have HSR := Bx.mk (HSO.out.rd.below hB.out);clear hB hX hA hLV;go_upto_region 19 with fail
    go_cut [73] (fun s wx => s = .bool (cnt && decide (anyP ∈ S)) /\ wx = wr)
    case first =>
     cases cnt with
     | false =>
      go_wp2_with fail
      go_meet
      exact ⟨rfl, rfl⟩
     | true =>
      have hin := in_any wr (.slice sa k sc) S anyP (by have := HSR.out; rw [<- HSN.out] at this; exact this) (by rw [<- HSN.out]; exact hSNb);rw [anyP_str] at hin;generalize decide (anyP ∈ S) = R1 at *;go_wp2_with fail
      go_at_call 47;refine hin.mono ?_;rintro e w' ⟨rfl, rfl⟩;clear hin
      cases R1 with
      | true =>
       go_wp2_with fail
       go_meet
       exact ⟨rfl, rfl⟩
      | false =>
       go_wp2_with fail
       go_meet;exact ⟨rfl, rfl⟩
    case rest =>
     obtain ⟨rfl, rfl⟩ := hcut;generalize (cnt && decide (anyP ∈ S)) = R1 at *;go_upto_if 73 with fail
     go_cut [10] (fun lv wx => ∃ vs2 : List Vt, Bx (LO wx w.heap.size lv vs2) /\ Bx (vxs vs2 = LV) /\ Bx (Below w.heap.size w wx))
     case first =>
      cases R1 with
      | false =>
       have HE := Bx.mk (show vxs vs' = LV by rw [HXA.out, HRR2.out]; rfl);go_wp2_with fail
       go_meet
       exact ⟨vs', hO, HE, HBW⟩
      | true =>
       have HLE := Bx.mk (show LV = enB vx A (allJ vx M) by rw [HRR2.out]; rfl);have HX0 := Bx.mk (show vxs vs' = enB vx A (allJ vx 0) by rw [HXA.out]; simp [allJ, enB]);have HC3 := Bx.mk (HVL.out.at3);clear HRR2 HXA;go_wp2_with fail
       go_loopw [10, 15] (fun lv iv wz => ∃ (j : Nat) (vs2 : List Vt), j <= M /\ iv = .int .i64 j /\ Bx (LO wz w.heap.size lv vs2) /\ Bx (vxs vs2 = enB vx A (allJ vx j)) /\ Bx (Below w.heap.size w wz)) (fun _ iv _ => M - (intOf iv).toNat)
       case atStart => exact ⟨0, vs', by omega, rfl, hO, HX0, HBW⟩
       case round =>
        clear hO HX0 HBW HSR HVN' HVB hVNb;obtain ⟨j, vs2, hj, rfl, hO, hX, hB⟩ := hrel;obtain ⟨va, vc, hva, -⟩ := hO.out.own.rd.form;obtain ⟨VN, hVN⟩ : ∃ VN, VN = vs2.length := ⟨_, rfl⟩
        rw [<- hVN] at hva;subst hva;clear hVN;by_cases hlt : j < M
        ·have HJL := Bx.mk (show j < L.vs.length by rw [<- HM.out]; exact hlt);obtain ⟨bv, ov, rfl, -, c0, c1, c2⟩ := HC3.out wr hB.out j HJL.out;have HXT := Bx.mk (HVL.out.at_ _ (zM HJL.out));have HXV := Bx.mk (show (vx[j]!).ex = (L.vs[j]'HJL.out).n.ex by rw [HVX.out, vxs_at L.vs j HJL.out])
         have HC4 := Bx.mk (show ∀ W, Below w.heap.size w W -> W.cell? ⟨bv, ov + j * 3 + 1, none⟩ = some (L.vs[j]'HJL.out).u.val from fun W hW => by
          obtain ⟨b', o', e, -, -, c1', -⟩ := HC3.out W hW j HJL.out;simp only [zO, Addr.mk.injEq, and_true] at e
          obtain ⟨rfl, rfl⟩ := e
          exact c1')
         obtain ⟨x, hx⟩ : ∃ x, x = L.vs[j]'HJL.out := ⟨_, rfl⟩
         rw [<- hx] at c1 HXT HXV HC4;obtain ⟨xa, xc, hxu, -⟩ := HXT.out.1.1.form;have HXC := Bx.mk (strs_cells (show Rd w encS (.slice xa x.n.ex.length xc) x.n.ex from hxu ▸ HXT.out.1.1)).2;have HXF := Bx.mk HXT.out.2.2.1;rw [hxu] at c1 HC4;obtain ⟨XN, hXN⟩ : ∃ XN, XN = x.n.ex.length := ⟨_, rfl⟩
         have HXN := Bx.mk hXN;rw [<- hXN] at c1 HC4;have hXNb : XN <= 100000 := by rw [hXN]; exact HXF.out.1
         have HAJ := Bx.mk (show allJ vx (j + 1) = allJ vx j ++ x.n.ex by
          rw [<- HXV.out]; unfold allJ; rw [List.range_succ, List.flatMap_append]; simp)
         have HAM := Bx.mk (show (allJ vx (j + 1)).length + PN <= 100000 by
          have := allJ_mono vx (j := j + 1) (k := M) hlt;have := HAL.out
          omega)
         have HX0 := Bx.mk (show vxs vs2 = enB vx A (allJ vx j ++ x.n.ex.take 0) by rw [hX.out, List.take_zero, List.append_nil]);have hO0 := hO;have hB0 := hB;clear hx hxu hXN c0 c2 HXT HXV hO hX hB;go_wp2_with fail
         clear c1;go_loopw [10, 16] (fun lv iv wz => ∃ (i : Nat) (vs2 : List Vt), i <= XN /\ iv = .int .i64 i /\ Bx (LO wz w.heap.size lv vs2) /\ Bx (vxs vs2 = enB vx A (allJ vx j ++ x.n.ex.take i)) /\ Bx (Below w.heap.size w wz)) (fun _ iv _ => XN - (intOf iv).toNat)
         case atStart => exact ⟨0, vs2, by omega, rfl, hO0, HX0, hB0⟩
         case round =>
          clear hO0 HX0 hB0;obtain ⟨i, vs3, hi, rfl, hO, hX, hB⟩ := hrel;obtain ⟨va, vc, hva, -⟩ := hO.out.own.rd.form;obtain ⟨VN, hVN⟩ : ∃ VN, VN = vs3.length := ⟨_, rfl⟩
          have HVN' := Bx.mk hVN;rw [<- hVN] at hva;subst hva;clear hVN;have c1 := HC4.out wr hB.out
          have HVB := Bx.mk (show vs3.length <= 100000 by
           have h1 := enB_len vx (allJ vx j ++ x.n.ex.take i) A;rw [<- hX.out, vxs_len, List.length_append, List.length_take] at h1;have h2 := HAM.out;rw [HAJ.out, List.length_append] at h2;have := HALN.out;have := HSL.out;have := HSN.out
           omega)
          have hVNb : VN <= 100000 := (by rw [HVN'.out]; exact HVB.out);by_cases hlt2 : i < XN
          ·have hil' : i < x.n.ex.length := by rw [<- HXN.out]; exact hlt2
           obtain ⟨bx, ox, rfl, -, d0⟩ := HXC.out wr hB.out i hil'
           have HTK := Bx.mk (show enB vx A (allJ vx j ++ x.n.ex.take (i + 1)) = enU vx (enB vx A (allJ vx j ++ x.n.ex.take i)) x.n.ex[i] by
            rw [zA hil', <- List.append_assoc, enB_snoc])
           have HPM := Bx.mk (show (x.n.ex[i]).length <= 1000000 from HXF.out.2 _ (zM hil'));obtain ⟨p, hp⟩ : ∃ p, p = x.n.ex[i] := ⟨_, rfl⟩
           rw [<- hp] at d0 HTK HPM;have hvt := rvert_any wr (.slice va VN vc) vs3 hO.out.vl.q HVB.out p;have hexp := fun W (hW : Below w.heap.size w W) => rexp_any W (.slice (some ⟨bv, ov, none⟩) M lc) L.vs (HVL.out.q.below hW) (by rw [<- HM.out]; exact hMM) p
           rw [<- HVX.out] at hexp;rw [hX.out] at hvt;obtain ⟨z, hz⟩ : ∃ z, z = fndP (enB vx A (allJ vx j ++ x.n.ex.take i)) p := ⟨_, rfl⟩
           have HZ := Bx.mk hz;rw [<- hz] at hvt;obtain ⟨PB, hPB⟩ : ∃ PB, PB = bstr p := ⟨_, rfl⟩
           have HPB := Bx.mk hPB;rw [<- hPB] at d0 hvt hexp;have HEXP := Bx.mk hexp;clear hp hil' hz hPB hexp;go_wp2_with fail
           go_at_call 56;refine hvt.mono ?_;rintro e w4 ⟨rfl, hb4⟩;have HB4 := Bx.mk hb4;have HBZ4 := Bx.mk (hB.out.trans (hb4.mono hB.out.size));clear hvt hb4;by_cases hz0 : z < 0
           ·have t1 : decide (z < 0) = true := zT hz0;have HFN := Bx.mk (show fndP (enB vx A (allJ vx j ++ x.n.ex.take i)) p < 0 by rw [<- HZ.out]; exact hz0);obtain ⟨W5, hW5⟩ : ∃ W5, W5 = w4.alloc (.cells #[.string PB] 9) := ⟨_, rfl⟩
            obtain ⟨q5, hq5⟩ : ∃ q, q = w4.heap.size := ⟨_, rfl⟩
            have hb5 : Below w4.heap.size w4 W5 := (by rw [hW5]; exact (Below.refl _ _).alloc (zR _) _);have hsz : w.heap.size <= w4.heap.size := HBZ4.out.size;have HUO := Bx.mk (show Slc.Own W5 w.heap.size 9 1 encS (Sl.val ⟨some ⟨q5, 0, none⟩, 1, 1⟩) [p] by rw [hW5, hq5, HPB.out]; exact own_alloc encS_ok w4 [p] _ rfl hsz (by unfold maxLen; simp));have HBZ5 := Bx.mk (HBZ4.out.trans (hb5.mono hsz));have HB5 := Bx.mk (HB4.out.trans (hb5.mono HB4.out.size));have hex := HEXP.out W5 HBZ5.out;clear hb5 hsz hz0;go_wp2_with fail
            rw [<- hW5, <- hq5];clear hW5 hq5;go_at_call 55;refine hex.mono ?_;rintro e w6 ⟨uv, rfl, huo, hb6⟩;obtain ⟨sq, hsq⟩ := sl_of huo;subst hsq;have hput := lput_any w6 w.heap.size (.slice va VN vc) vs3 ⟨p, [p], expL vx p⟩ ⟨some ⟨q5, 0, none⟩, 1, 1⟩ sq ((hO.out.below HB5.out).below hb6) (Nat.le_trans HBZ5.out.size hb6.size) (HUO.out.below hb6) (huo.mono HBZ5.out.size) (upF_ok (by rw [HVN.out]; exact hMM) HPM.out _ (.inr rfl)) HVB.out (by rw [hX.out]; exact enB_ord vx _ HAO.out) (by rw [hX.out]; exact fun y hy => fndP_neg HFN.out y hy);rw [<- HPB.out] at hput;have HBZ6 := Bx.mk (HBZ5.out.trans (hb6.mono HBZ5.out.size));clear hex huo hb6;simp only [Sl.val]
            go_wp2_with fail
            go_at_call 57;refine hput.mono ?_;rintro e w7 ⟨v7, l7, rfl, hlo7, hx7, hb7⟩;have HO7 := Bx.mk hlo7
            have HX7 := Bx.mk (show vxs l7 = enB vx A (allJ vx j ++ x.n.ex.take (i + 1)) by
             rw [hx7, hX.out, HTK.out];unfold enU
             rw [if_pos HFN.out])
            have HB7 := Bx.mk (HBZ6.out.trans (hb7.mono HBZ6.out.size));obtain ⟨a7, c7, rfl, -⟩ := hlo7.own.rd.form;clear hput hlo7 hx7 hb7 t1;go_wp2_with fail
            go_roundw
            case rel => exact ⟨i + 1, l7, by omega, by go_num, HO7, HX7, HB7⟩
            case measure => simp [intOf]; omega
           ·have t1 : decide (z < 0) = false := zF hz0
            have HX7 := Bx.mk (show vxs vs3 = enB vx A (allJ vx j ++ x.n.ex.take (i + 1)) by
             rw [hX.out, HTK.out];unfold enU
             rw [if_neg (by rw [<- HZ.out]; exact hz0)])
            have HO7 := Bx.mk (hO.out.below HB4.out);clear hz0;go_wp2_with fail
            go_roundw
            case rel => exact ⟨i + 1, vs3, by omega, by go_num, HO7, HX7, HBZ4⟩
            case measure => simp [intOf]; omega
          ·obtain rfl : i = XN := by omega
           have HX7 := Bx.mk (show vxs vs3 = enB vx A (allJ vx (j + 1)) by rw [hX.out, HAJ.out, HXN.out, List.take_length]);clear hX;go_wp2_with fail
           go_roundw
           case rel => exact ⟨j + 1, vs3, by omega, by go_num, hO, HX7, hB⟩
           case measure => simp [intOf]; omega
        ·obtain rfl : j = M := by omega
         have HE := Bx.mk (show vxs vs2 = LV by rw [hX.out, HLE.out]);go_wp2_with fail
         go_meet;exact ⟨vs2, hO, HE, hB⟩
     case rest =>
      obtain ⟨vs2, hO2, hX2, hB2⟩ := hcut;obtain ⟨sl, hsl⟩ := sl_of hO2.out.own;subst hsl;have hcp := rcopy_ov wc (.slice (some ⟨b, o, none⟩) N c) g (by rw [HN.out]; exact HGL.out.below hB2.out) (by rw [<- HN.out]; omega) HLN.out;simp only [Sl.val]
      clear hO HBW HSR HVN' HVB hVNb HRR2 HXA HALN HAO HA;go_wp2_with fail
      go_at_call 59;refine hcp.mono ?_;rintro e w8 ⟨v8, g', rfl, hgo, hgx, hb8, hov⟩;have HGO := Bx.mk hgo;have HGX := Bx.mk hgx;have HOV := Bx.mk hov;have HB8 := Bx.mk hb8;have HO8 := Bx.mk (hO2.out.below hb8);have HZC := Bx.mk hB2.out.size;obtain ⟨ga, gc, rfl, -⟩ := hgo.own.rd.form;have hgl : g'.length = N := (by have := congrArg List.length hgx; rw [gxs_len, gxs_len, <- HN.out] at this; exact this);have hba : Below w8.heap.size w8 (w8.alloc (.cells #[.slice sl.ad sl.n sl.c] 63)) := (Below.refl _ _).alloc (zR _) _;have HBA := Bx.mk hba;have HGA := Bx.mk ((hgo.below hba).mono hB2.out.size);have HLA := Bx.mk (HO8.out.below hba)
      have HNB := Bx.mk (show ∀ k, (Sl.val sl).ownBlock = some k -> ¬ GB (.slice ga g'.length gc) g' k from fun k hk hn => by
       have h1 := (hO2.out.own.lt k hk).2;have h2 := (hgo.lt hn).1
       omega)
      have HOA := Bx.mk (show ∀ L0 ∈ g', ∀ x ∈ L0.vs, OV (w8.alloc (.cells #[.slice sl.ad sl.n sl.c] 63)) wc.heap.size x from fun L0 h0 x hx => (hov L0 h0 x hx).below hba);have HSRC := Bx.mk (show SrcV (w8.alloc (.cells #[.slice sl.ad sl.n sl.c] 63)) 1 (.slice (some ⟨w8.heap.size, 0, none⟩) 1 1) 1 ([(⟨vs2, sl⟩ : Lv)].flatMap encL) from src_new encL_ok (heap_alloc_new _ _));have hm1 : g'.length + 1 <= maxLen := (by unfold maxLen; omega);have hm2 : (g'.length + 1) * 24 <= 140737488355328 := (by omega);have hbz : w.heap.size <= (w8.alloc (.cells #[.slice sl.ad sl.n sl.c] 63)).heap.size := Nat.le_trans (Nat.le_trans hB2.out.size hb8.size) hba.size;have HBZ := Bx.mk hbz;have HGLN := Bx.mk hgl;have HOWN := Bx.mk HGA.out.own;clear hcp hgo hgx hov hb8 hba hgl;go_wp2_with (at_builtin; refine wpList_append_any rfl _ _ _ rfl w.heap.size 63 il _ 1 24 und_levs hil hil0 hil1 hil2 rfl (by decide) _ g'.length (g'.flatMap encL) rfl HOWN.out _ 1 ([(⟨vs2, sl⟩ : Lv)].flatMap encL) rfl HSRC.out hm1 hm2 hbz ?_)
      intro v11 w11 hapd;have hgr := hapd.grown
      obtain ⟨hgo11, -⟩ := HGA.out.snoc (⟨vs2, sl⟩ : Lv) HLA.out.own HNB.out
       (fun L0 h0 x hx => (HOA.out L0 h0 x hx).vt (HGA.out.nm L0 h0 x hx).2.2 (fun k hk e => own_type (HOA.out L0 h0 x hx).1 HLA.out.own (by decide) k hk e) (fun k hk e => own_type (HOA.out L0 h0 x hx).2 HLA.out.own (by decide) k hk e))
       (fun x hx => (HLA.out.ov x hx).1.vt (HLA.out.ov x hx).2 (fun k hk => ⟨HGA.out.ov_ne (HLA.out.ov x hx).1.1 (by decide) (by decide) k hk, fun e => own_type (HLA.out.ov x hx).1.1 HLA.out.own (by decide) k hk e⟩) (fun k hk => ⟨HGA.out.ov_ne (HLA.out.ov x hx).1.2 (by decide) (by decide) k hk, fun e => own_type (HLA.out.ov x hx).1.2 HLA.out.own (by decide) k hk e⟩))
       rfl rfl rfl rfl hapd
      have hgxs : gxs (g' ++ [⟨vs2, sl⟩]) = gxs g ++ [levP vx ps cnt] := by
       have e1 : gxs (g' ++ [⟨vs2, sl⟩]) = gxs g' ++ [vxs vs2] := (by simp [gxs]);rw [e1, HGX.out, hX2.out, HRN.out]
      have hvl1 : (gxs g)[(gxs g).length - 1]! = vx := by rw [gxs_len, <- HN.out, HLG.out.2, HVX.out]
      have hkl2 : (keyL vx ps cnt).length <= 100000 := by
       have h1 := keyL_len vx ps cnt;have h2 := HAL.out;have h3 := HPN.out;have h4 := HVN.out;rw [h4] at h1;omega
      have hpg := enter_pg HPR.out (by rw [gxs_len, <- HN.out]; exact hN1) (fun l hl => by
       obtain ⟨L0, h0, rfl⟩ := List.mem_map.1 hl
       rw [vxs_len]; exact HLN.out L0 h0) ps cnt (by rw [hvl1]; exact hkl2)
      rw [hvl1] at hpg;have hprn := rprune_any w11 w.heap.size v11 (g' ++ [⟨vs2, sl⟩]) hgo11 (by rw [hgxs]; exact hpg) (by rw [List.length_append, HGLN.out]; simp; omega);have HB11 := Bx.mk (show Below w.heap.size w w11 from ((hB2.out.trans (HB8.out.mono HZC.out)).trans (HBA.out.mono (Nat.le_trans HZC.out HB8.out.size))).grown hgr HBZ.out fun j hj => (HGA.out.own.lt j hj).1);have HGS := Bx.mk hgxs;have HGL11 := Bx.mk (fun j => hgo11.lt (k := j));obtain ⟨va, vc, rfl, -⟩ := hgo11.own.rd.form;obtain ⟨N1, hN1l⟩ : ∃ n, n = (g' ++ [(⟨vs2, sl⟩ : Lv)]).length := ⟨_, rfl⟩
      rw [<- hN1l] at hprn HGL11 |-;clear hN1l;clear hgr hgo11 hgxs hvl1 hpg hapd hm1 hm2 hbz hkl2;go_wp2_with fail
      go_at_call 58;refine hprn.mono ?_;rintro e w12 ⟨v12, g12, rfl, hgo12, hgx12, hfr12, -, hnk12⟩
      have HNQ12 := Bx.mk (hnk12 w.heap.size HB11.out.size (fun L0 h0 => by
       rcases List.mem_append.1 h0 with q | q
       ·exact fun x hx k hk => Nat.le_trans HZC.out ((HOA.out L0 q x hx).nq k hk)
       ·rw [zS] at q; subst q
        exact fun x hx => (HLA.out.ov x hx).1.nq))
      clear hprn;have hb12 : Below w.heap.size w11 w12 := hfr12.below (fun j hj => (HGL11.out j hj).1) HB11.out.size;have HB12 := Bx.mk (show Below w.heap.size w w12 from HB11.out.trans hb12);have HG12 := Bx.mk hgo12;have HX12 := Bx.mk (show gxs g12 = R.1 by rw [hgx12, HGS.out, HRF.out, HRN.out]);obtain ⟨xa, xc, rfl, -⟩ := hgo12.own.rd.form;clear hgo12 hgx12 hfr12 hb12 hnk12;go_wp2_with fail
      go_ret2;exact ⟨_, g12, by rw [HRF.out]; rfl, HG12.out, HX12.out, HB12.out, HNQ12.out⟩
end Go.Proofs.YtmagjdocondmhaaGreat.Tr.Gr
namespace Go.Proofs.YtmagjdocondmhaaGreat.Tr.Gr
open Go Go.RowKit Slc St Mp Tr Rg
theorem GO.setL3 {w0 w : World} {B : Nat} {v : Value} {g : List Lv} (h : GO w0 B v g) (hB : B <= w0.heap.size) (i : Nat) (hi : i < g.length) (hb : Below w0.heap.size w0 w) (L' : Lv) (hL : Slc.Own w w0.heap.size 65 3 encV L'.s.val L'.vs)
  (hx : ∀ x ∈ L'.vs, VtIn w (fun k => ¬ GB v g k /\ L'.s.val.ownBlock ≠ some k) x) :
  ∃ gb cap, v = .slice (some ⟨gb, 0, none⟩) g.length cap /\ (∀ j, w.frozen? ⟨gb, j, none⟩ = false) /\ w.cell? ⟨gb, i, none⟩ = some (g[i]).s.val /\ GStep w0 B v g (w.setCell ⟨gb, i, none⟩ L'.s.val) (g.set i L') := by
 have hG := h.below hb;have hnew : ∀ k, L'.s.val.ownBlock = some k -> w0.heap.size <= k := fun k hk => (hL.lt k hk).1
 obtain ⟨gb, cap, hv, hlt, hfr, hgo, hgr⟩ := hG.setL i hi L' (hL.mono hB)
  (fun k hk => ⟨fun e => by have := (h.lt (k := k) (.inl e)).2; have := hnew k hk; omega, fun j hj _ e => by have := (h.lt (k := k) (.inr ⟨_, zM hj, e⟩)).2; have := hnew k hk; omega⟩)
  (fun j hj _ x hxm => (VtIn.below (h.nm _ (zM hj) x hxm).at_ hb).mono fun k _ hk e => by have := hnew k e; omega)
  (fun x hxm => (hx x hxm).mono fun k _ hk hn => by
   rcases GB.set hn with q | q
   ·exact hk.1 q
   ·exact hk.2 q)
 have hc : w.cell? ⟨gb, i, none⟩ = some (g[i]).s.val := by
  have h2 := hG;rw [hv] at h2;obtain ⟨gb2, he, hc, -⟩ := h2.cellL i hi;simp only [zO, Addr.mk.injEq, and_true] at he
  subst he; exact hc
 refine ⟨gb, cap, hv, hfr, hc, hgo, (Fr.of_below (S := GB v g) hb).trans (Fr.of_grown (S := GB v g) hgr fun k hk => ?_) (fun _ _ q => q), fun k hk => ?_⟩
 ·simp only [zO] at hk; subst hk; exact .inl (by rw [hv]; rfl)
 ·rcases GB.set hk with q | q
  ·exact .inl q
  ·exact .inr (hnew k q)
theorem rmS_par {ms : List (B × B)} {ok : Bool} {above : Int} {l : List Vx} {p : B} {v : Vx} (h : v ∈ rmS ms ok above l p) : (∃ u ∈ l, v.par = u.par) \/ (0 <= fndP l anyP /\ v.par = [above]) := by
 unfold rmS at h;split at h
 ·rename_i h0
  obtain ⟨k, hk, he, -⟩ := fndP_some h0;split at h
  ·rcases List.mem_or_eq_of_mem_set h with q | rfl
   ·exact .inl ⟨v, q, rfl⟩
   ·left
    refine ⟨l[k]!, ?_, ?_⟩
    ·rw [getElem!_pos l k hk]; exact zM hk
    ·rw [he, Int.toNat_natCast]
  ·exact .inl ⟨v, delL_mem h, rfl⟩
 ·split at h
  ·rename_i h1
   rw [Bool.and_eq_true, decide_eq_true_eq] at h1;rcases insV_mem h with q | rfl
   ·exact .inl ⟨v, q, rfl⟩
   ·exact .inr ⟨h1.2, rfl⟩
  ·exact .inl ⟨v, h, rfl⟩
theorem rmS_any {ms : List (B × B)} {ok : Bool} {above : Int} {l : List Vx} {p : B} (hp : p ≠ anyP) (h : 0 <= fndP (rmS ms ok above l p) anyP) : 0 <= fndP l anyP := by
 unfold rmS at h;split at h
 ·rename_i h0
  obtain ⟨k, hk, he, -, -⟩ := fndP_some h0;split at h
  ·rw [he, Int.toNat_natCast] at h;rw [fndP_pols (set_pols hk (x := ⟨(l[k]!).pol, subL ms p, (l[k]!).par⟩) rfl) anyP] at h;exact h
  ·obtain ⟨v, hv, hq⟩ := fndP_iff.1 h;exact fndP_has (delL_mem hv) hq
 ·split at h
  ·obtain ⟨v, hv, hq⟩ := fndP_iff.1 h;rcases insV_mem hv with q | rfl
   ·exact fndP_has q hq
   ·exact absurd hq hp
  ·exact h
theorem rmL_par {ms : List (B × B)} {ok : Bool} {above : Int} : ∀ {ks : List B} {l : List Vx} {v : Vx}, anyP ∉ ks -> v ∈ rmL ms ok above l ks -> (∃ u ∈ l, v.par = u.par) \/ (0 <= fndP l anyP /\ v.par = [above])
 | [], l, v, _, h => .inl ⟨v, h, rfl⟩
 | p :: ks, l, v, ha, h => by
  have hp : p ≠ anyP := fun e => ha (e ▸ List.mem_cons_self)
  rcases rmL_par (ks := ks) (l := rmS ms ok above l p) (fun q => ha (List.mem_cons_of_mem _ q)) h with ⟨u, hu, e⟩ | ⟨q1, q2⟩
  ·rcases rmS_par hu with ⟨u', hu', e'⟩ | ⟨q1, q2⟩
   ·exact .inl ⟨u', hu', e.trans e'⟩
   ·exact .inr ⟨q1, e.trans q2⟩
  ·exact .inr ⟨rmS_any hp q1, q2⟩
theorem rm_pg {g : List (List Vx)} (h : gvalidB g = true) {n : Nat} (hg : n + 2 = g.length) (hl : ∀ l ∈ g, l.length <= 50000) (ms : List (B × B)) (ok : Bool) {ks : List B} (hk : ks.length <= 50000) (ha : anyP ∉ ks) :
  PG (g.set (n + 1) (rmL ms ok (fndP g[n]! anyP) g[n + 1]! ks)) := by
 have hpg := gvalid_pg h fun l hl' => by have := hl l hl'; omega
 have hll : (g[n + 1]!).length <= 50000 := hl _ (by rw [getElem!_pos g (n + 1) (by omega)]; exact zM _);refine hpg.setLast hg ?_ fun v hv p hp => ?_
 ·have := rmL_len ms ok (fndP g[n]! anyP) ks g[n + 1]!;omega
 ·rcases rmL_par ha hv with ⟨u, hu, e⟩ | ⟨q1, q2⟩
  ·rw [e] at hp; exact hpg.par n (by omega) u hu p hp
  ·rw [q2, zS] at hp;subst hp;have h3 := gvalid_star h (by omega) q1;exact ⟨h3, fndP_lt h3⟩
theorem set_self_get {g : List (List Vx)} {k : Nat} (hk : k < g.length) : g.set k g[k]! = g := by
 rw [getElem!_pos g k hk]; exact List.set_getElem_self hk
attribute [local go_sem] Oper.semAt_some
def belV (ab : List Vx) (v : Vx) : Bool := v.par.any fun q => specV ab[q.toNat]!
theorem rbelow_any (w : World) (v : Value) (g : List Lv) (h : GQ w v g) (hn : g.length <= 100000) (i k : Nat) (hi : i + 1 < g.length) (hk : k < (g[i + 1]).vs.length) (hp : ∀ q ∈ ((g[i + 1]).vs[k]).n.par, 0 <= q /\ q < (((g[i]).vs.length : Nat) : Int)) :
  Calls Tryz.prog 76 #[v, .int .i64 ((i + 1 : Nat) : Int), .int .i64 k] w fun e w' => e = .returned (.bool (belV (vxs (g[i]).vs) ((g[i + 1]).vs[k]).n)) /\ Below w.heap.size w w' := by
 obtain ⟨ad, c, rfl, -⟩ := h.rd.form;obtain ⟨b, o, rfl, -, -⟩ := h.at1 w (Below.refl _ _) i (by omega);have HC0 := Bx.mk (fun (W : World) (hW : Below w.heap.size w W) => h.at1' W hW i (by omega));have HC1 := Bx.mk (fun (W : World) (hW : Below w.heap.size w W) => h.at1' W hW (i + 1) hi);have HVA := Bx.mk (h.lv _ (zM (show i < g.length by omega)));have HVL := Bx.mk (h.lv _ (zM hi));obtain ⟨A, hA⟩ : ∃ L, L = g[i] := ⟨_, rfl⟩
 obtain ⟨L, hL⟩ : ∃ L, L = g[i + 1] := ⟨_, rfl⟩
 simp only [<- hA, <- hL] at HC0 HC1 HVA HVL hk hp |-
 obtain ⟨aa, ac, has, -⟩ := HVA.out.rd.form;obtain ⟨la, lc, hls, -⟩ := HVL.out.rd.form;rw [has] at HC0 HVA;rw [hls] at HC1 HVL;obtain ⟨lb, lo, rfl, -, -⟩ := HVL.out.at3 w (Below.refl _ _) k hk;have HX := Bx.mk (fun (W : World) (hW : Below w.heap.size w W) => (HVL.out.at3' W hW k hk).2.2);have HAX := Bx.mk (HVL.out.at_ _ (zM hk)).2.1;have hPo := (HVL.out.at_ _ (zM hk)).2.2.2.2;obtain ⟨x, hx⟩ : ∃ x, x = L.vs[k] := ⟨_, rfl⟩
 simp only [<- hx] at HX HAX hPo hp |-
 obtain ⟨pa, pc, hpq, -⟩ := RqIn.form HAX.out;obtain ⟨PN, hPN⟩ : ∃ n, n = x.n.par.length := ⟨_, rfl⟩
 have HPN := Bx.mk hPN;rw [hpq, <- hPN] at HX;have HPR := Bx.mk (show Ri w (.slice pa PN pc) x.n.par by rw [hPN, <- hpq]; exact HAX.out);have hPb : PN <= 100000 := by omega
 obtain ⟨N, hN⟩ : ∃ N, N = g.length := ⟨_, rfl⟩
 obtain ⟨M, hM⟩ : ∃ M, M = L.vs.length := ⟨_, rfl⟩
 obtain ⟨AN, hAN⟩ : ∃ n, n = A.vs.length := ⟨_, rfl⟩
 have HAN := Bx.mk hAN;have HP := Bx.mk hp;rw [<- hN] at hn hi |-;rw [<- hM] at hk HVL HC1;rw [<- hAN] at HVA HC0 HP;have wi : IntKind.i64.wrap (((i + 1 : Nat) : Int) - 1) = (i : Int) := by rw [IntWalk.i64_in _ (by omega)]; omega
 obtain ⟨I, hI⟩ : ∃ I, I = i + 1 := ⟨_, rfl⟩
 rw [<- hI] at wi HC1 hi |-;have hiN : i < N := by omega
 obtain ⟨R, hR⟩ : ∃ R, R = belV (vxs A.vs) x.n := ⟨_, rfl⟩
 have HR := Bx.mk hR;rw [<- hR];have l1 := HC1.out w (Below.refl _ _);have x2 := HX.out w (Below.refl _ _);clear h hA hL has hls hx hPo hpq hPN hN hM hAN hp hI hR HAX HVL;go_enter Tryz.func76, Tryz.ntmps76;go_wp2_with fail
 clear l1 x2;go_loopw [8] (fun nv wr => ∃ n : Nat, n <= PN /\ nv = .int .i64 n /\ Bx (∀ j, j < n -> specV (vxs A.vs)[(x.n.par[j]!).toNat]! = false) /\ Bx (Below w.heap.size w wr)) (fun nv _ => PN - (intOf nv).toNat)
 case atStart => exact ⟨0, by omega, rfl, ⟨fun j hj => by omega⟩, ⟨Below.refl _ _⟩⟩
 case round =>
  obtain ⟨n, hn2, rfl, hF, hB⟩ := hrel;by_cases hlt : n < PN
  ·have hnl : n < x.n.par.length := by rw [<- HPN.out]; exact hlt
   obtain ⟨pb, po, rfl, -, -⟩ := HPR.out.cells w (Below.refl _ _) n hnl;have hq := HP.out _ (zM hnl);obtain ⟨q, hqq⟩ : ∃ q : Nat, x.n.par[n] = (q : Int) := ⟨(x.n.par[n]).toNat, by omega⟩
   rw [hqq] at hq;have hqA : q < AN := by omega
   have hql : q < A.vs.length := by rw [<- HAN.out]; exact hqA
   obtain ⟨ab, ao, rfl, -, -⟩ := HVA.out.at3 w (Below.refl _ _) q hql;have hext := fun (e : Ext wr) => hB.out.trans (e.bel.mono hB.out.size)
   have g1 := fun (e : Ext wr) => HC0.out e.out (hext e)
   have d0 := fun (e : Ext wr) => HPR.out.at' e.out (hext e) n hnl
   simp only [hqq] at d0
   have a0 := fun (e : Ext wr) => (HVA.out.at3' e.out (hext e) q hql).1
   have hYE := vxs_at A.vs q hql;obtain ⟨y, hy⟩ : ∃ y, y = A.vs[q]'hql := ⟨_, rfl⟩
   rw [<- hy] at hYE;simp only [<- hy] at a0
   have l3 := same_any y.n.pol
   have HS := Bx.mk (show specV (vxs A.vs)[(x.n.par[n]!).toNat]! = decide (y.n.pol = anyP) by
    rw [getElem!_pos x.n.par n hnl, hqq, Int.toNat_natCast, hYE]; rfl)
   obtain ⟨S, hS⟩ : ∃ S, S = decide (y.n.pol = anyP) := ⟨_, rfl⟩
   rw [<- hS] at l3 HS;have HM := Bx.mk (zM hnl);have HE := Bx.mk (getElem!_pos x.n.par n hnl);clear hqq hq hy hS hYE hql hext;go_upto_region 5 with fail
   refine wp_region_self (by kernel_rfl) (by kernel_rfl) ?_
   repeat (go_big_quiet_step (fail))
   refine wpQuiet_nil ?_;rintro _ ⟨e1, rfl⟩;have HB1 := Bx.mk (hB.out.trans (e1.bel.mono hB.out.size));obtain ⟨w1, hw1⟩ : ∃ w1, w1 = e1.out := ⟨_, rfl⟩
   rw [<- hw1] at HB1 |-;clear g1 d0 a0 l3 hw1 hB
   cases S with
   | true =>
    have HF := Bx.mk (show R = true by
     rw [HR.out]; unfold belV
     rw [List.any_eq_true]
     exact ⟨_, HM.out, by rw [<- HE.out]; exact HS.out⟩)
    clear HM HE hnl;go_wp2_with fail
    go_ret
    exact ⟨by rw [HF.out]; rfl, HB1.out⟩
   | false =>
    have HF2 := Bx.mk (show ∀ j, j < n + 1 -> specV (vxs A.vs)[(x.n.par[j]!).toNat]! = false from fun j hj => by
     rcases Nat.lt_or_ge j n with e | e
     ·exact hF.out j e
     ·obtain rfl : j = n := by omega
      exact HS.out)
    clear HM HE hnl;go_wp2_with fail
    go_roundw
    case rel => exact ⟨n + 1, by omega, by go_num, HF2, HB1⟩
    case measure => simp [intOf]; omega
  ·obtain rfl : n = PN := by omega
   have HF := Bx.mk (show R = false by
    rw [HR.out]; unfold belV
    rw [List.any_eq_false];intro q hq;obtain ⟨j, hj, rfl⟩ := List.getElem_of_mem hq;have := hF.out j (by rw [HPN.out]; exact hj);rw [getElem!_pos x.n.par j hj] at this
    rw [this]; simp)
   go_wp2_with fail
   go_ret;exact ⟨by rw [HF.out]; rfl, hB.out⟩
def polV (g : List (List Vx)) (k : Nat) (v : Vx) : Bool := (decide (0 <= fndP g[k - 1]! anyP) && decide (fndP g[k - 1]! anyP ∈ v.par)) && (!specV v || decide (k = g.length - 1))
def polL (g : List (List Vx)) (k : Nat) : List B := (List.range k).flatMap fun i => if i = 0 then [] else ((g[i]!).filter (polV g i)).map (·.pol)
def polM (g : List (List Vx)) (k j : Nat) : List B := polL g k ++ (((g[k]!).take j).filter (polV g k)).map (·.pol)
theorem polM_zero (g : List (List Vx)) (k : Nat) : polM g k 0 = polL g k := by simp [polM]
theorem polM_all (g : List (List Vx)) (k : Nat) (hk : 0 < k) : polM g k (g[k]!).length = polL g (k + 1) := by
 unfold polM polL;rw [List.take_length, List.range_succ, List.flatMap_append];simp [show ¬ k = 0 by omega]
theorem polM_succ (g : List (List Vx)) (k j : Nat) (hj : j < (g[k]!).length) : polM g k (j + 1) = polM g k j ++ if polV g k (g[k]!)[j]! then [((g[k]!)[j]!).pol] else [] := by
 unfold polM;generalize g[k]! = l at hj |-;rw [zA hj, List.filter_append, List.map_append, List.append_assoc, getElem!_pos l j hj];congr 2
 cases h : polV g k l[j] <;> simp [List.filter_cons, h]
theorem polL_one (g : List (List Vx)) : polL g 1 = [] := by simp [polL]
theorem polL_zero (g : List (List Vx)) : polL g 0 = [] := by simp [polL]
def gpolP (g : List (List Vx)) : List B := if gvalidB g then setB (polL g g.length) else []
end Go.Proofs.YtmagjdocondmhaaGreat.Tr.Gr
namespace Go.Proofs.YtmagjdocondmhaaGreat.Tr.Gr
open Go Go.RowKit Slc St Mp Tr Rg
theorem bel_fnd {ab : List Vx} {v : Vx} (ho : OrdP ab) (hp : ∀ q ∈ v.par, 0 <= q /\ q < (ab.length : Int)) : belV ab v = (decide (0 <= fndP ab anyP) && decide (fndP ab anyP ∈ v.par)) := by
 unfold belV;by_cases h : 0 <= fndP ab anyP
 ·obtain ⟨k, hk, he, hpk, -⟩ := fndP_some h;rw [zT h, Bool.true_and, he];by_cases hm : (k : Int) ∈ v.par
  ·rw [zT hm, List.any_eq_true];exact ⟨_, hm, by rw [Int.toNat_natCast]; exact zT hpk⟩
  ·rw [zF hm, List.any_eq_false];intro q hq hs;obtain ⟨h0, h1⟩ := hp q hq;have hs' : (ab[q.toNat]!).pol = anyP := of_decide_eq_true hs;have := ord_one ho (i := q.toNat) (j := k) (by omega) hk (by rw [hs', hpk]);exact hm (by rw [<- this, Int.toNat_of_nonneg h0]; exact hq)
 ·rw [zF h, Bool.false_and, List.any_eq_false];intro q hq hs;obtain ⟨h0, h1⟩ := hp q hq;exact fndP_none (by omega) q.toNat (by omega) (of_decide_eq_true hs)
theorem fit_bel {ab : List Vx} {v : Vx} (h : gfitB v ab = true) (hs : specV v = true) : belV ab v = true := by
 unfold gfitB at h;rw [hs] at h;simp only [if_true, Bool.and_eq_true, decide_eq_true_eq] at h
 obtain ⟨-, h1, h2, -⟩ := h;unfold belV;rw [List.any_eq_true];refine ⟨v.par[0]!, ?_, h2⟩;rw [getElem!_pos v.par 0 (by omega)];exact zM _
theorem pol_bel {g : List (List Vx)} (hv : gvalidB g = true) (k : Nat) (hk : k + 1 < g.length) {v : Vx} (hm : v ∈ g[k + 1]!) : polV g (k + 1) v = ((!specV v && belV g[k]! v) || (specV v && decide (k + 1 = g.length - 1))) := by
 have ho := (valid_pv hv).ord k;have hf := (gvalid_at hv k hk).2 v hm
 have hp : ∀ q ∈ v.par, 0 <= q /\ q < ((g[k]!).length : Int) := bad_in (by
  unfold gfitB at hf;rw [Bool.and_eq_true] at hf
  simpa using hf.1)
 have hb := bel_fnd ho hp;unfold polV;rw [show k + 1 - 1 = k by omega, <- hb]
 cases hs : specV v with
 | true => rw [fit_bel hf hs]; simp
 | false => simp
theorem rep_true {m : List Bool} (h : ∀ j, j < m.length -> m[j]! = true) : m = List.replicate m.length true := by
 apply List.ext_getElem (by simp)
 intro j h1 h2;have := h j h1;rw [getElem!_pos m j h1] at this;rw [this]; simp
theorem fwd_self {g : List (List Vx)} (h : gvalidB g = true) (hP : PG g) : ∀ n, n < g.length \/ n = 0 -> fwdG g n = g
 | 0, _ => rfl
 | n + 1, hn => by
  rw [fwdG, fwd_self h hP n (by omega)]
  have hm : marksA g[n + 1]! = List.replicate (g[n + 1]!).length true := by
   have := rep_true (m := marksA g[n + 1]!) fun j hj => by
    rw [marksA_len] at hj;rw [marksA_at _ _ hj, decide_eq_true_eq];exact (gfit_par ((gvalid_at h n (by omega)).2 _ (by rw [getElem!_pos _ j hj]; exact zM hj))).2.1
   rwa [marksA_len] at this
  rw [hm];exact filtG_allM hP (by omega)
theorem valid_kids {g : List (List Vx)} (h : gvalidB g = true) {k : Nat} (hk : k + 1 < g.length) {j : Nat} (hj : j < (g[k]!).length) : (g[k + 1]!).any (fun v => decide ((j : Int) ∈ v.par)) = true := by
 unfold gvalidB at h;rw [zF (by omega), Bool.false_or, Bool.and_eq_true] at h;have h2 := List.all_eq_true.1 h.2 k (by rw [List.mem_range]; omega);unfold lvlB at h2;rw [Bool.and_eq_true, Bool.and_eq_true] at h2;exact List.all_eq_true.1 h2.2.2 j (by rw [List.mem_range]; exact hj)
theorem bwd_self {g : List (List Vx)} (h : gvalidB g = true) (hP : PG g) (hg : 0 < g.length) : ∀ n, n <= g.length - 1 -> bwdG g n = g
 | 0, _ => rfl
 | n + 1, hn => by
  rw [bwdG, bwd_self h hP hg n (by omega)]
  have hm : marksB (g[g.length - 2 - n]!).length g[g.length - 2 - n + 1]! = List.replicate (g[g.length - 2 - n]!).length true := by
   have := rep_true (m := marksB (g[g.length - 2 - n]!).length g[g.length - 2 - n + 1]!) fun j hj => by
    rw [marksB_len] at hj;rw [marksB_at hj];exact valid_kids h (by omega) hj
   rwa [marksB_len] at this
  rw [hm];exact filtG_allM hP (by omega)
theorem prune_self {g : List (List Vx)} (h : gvalidB g = true) (hP : PG g) : pruneG g = g := by
 by_cases hg : g.length = 0
 ·rw [List.length_eq_zero_iff.1 hg]; rfl
 ·have h1 := fwd_self h hP (g.length - 1) (by omega);have h2 := bwd_self h hP (by omega) (g.length - 1) (zR _);unfold pruneG;rw [h1];simp only [h2]
  rw [if_neg];rw [List.any_eq_true];rintro ⟨l, hl, he⟩;rw [decide_eq_true_eq] at he;obtain ⟨k, hk, rfl⟩ := List.getElem_of_mem hl;have : (g[k]!).length = 0 := by rw [getElem!_pos g k hk]; exact he
  cases k with
  | zero =>
   obtain ⟨v, hv, -⟩ := gvalid_top h (by omega)
   rw [hv] at this; simp at this
  | succ k => exact (gvalid_at h k hk).1 (List.length_eq_zero_iff.1 this)
theorem wanV_eq (ps : List B) (st : Int) (v : Vx) : wanV ps st v = if specV v || decide (v.pol ∈ ps) then v else ⟨v.pol, v.ex, v.par.filter fun x => !decide (x = st)⟩ := by
 unfold wanV hitV
 cases hs : specV v with
 | true => simp
 | false =>
  by_cases hp : v.pol ∈ ps
  ·simp [hp]
  ·by_cases hst : st ∈ v.par
   ·simp [hp, hst]
   ·simp only [hp, hst, decide_false, Bool.not_false, Bool.and_false, Bool.false_and, Bool.false_eq_true, if_false, Bool.or_false]
    have : (v.par.filter fun x => !decide (x = st)) = v.par := by
     rw [List.filter_eq_self];intro x hx;have : x ≠ st := fun e => hst (e ▸ hx)
     simp [this]
    rw [this]
theorem wanV_pol (ps : List B) (st : Int) (v : Vx) : (wanV ps st v).pol = v.pol := by unfold wanV; split <;> rfl
theorem wanL_pols (ps : List B) (st : Int) (l : List Vx) : (wanL ps st l).map (·.pol) = l.map (·.pol) := by
 unfold wanL;rw [List.map_map];exact List.map_congr_left fun v _ => wanV_pol ps st v
theorem renL_pols (m : List Bool) (l : List Vx) : (l.map (renV m)).map (·.pol) = l.map (·.pol) := by
 rw [List.map_map]; rfl
theorem ord_pols {a b : List Vx} (h : a.map (·.pol) = b.map (·.pol)) (ho : OrdP b) : OrdP a := by
 have h1 : (b.map (·.pol)).Pairwise (· < ·) := List.pairwise_map.2 ho;rw [<- h] at h1;exact List.pairwise_map.1 h1
theorem len_pols {a b : List Vx} (h : a.map (·.pol) = b.map (·.pol)) : a.length = b.length := by
 have := congrArg List.length h;simpa using this
theorem fndP_is {l : List Vx} (ho : OrdP l) {k : Nat} (hk : k < l.length) (q : B) : fndP l q = (k : Int) ↔ (l[k]!).pol = q := by
 constructor
 ·intro h;obtain ⟨j, hj, he, hp, -⟩ := fndP_some (l := l) (p := q) (by omega);have : j = k := by omega
  rw [<- this]; exact hp
 ·intro h;rw [<- h]; exact fndP_at ho hk
theorem ren_filt {m : List Bool} {Y : List Vx} (ho : OrdP Y) (hm : m.length = Y.length) : ∀ (ps : List Int), (∀ p ∈ ps, 0 <= p /\ p < (Y.length : Int)) ->
  renP m (ps.filter fun x => !decide (x = fndP Y anyP)) = (renP m ps).filter fun x => !decide (x = fndP (keepT Y m Y.length) anyP)
 | [], _ => rfl
 | p :: ps, h => by
  have hp := h p List.mem_cons_self;have ih := ren_filt ho hm ps fun q hq => h q (List.mem_cons_of_mem _ hq)
  have hk : p.toNat < Y.length := by omega
  have e1 : p = fndP Y anyP ↔ (Y[p.toNat]!).pol = anyP := by
   rw [<- fndP_is ho hk anyP];exact ⟨fun e => by rw [<- e]; omega, fun e => by rw [e]; omega⟩
  rw [renP_cons, List.filter_cons]
  cases hmk : m[p.toNat]! with
  | false =>
   simp only [Bool.false_eq_true, if_false, List.nil_append]
   split
   ·rw [renP_cons, hmk]; simpa using ih
   ·exact ih
  | true =>
   obtain ⟨a1, a2⟩ := keepT_at (l := Y) hk hmk
   have e2 : ((rk m p.toNat : Nat) : Int) = fndP (keepT Y m Y.length) anyP ↔ (Y[p.toNat]!).pol = anyP := by
    rw [<- a2, <- fndP_is (keepT_ord ho m) a1 anyP];exact ⟨fun e => e.symm, fun e => e.symm⟩
   simp only [if_true, List.singleton_append]
   rw [List.filter_cons];by_cases q : (Y[p.toNat]!).pol = anyP
   ·rw [zT (e1.2 q), zT (e2.2 q)];simpa using ih
   ·rw [zF (fun e => q (e1.1 e)), zF (fun e => q (e2.1 e))];simp only [Bool.not_false, if_true]
    rw [renP_cons, hmk];simp only [if_true, List.singleton_append]
    rw [ih]
theorem ren_wan {m : List Bool} {Y : List Vx} (ho : OrdP Y) (hm : m.length = Y.length) (ps : List B) {v : Vx} (h : ∀ p ∈ v.par, 0 <= p /\ p < (Y.length : Int)) : renV m (wanV ps (fndP Y anyP) v) = wanV ps (fndP (keepT Y m Y.length) anyP) (renV m v) := by
 rw [wanV_eq, wanV_eq];have hs : specV (renV m v) = specV v := rfl;have hp : (renV m v).pol = v.pol := rfl;rw [hs, hp];split
 ·rfl
 ·unfold renV;simp only
  rw [ren_filt ho hm v.par h]
def r1G (ps : List B) (g : List (List Vx)) (n : Nat) : List (List Vx) := (List.range g.length).map fun k => if 0 < k /\ k <= n then wanL ps (fndP g[k - 1]! anyP) g[k]! else g[k]!
theorem r1G_len (ps : List B) (g : List (List Vx)) (n : Nat) : (r1G ps g n).length = g.length := by simp [r1G]
theorem r1G_at (ps : List B) (g : List (List Vx)) (n : Nat) {k : Nat} (hk : k < g.length) : (r1G ps g n)[k]! = if 0 < k /\ k <= n then wanL ps (fndP g[k - 1]! anyP) g[k]! else g[k]! := by
 rw [getElem!_pos _ k (by rw [r1G_len]; exact hk)];simp only [r1G, List.getElem_map, List.getElem_range]
theorem get_ext {a b : List (List Vx)} (hl : a.length = b.length) (h : ∀ j, j < a.length -> a[j]! = b[j]!) : a = b := by
 apply List.ext_getElem hl
 intro j h1 h2;have := h j h1;rwa [getElem!_pos a j h1, getElem!_pos b j h2] at this
theorem r1G_zero (ps : List B) (g : List (List Vx)) : r1G ps g 0 = g := by
 apply get_ext (r1G_len _ _ _)
 intro j hj;rw [r1G_len] at hj;rw [r1G_at ps g 0 hj, if_neg (by omega)]
theorem r1G_pols (ps : List B) (g : List (List Vx)) (n : Nat) {k : Nat} (hk : k < g.length) : ((r1G ps g n)[k]!).map (·.pol) = (g[k]!).map (·.pol) := by
 rw [r1G_at ps g n hk];split
 ·exact wanL_pols _ _ _
 ·rfl
theorem set_at2 {g : List (List Vx)} {k j : Nat} (hk : k < g.length) (l : List Vx) : (g.set k l)[j]! = if j = k then l else g[j]! := by
 by_cases hj : j < g.length
 ·rw [getElem!_pos _ j (by simpa using hj), List.getElem_set];by_cases e : k = j
  ·rw [if_pos e, if_pos e.symm]
  ·rw [if_neg e, if_neg (fun q => e q.symm), getElem!_pos g j hj]
 ·rw [getElem!_neg _ j (by simpa using hj), if_neg (by omega), getElem!_neg g j hj]
theorem r1G_succ (ps : List B) (g : List (List Vx)) {n : Nat} (hn : n + 1 < g.length) : (r1G ps g n).set (n + 1) (wanL ps (fndP (r1G ps g n)[n]! anyP) (r1G ps g n)[n + 1]!) = r1G ps g (n + 1) := by
 apply get_ext (by rw [zL, r1G_len, r1G_len])
 intro j hj;rw [zL, r1G_len] at hj;have hx : (r1G ps g n)[n + 1]! = g[n + 1]! := by rw [r1G_at ps g n hn, if_neg (by omega)]
 rw [set_at2 (by rw [r1G_len]; exact hn), r1G_at ps g (n + 1) hj, fndP_pols (r1G_pols ps g n (k := n) (by omega)), hx];by_cases e : j = n + 1
 ·subst e;rw [if_pos rfl, if_pos (by omega), Nat.add_sub_cancel]
 ·rw [if_neg e, r1G_at ps g n hj];by_cases q : 0 < j /\ j <= n
  ·rw [if_pos q, if_pos (by omega)]
  ·rw [if_neg q, if_neg (by omega)]
theorem wanK_at {ps : List B} {A : List (List Vx)} {k : Nat} (hk : k < A.length) (j : Nat) : (wanK ps A k)[j]! = if j = k then keepT (wanL ps (fndP A[k - 1]! anyP) A[k]!) (marksA (wanL ps (fndP A[k - 1]! anyP) A[k]!)) (wanL ps (fndP A[k - 1]! anyP) A[k]!).length else if j = k + 1 then (A[j]!).map (renV (marksA (wanL ps (fndP A[k - 1]! anyP) A[k]!))) else A[j]! := by
 unfold wanK;rw [filtG_at (by rw [zL]; exact hk), set_at2 hk, if_pos rfl];split
 ·rfl
 ·rename_i e
  rw [set_at2 hk, if_neg e]
theorem wan_fwd {g : List (List Vx)} (hP : PG g) (hO : ∀ (k : Nat), OrdP g[k]!) (ps : List B) : ∀ n, n < g.length ->
  (∀ j, j <= n -> (wanG ps g n)[j]! = (fwdG (r1G ps g (g.length - 1)) n)[j]!) /\
  (n + 1 < g.length -> (fwdG (r1G ps g (g.length - 1)) n)[n + 1]! = wanL ps (fndP (wanG ps g n)[n]! anyP) (wanG ps g n)[n + 1]! /\ ((wanG ps g n)[n + 1]!).map (·.pol) = (g[n + 1]!).map (·.pol)) /\
  (∀ j, n + 1 < j -> j < g.length -> (wanG ps g n)[j]! = g[j]! /\ (fwdG (r1G ps g (g.length - 1)) n)[j]! = (r1G ps g (g.length - 1))[j]!) := by
 intro n
 induction n with
 | zero =>
  intro h0;refine ⟨fun j hj => ?_, fun h1 => ⟨?_, rfl⟩, fun j _ _ => ⟨rfl, rfl⟩⟩
  ·obtain rfl : j = 0 := by omega
   show g[0]! = (r1G ps g (g.length - 1))[0]!
   rw [r1G_at _ _ _ h0, if_neg (by omega)]
  ·show (r1G ps g (g.length - 1))[0 + 1]! = _
   rw [r1G_at _ _ _ h1, if_pos (by omega)]
   rfl
 | succ n ih =>
  intro hn;obtain ⟨i1, i2, i3⟩ := ih (by omega);obtain ⟨i2, i2p⟩ := i2 hn;have hAl := wanG_len ps g n;have hFl : (fwdG (r1G ps g (g.length - 1)) n).length = g.length := by rw [fwdG_len, r1G_len]
  rw [wanG, fwdG];generalize hA : wanG ps g n = A at *;generalize hF : fwdG (r1G ps g (g.length - 1)) n = F at *;generalize hX : wanL ps (fndP A[n]! anyP) A[n + 1]! = X at *
  have hWK : ∀ j, (wanK ps A (n + 1))[j]! = if j = n + 1 then keepT X (marksA X) X.length else if j = n + 1 + 1 then (A[j]!).map (renV (marksA X)) else A[j]! := fun j => by
   have := wanK_at (ps := ps) (A := A) (k := n + 1) (by omega) j;rw [Nat.add_sub_cancel, hX] at this;exact this
  have hFK : ∀ j, (filtG F (n + 1) (marksA F[n + 1]!))[j]! = if j = n + 1 then keepT X (marksA X) X.length else if j = n + 1 + 1 then (F[j]!).map (renV (marksA X)) else F[j]! := fun j => by
   rw [filtG_at (by omega), i2]
  have hXp : X.map (·.pol) = (g[n + 1]!).map (·.pol) := by rw [<- hX, wanL_pols, i2p]
  refine ⟨fun j hj => ?_, fun h2 => ⟨?_, ?_⟩, fun j h1 h2 => ⟨?_, ?_⟩⟩
  ·rw [hWK, hFK];by_cases e : j = n + 1
   ·rw [if_pos e, if_pos e]
   ·rw [if_neg e, if_neg e, if_neg (by omega), if_neg (by omega)];exact i1 j (by omega)
  ·rw [hFK, if_neg (by omega), if_pos rfl, hWK, if_pos rfl, hWK, if_neg (by omega), if_pos rfl];rw [(i3 (n + 1 + 1) (by omega) h2).1, (i3 (n + 1 + 1) (by omega) h2).2, r1G_at _ _ _ h2, if_pos (by omega), Nat.add_sub_cancel];unfold wanL;rw [List.map_map, List.map_map];apply List.map_congr_left
   intro v hv;simp only [Function.comp_apply]
   rw [fndP_pols hXp.symm anyP];refine ren_wan (ord_pols hXp (hO _)) (marksA_len X) ps fun p hp => ?_
   rw [len_pols hXp];exact hP.par (n + 1) h2 v hv p hp
  ·rw [hWK, if_neg (by omega), if_pos rfl, renL_pols, (i3 (n + 1 + 1) (by omega) h2).1]
  ·rw [hWK, if_neg (by omega), if_neg (by omega)]; exact (i3 j (by omega) h2).1
  ·rw [hFK, if_neg (by omega), if_neg (by omega)]; exact (i3 j (by omega) h2).2
theorem wan_eq {g : List (List Vx)} (hP : PG g) (hO : ∀ (k : Nat), OrdP g[k]!) (hg : 0 < g.length) (ps : List B) : wanG ps g (g.length - 1) = fwdG (r1G ps g (g.length - 1)) (g.length - 1) := by
 apply get_ext (by rw [wanG_len, fwdG_len, r1G_len])
 intro j hj;rw [wanG_len] at hj;exact (wan_fwd hP hO ps (g.length - 1) (by omega)).1 j (by omega)
end Go.Proofs.YtmagjdocondmhaaGreat.Tr.Gr
