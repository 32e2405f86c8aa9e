/- packed -/
import Derived.Test.YtmagjdocondmhaaGreatPkAn05
import Derived.Maps.Range
import Derived.Maps.RangeWalk
import Derived.Sort.KeysCollected
set_option linter.unusedVariables false
set_option linter.unusedSimpArgs false
set_option maxRecDepth 100000
set_option maxHeartbeats 64000000
namespace Go.Proofs.YtmagjdocondmhaaGreat.Tr.Gr
open Go Go.RowKit Slc St Mp Tr Rg
attribute [local go_sem] Oper.semAt_some
def Lv0 : Lv := ⟨[], ⟨none, 0, 0⟩⟩
theorem made_levs (n : Nat) : madeCells (Value.agg #[.slice none 0 0]).cells (n * 1) = Array.replicate n (.slice none 0 0) := by
 have e : (Value.agg #[.slice none 0 0]).cells = (Value.slice none 0 0).cells := rfl;have h := toList_madeCells_one (.slice none 0 0) n;have e2 : (Value.slice none 0 0).cells = #[.slice none 0 0] := rfl;rw [e, e2, Nat.mul_one];apply Array.ext'
 rw [h, Array.toList_replicate]
theorem levs_flat (n : Nat) : (Array.replicate n (Value.slice none 0 0)).toList = (List.replicate n Lv0).flatMap encL := by
 rw [Array.toList_replicate]
 induction n with
 | zero => rfl
 | succ n ih => rw [List.replicate_succ, List.replicate_succ, List.flatMap_cons, <- ih]; rfl
structure CpL (g gi : List Lv) (i : Nat) : Prop where
 len : gi.length = g.length
 dn : ∀ (r : Nat) (h1 : r < gi.length) (h2 : r < g.length), r < i -> vxs (gi[r]).vs = vxs (g[r]).vs
 un : ∀ (r : Nat) (h1 : r < gi.length), i <= r -> gi[r] = Lv0
def doneV (gi : List Lv) (i : Nat) : List Vt := (gi.take i).flatMap (·.vs)
theorem go_empty {w : World} {B : Nat} {v : Value} {n : Nat} (h : Slc.Own w B 63 1 encL v (List.replicate n Lv0)) : GO w B v (List.replicate n Lv0) := by
 have e : ∀ L ∈ List.replicate n Lv0, L = Lv0 := fun L hL => List.eq_of_mem_replicate hL
 refine ⟨h, fun L hL => by rw [e L hL]; exact Slc.Own.nil _ _, fun i j hi hj _ k hk => ?_, fun L hL k hk => ?_, fun L hL x hx => ?_⟩
 ·rw [e _ (zM hi)] at hk; cases hk
 ·rw [e L hL] at hk; cases hk
 ·rw [e L hL] at hx; cases hx
theorem copied_any (w : World) (v : Value) (g : List Lv) (h : GL w v g) (hn : g.length <= 100000) (hln : ∀ L ∈ g, L.vs.length <= 100000) :
  Calls Tryz.prog 52 #[v] w fun e w' => ∃ v' g', e = .returned v' /\ GO w' w.heap.size v' g' /\ gxs g' = gxs g /\ PD w' w.heap.size (g'.flatMap (·.vs)) /\ Below w.heap.size w w' := by
 obtain ⟨il, hil, hil0, hil1, hil2⟩ := info_parts info_lev;obtain ⟨ad, c, rfl, -⟩ := h.rd.form;have HG := Bx.mk h;have HLN := Bx.mk hln;obtain ⟨N, hN⟩ : ∃ N, N = g.length := ⟨_, rfl⟩
 have HN := Bx.mk hN;rw [<- hN] at hn |-;have hmk := run_makeSlice (P := Tryz.prog) w 23 63 il (.agg #[.slice none 0 0]) Tryz.underlying23 hil hil0 .i64 .i64 (N : Nat) (N : Nat) (by omega) (by omega) (by rw [Int.toNat_natCast, hil1]; omega) (by rw [hil2]; omega) (by omega);simp only [Int.toNat_natCast, hil1, made_levs] at hmk
 obtain ⟨ob, hob⟩ : ∃ q, q = w.heap.size := ⟨_, rfl⟩
 obtain ⟨W1, hW1⟩ : ∃ W1, W1 = w.alloc (.cells (Array.replicate N (.slice none 0 0)) 63) := ⟨_, rfl⟩
 have hb1 : Below w.heap.size w W1 := by rw [hW1]; exact (Below.refl _ _).alloc (zR _) _
 have hown := own_alloc (Bk := w.heap.size) encL_ok w (List.replicate N Lv0) (Array.replicate N (.slice none 0 0)) (levs_flat N) (zR _) (by unfold maxLen; simp; omega) (e := 63);rw [<- hW1, List.length_replicate, <- hob] at hown;have HG1 := Bx.mk (go_empty hown);have HB1 := Bx.mk (show Below ob w W1 by rw [hob]; exact hb1);have HOB := Bx.mk hob;have HC1 := Bx.mk (show CpL g (List.replicate N Lv0) 0 from ⟨by rw [List.length_replicate, hN], fun r _ _ h => by omega, fun r h1 _ => by simp⟩);have HP1 := Bx.mk (show PD W1 ob (doneV (List.replicate N Lv0) 0) by unfold doneV; rw [List.take_zero]; exact PD.nil _ _);clear h hln hN hb1 hown;go_enter Tryz.func52, Tryz.ntmps52;go_wp2_with fail
 rw [<- hW1, <- hob];clear hmk hW1 hob;go_loopw [13] (fun i wr => ∃ (k : Nat) (gi : List Lv), k <= N /\ i = .int .i64 k /\ Bx (GO wr ob (.slice (some ⟨ob, 0, none⟩) N N) gi) /\ Bx (CpL g gi k) /\ Bx (PD wr ob (doneV gi k)) /\ Bx (Below ob w wr)) (fun i _ => N - (intOf i).toNat)
 case atStart => exact ⟨0, _, by omega, rfl, HG1, HC1, HP1, HB1⟩
 case round =>
  clear HG1 HC1 HP1 HB1;obtain ⟨k, gi, hk, rfl, hGO, hCL, hPD, hBw⟩ := hrel;obtain ⟨wo, rfl⟩ : ∃ wo : World, wo = wr := ⟨_, rfl⟩
  by_cases hlt : k < N
  ·have HKG := Bx.mk (show k < g.length by rw [<- HN.out]; exact hlt);have HKI := Bx.mk (show k < gi.length by rw [hCL.out.len]; exact HKG.out);have hBw' : Below w.heap.size w wo := HOB.out ▸ hBw.out;obtain ⟨b, o, rfl, hbl, l0⟩ := (ls_cells HG.out.rd).2 wo (fun k hk _ => hBw'.block k hk) k HKG.out;have hvl := (HG.out.lv _ (zM HKG.out));have hll := HLN.out _ (zM HKG.out);obtain ⟨L, hL⟩ : ∃ L, L = g[k]'HKG.out := ⟨_, rfl⟩
   rw [<- hL] at l0 hvl hll;have HL := Bx.mk hL;obtain ⟨la, lc, hls, -⟩ := hvl.rd.form;rw [hls] at l0 hvl;obtain ⟨NV, hNV⟩ : ∃ NV, NV = L.vs.length := ⟨_, rfl⟩
   have HNV := Bx.mk hNV;have HVL := Bx.mk hvl;obtain ⟨W2, hW2⟩ : ∃ W2, W2 = wo.alloc (.cells #[.slice la NV lc] 63) := ⟨_, rfl⟩
   have hb2 : Below wo.heap.size wo W2 := by rw [hW2]; exact (Below.refl _ _).alloc (zR _) _
   obtain ⟨q5, hq5⟩ : ∃ q, q = wo.heap.size := ⟨_, rfl⟩
   have hr5 : W2.heap[q5]? = some (.cells #[.slice la NV lc] 63 (0, 0)) := by rw [hW2, hq5]; exact heap_alloc_new _ _
   have hbw2 := hBw'.trans (hb2.mono hBw'.size);have hcl := cloneV_any W2 _ L.vs (hvl.below hbw2) (by omega);rw [<- hNV] at l0 hll hcl;have HB2 := Bx.mk hb2;have HR5 := Bx.mk hr5;have HQ5 := Bx.mk hq5;have m5 := cell_of_row _ _ 0 _ _ _ hr5;simp only [List.getElem?_toArray, List.getElem?_cons_zero, List.getElem?_cons_succ] at m5
   clear hL hvl hls hNV hb2 hr5 hbw2 hBw';go_upto_region 5 with fail
   rw [<- hW2, <- hq5];clear hW2 hq5 l0;go_wp2_with fail
   go_at_call 99;refine hcl.mono ?_;rintro e w3 ⟨u, rfl, hu, hb3⟩;clear hcl m5;have HU := Bx.mk hu;obtain ⟨na, nc, rfl, -⟩ := hu.rd.form;rw [<- HNV.out] at hu |-;have hgo3 := (hGO.out.below HB2.out).below hb3;have hobl : ob <= W2.heap.size := by have := HB2.out.size; have := hBw.out.size; have := HOB.out; omega
   have hW2s : wo.heap.size < W2.heap.size := by have := lt_of_some HR5.out; have := HQ5.out; omega
   have hlow : ∀ q, (Value.slice na NV nc).ownBlock = some q -> W2.heap.size <= q := fun q hq => (hu.lt q hq).1
   have hgbl : ∀ q, GB (.slice (some ⟨ob, 0, none⟩) N N) gi q -> q < wo.heap.size := fun q hq => (hGO.out.lt hq).2
   obtain ⟨gb', cap', hgv, hgl, hgfz, hgo4, hgr4⟩ := hgo3.setL k HKI.out ⟨L.vs, ⟨na, NV, nc⟩⟩ (hu.mono hobl) (fun q hq => by
     have h1 := hlow q hq;refine ⟨fun e => ?_, fun i hi _ e => ?_⟩
     ·have := hgbl q (.inl e); omega
     ·have := hgbl q (.inr ⟨_, zM hi, e⟩); omega) (fun i hi _ x hx => by
     refine VtIn.mono (VtIn.below (VtIn.below (hGO.out.nm _ (zM hi) x hx).at_ HB2.out) hb3) fun q _ hq e => ?_
     have := hlow q e; omega) (fun x hx => by
     have h0 := (HVL.out.at_ x hx);refine VtIn.mono (VtIn.below (VtIn.below (VtIn.below h0 (HOB.out ▸ hBw.out)) HB2.out) hb3) fun q _ hq hn => ?_
     have h2 : ob <= q := by
      rcases GB.set hn with e | e
      ·exact (hGO.out.lt e).1
      ·have := hlow q e; omega
     have := HOB.out
     omega)
   simp only [Value.slice.injEq, zO, Addr.mk.injEq, and_true] at hgv
   obtain ⟨rfl, -, -⟩ := hgv;obtain ⟨gb2, he2, l4, -⟩ := hgo3.cellL k HKI.out;simp only [zO, Addr.mk.injEq, and_true] at he2
   subst he2;have z4 := hgfz k;obtain ⟨W4, hW4⟩ : ∃ W4, W4 = w3.setCell ⟨ob, k, none⟩ (.slice na NV nc) := ⟨_, rfl⟩
   have HW4 := Bx.mk hW4;have hoblt : ob < wo.heap.size := hgbl ob (.inl rfl);have HGO4 := Bx.mk (show GO W4 ob (.slice (some ⟨ob, 0, none⟩) N N) (gi.set k ⟨L.vs, ⟨na, NV, nc⟩⟩) by rw [hW4]; exact hgo4)
   have HB4 := Bx.mk (show Below ob w W4 by
    rw [hW4]
    exact ((hBw.out.trans (HB2.out.mono (by omega))).trans (hb3.mono (by omega))).setCell (zR _) _)
   have hpd3 := (hPD.out.below HB2.out).below hb3
   have HPD4 := Bx.mk (show PD W4 ob (doneV gi k ++ L.vs.take 0) by
    rw [List.take_zero, List.append_nil, hW4]
    exact hpd3.keep (by simp) fun x hx q hq _ => heap_setCell_other _ _ _ _ (by
     show q ≠ ob
     rintro rfl
     exact own_type (hpd3.own x hx) hgo3.own (by decide) q hq rfl))
   have HR54 := Bx.mk (show W4.heap[q5]? = some (.cells #[.slice la NV lc] 63 (0, 0)) by
    rw [hW4];have hne : q5 ≠ ob := by have := HQ5.out; omega
    exact row_other ((hb3.block q5 (lt_of_some HR5.out)).trans HR5.out) hne _)
   have m5 := cell_of_row _ _ 0 _ _ _ HR54.out;simp only [List.getElem?_toArray, List.getElem?_cons_zero, List.getElem?_cons_succ] at m5
   have HNL := Bx.mk (show gi.length = N by rw [hCL.out.len, HN.out]);have HUN := Bx.mk hCL.out;clear hgo3 hgo4 hgr4 hgl hgfz hpd3 hlow hgbl hobl hW2s hu hb3 hW4 hoblt;go_upto_region 6 with fail
   rw [<- HW4.out];clear HW4 l4 z4;go_wp2_with fail
   clear m5;go_loopw [28] (fun i wr => ∃ (j : Nat) (vs2 : List Vt), j <= NV /\ i = .int .i64 j /\ Bx (vs2.length = NV) /\ Bx (∀ (r : Nat) (h1 : r < vs2.length) (h2 : r < L.vs.length), (vs2[r]).n = (L.vs[r]).n /\ (j <= r -> vs2[r] = L.vs[r])) /\ Bx (GO wr ob (.slice (some ⟨ob, 0, none⟩) N N) (gi.set k ⟨vs2, ⟨na, NV, nc⟩⟩)) /\ Bx (PD wr ob (doneV gi k ++ vs2.take j)) /\ Bx (Below ob w wr)) (fun i _ => NV - (intOf i).toNat)
   case atStart => exact ⟨0, L.vs, by omega, rfl, ⟨HNV.out.symm⟩, ⟨fun r h1 h2 => ⟨rfl, fun _ => rfl⟩⟩, HGO4, HPD4, HB4⟩
   case round =>
    clear HGO4 HPD4 HB4 HR54 hGO hPD hCL;obtain ⟨j, vs2, hj, rfl, hvl, hvs, hGO, hPD, hB⟩ := hrel;have HKI2 := Bx.mk (show k < (gi.set k ⟨vs2, ⟨na, NV, nc⟩⟩).length by rw [zL]; exact HKI.out);by_cases hlt2 : j < NV
    ·have HJL := Bx.mk (show j < L.vs.length by rw [<- HNV.out]; exact hlt2);have HJ2 := Bx.mk (show j < vs2.length by rw [hvl.out]; exact hlt2);have hBw2 : Below w.heap.size w wr := HOB.out ▸ hB.out;obtain ⟨b2, o2, rfl, -, c0, c1, c2⟩ := HVL.out.at3 wr hBw2 j HJL.out;have HXA := Bx.mk (VtIn.below (HVL.out.at_ _ (zM HJL.out)) hBw2).at_;have hxe := (hvs.out j HJ2.out HJL.out).2 (zR _);obtain ⟨x, hx⟩ : ∃ x, x = L.vs[j]'HJL.out := ⟨_, rfl⟩
     rw [<- hx] at c0 c1 c2 HXA hxe;have HXE := Bx.mk hxe;have HXL := Bx.mk hx
     obtain ⟨nb, hnb⟩ : ∃ nb, na = some ⟨nb, 0, none⟩ := by
      have h1 := hGO.out.lv _ (zM HKI2.out);simp only [List.getElem_set_self] at h1
      obtain ⟨nb, cap, hv, -⟩ := h1.set1 encV_ok j 0 HJ2.out (by omega) (.string (bstr (vs2[j]'HJ2.out).n.pol)) (vs2[j]'HJ2.out) rfl;simp only [Sl.val, Value.slice.injEq] at hv
      exact ⟨nb, hv.1⟩
     subst hnb;simp only [Sl.val] at c1 c2
     obtain ⟨W5, hW5⟩ : ∃ W5, W5 = wr.alloc (.cells #[.string (bstr x.n.pol), .slice x.u.ad x.u.n x.u.c, .slice x.q.ad x.q.n x.q.c] 65) := ⟨_, rfl⟩
     have hb5 : Below wr.heap.size wr W5 := (by rw [hW5]; exact (Below.refl _ _).alloc (zR _) _);obtain ⟨q7, hq7⟩ : ∃ q, q = wr.heap.size := ⟨_, rfl⟩
     have hr7 : W5.heap[q7]? = some (.cells #[.string (bstr x.n.pol), .slice x.u.ad x.u.n x.u.c, .slice x.q.ad x.q.n x.q.c] 65 (0, 0)) := (by rw [hW5, hq7]; exact heap_alloc_new _ _);obtain ⟨g2, hg2⟩ : ∃ g2, g2 = gi.set k ⟨vs2, ⟨some ⟨nb, 0, none⟩, NV, nc⟩⟩ := ⟨_, rfl⟩
     have HG2 := Bx.mk hg2;rw [<- hg2] at hGO;have HK2 := Bx.mk (show k < g2.length by rw [hg2, zL]; exact HKI.out);have HS2 := Bx.mk (show g2[k]'HK2.out = ⟨vs2, ⟨some ⟨nb, 0, none⟩, NV, nc⟩⟩ by simp only [hg2]; simp);have HGO5 := Bx.mk (hGO.out.below hb5);have HPD5 := Bx.mk (hPD.out.below hb5);have HR7 := Bx.mk hr7;have HB5 := Bx.mk (hB.out.trans (hb5.mono (by have := hB.out.size; have := hBw2.size; have := HOB.out; omega)));have hgbn : GB (.slice (some ⟨ob, 0, none⟩) N N) g2 nb := .inr ⟨_, zM HK2.out, by rw [HS2.out]; rfl⟩;have HNBL := Bx.mk (show nb < wr.heap.size /\ ob <= nb from ⟨(hGO.out.lt hgbn).2, (hGO.out.lt hgbn).1⟩);have HOBN := Bx.mk (show ob ≠ nb from fun e => hGO.out.ao _ (zM HK2.out) nb (by rw [HS2.out]; rfl) (by rw [<- e]; rfl));have HQ7 := Bx.mk hq7;have HLT5 := Bx.mk (show ∀ q, GB (.slice (some ⟨ob, 0, none⟩) N N) g2 q -> q < W5.heap.size from fun q hq => (HGO5.out.lt hq).2);have HSZ5 := Bx.mk (show W5.heap.size = wr.heap.size + 1 by rw [hW5]; simp);have hxw : VtAt w x := by have := HVL.out.at_ _ (zM HJL.out); rwa [<- hx] at this
     have hkk : ∀ (W' : World), W5.grownBy W' (some nb) -> ∀ q, q < w.heap.size -> W'.heap[q]? = w.heap[q]? := fun W' hW' q hq => by
      have h1 := HOB.out;have h2 := HNBL.out;have h3 := HB5.out.size;exact (hW'.block q (by omega) (by simp only [ne_eq, zO]; omega)).trans (HB5.out.block q (by omega))
     have HCS := Bx.mk (fun (W' : World) (hW' : W5.grownBy W' (some nb)) => cloneS_any W' (.slice x.u.ad x.u.n x.u.c) x.n.ex (hxw.1.1.keep (Nat.le_trans HB5.out.size hW'.size) fun q _ hl => hkk W' hW' q hl) (by have := hxw.2.2.1.1; omega));have HCI := Bx.mk (fun (W' : World) (hW' : W5.grownBy W' (some nb)) => cloneI_any W' (.slice x.q.ad x.q.n x.q.c) x.n.par (RqIn.keep hxw.2.1 (Nat.le_trans HB5.out.size hW'.size) fun q _ hl => hkk W' hW' q hl).all (by have := hxw.2.2.2.2.1; omega));have HXOK := Bx.mk hxw.2.2;clear hxe hx hb5 hr7 hg2 hgbn hBw2 hxw hkk;go_upto_region 9 with fail
     rw [<- hW5, <- hq7];clear hW5 hq7 c0 c1 c2;have mixed : Tryz.prog.follows .mixedOrders = true := (by kernel_rfl);have hQ7nb : q7 ≠ nb := (by have := HQ7.out; have := HNBL.out.1; omega);refine wp_region_factsH 24 (fun _ => none) (fun i => i == 20 || i == 23) (fun i z w' => CpF W5 ob nb q7 N N k j NV nc x i (z i) w') (CpC W5 ob (.slice (some ⟨ob, 0, none⟩) N N) g2 k j nb vs2 ⟨some ⟨nb, 0, none⟩, NV, nc⟩ x) (CpG W5 nb j x) ?_ mixed (by kernel_rfl) (by rfl) ?_ ?_ ?_ ?_ ?_ ?_ ?_
     ·refine ⟨⟨rfl, rfl, rfl, zR _, fun _ _ _ => rfl⟩, x, rfl, ?_, fun _ => rfl, (fun e => Bool.noConfusion e), fun _ => rfl, (fun e => Bool.noConfusion e)⟩
      have e : g2.set k ⟨vs2.set j x, ⟨some ⟨nb, 0, none⟩, NV, nc⟩⟩ = g2 := by
       have e1 : vs2.set j x = vs2 := by
        rw [<- HXE.out]; exact List.set_getElem_self _
       rw [e1, <- HS2.out]; exact List.set_getElem_self _
      rw [e];exact HGO5.out.keep (zR _) fun _ _ _ => rfl
     ·intro i oi z y w1 _ _ e _ hh
      show CpF _ _ _ _ _ _ _ _ _ _ _ i (y i) w1
      rw [<- e]; exact hh
     ·exact fun i z w1 w2 hh hb => CpF.keep _ _ _ _ _ _ _ _ _ _ _ _ _ _ _ hh fun q _ hl => hb.block q hl
     ·exact fun d i w1 w2 hh hb _ hB => hh.bel hb hB
     ·exact fun d i oi w1 w2 _ _ hh hb _ hg => hh.big HK2.out HJ2.out rfl (by have := HNBL.out.1; have := HSZ5.out; omega) HLT5.out (by rw [HS2.out]) HXOK.out hb hg
     ·intro b ob' i z d w1 w2 hb _ _ _ _ _ _ _ _ hh hg;have hn5 : nb < W5.heap.size := (by have := HNBL.out.1; have := HSZ5.out; omega);unfold CpG at hg;split at hg
      ·obtain ⟨u, _, rfl⟩ := hg;exact CpF.keep _ _ _ _ _ _ _ _ _ _ _ _ _ _ _ hh fun q hq _ => heap_setCell_other _ _ _ _ (by show q ≠ nb; omega)
      ·obtain ⟨u, _, rfl⟩ := hg;exact CpF.keep _ _ _ _ _ _ _ _ _ _ _ _ _ _ _ hh fun q hq _ => heap_setCell_other _ _ _ _ (by show q ≠ nb; omega)
     ·intro i o hi ho d z w7 hcl hdi hrd hCC hd;have hc : i = 0 \/ i = 1 \/ i = 2 \/ i = 3 \/ i = 4 \/ i = 5 \/ i = 6 \/ i = 7 \/ i = 8 \/ i = 9 \/ i = 10 \/ i = 11 \/ i = 12 \/ i = 13 \/ i = 14 \/ i = 15 \/ i = 16 \/ i = 17 \/ i = 18 \/ i = 19 \/ i = 20 \/ i = 21 \/ i = 22 \/ i = 23 := (by omega);have HG7 := Bx.mk hCC.gr;obtain ⟨y, -, hgy, -, -, -, -⟩ := hCC.st;have hk7 : k < (g2.set k ⟨vs2.set j y, ⟨some ⟨nb, 0, none⟩, NV, nc⟩⟩).length := (by rw [zL]; exact HK2.out);obtain ⟨gbx, hex, lx, -⟩ := hgy.cellL k hk7;simp only [zO, Addr.mk.injEq, and_true] at hex
      subst hex;simp only [List.getElem_set_self, Sl.val] at lx
      have hr7 := (hCC.gr.block q7 (lt_of_some HR7.out) (by simp only [ne_eq, zO]; exact hQ7nb)).trans HR7.out;have m1 := cell_of_row _ _ 1 _ _ _ hr7;have m2 := cell_of_row _ _ 2 _ _ _ hr7;simp only [List.getElem?_toArray, List.getElem?_cons_zero, List.getElem?_cons_succ] at m1 m2
      have HNC := Bx.mk (show ∀ o, o < 3 -> (∃ u, w7.cell? ⟨nb, j * 3 + o, none⟩ = some u) /\ w7.frozen? ⟨nb, j * 3 + o, none⟩ = false from fun o ho3 => by
       have h1 := hgy.lv _ (zM hk7);simp only [List.getElem_set_self, Sl.val] at h1
       have hj7 : j < (vs2.set j y).length := (by rw [zL]; exact HJ2.out);obtain ⟨nb', cap', hv', -, -, hf', -, -⟩ := h1.set1 encV_ok j 0 hj7 (by omega) (.string (bstr y.n.pol)) y (by simp [encV]);simp only [Value.slice.injEq, zO, Addr.mk.injEq, and_true] at hv'
       obtain ⟨rfl, -, -⟩ := hv';have hlen3 : o < (encV ((vs2.set j y)[j]'hj7)).length := by rw [encV_ok.len]; exact ho3
       exact ⟨⟨_, h1.cell encV_ok j hj7 o ho3 _ (List.getElem?_eq_getElem hlen3)⟩, hf' _⟩)
      clear hcl hrd hCC hgy hk7 hr7;have HDI := Bx.mk hdi;simp only [List.take_succ_cons, List.take_zero, putFrom]
      rcases hc with rfl | rfl | rfl | rfl | rfl | rfl | rfl | rfl | rfl | rfl | rfl | rfl | rfl | rfl | rfl | rfl | rfl | rfl | rfl | rfl | rfl | rfl | rfl | rfl
      ·simp only [List.getElem?_cons_succ, List.getElem?_cons_zero, zO] at ho
       subst ho;simp [NeedsB, Region.binds, CpF] at hd
       clear hi hdi;go_wp2_with fail
       exact ⟨rfl, rfl, rfl, Below.refl _ _⟩
      ·simp only [List.getElem?_cons_succ, List.getElem?_cons_zero, zO] at ho
       subst ho;simp [NeedsB, Region.binds, CpF] at hd
       clear hi hdi;go_wp2_with fail
       exact ⟨rfl, rfl, rfl, Below.refl _ _⟩
      ·simp only [List.getElem?_cons_succ, List.getElem?_cons_zero, zO] at ho
       subst ho;simp [NeedsB, Region.binds, CpF] at hd
       clear hi hdi;go_wp2_with fail
       exact ⟨rfl, rfl, rfl, Below.refl _ _⟩
      ·simp only [List.getElem?_cons_succ, List.getElem?_cons_zero, zO] at ho
       subst ho;simp [NeedsB, Region.binds, CpF] at hd
       clear hi hdi;go_wp2_with fail
       exact ⟨rfl, rfl, rfl, Below.refl _ _⟩
      ·simp only [List.getElem?_cons_succ, List.getElem?_cons_zero, zO] at ho
       subst ho;simp [NeedsB, Region.binds, CpF] at hd
       clear hi hdi;go_wp2_with fail
       exact ⟨rfl, rfl, rfl, Below.refl _ _⟩
      ·simp only [List.getElem?_cons_succ, List.getElem?_cons_zero, zO] at ho
       subst ho;simp [NeedsB, Region.binds, CpF] at hd
       clear hi hdi;go_wp2_with fail
       exact ⟨rfl, rfl, rfl, Below.refl _ _⟩
      ·simp only [List.getElem?_cons_succ, List.getElem?_cons_zero, zO] at ho
       subst ho;simp [NeedsB, Region.binds, CpF] at hd
       clear hi hdi;go_wp2_with fail
       exact ⟨rfl, rfl, rfl, Below.refl _ _⟩
      ·simp only [List.getElem?_cons_succ, List.getElem?_cons_zero, zO] at ho
       subst ho;simp [NeedsB, Region.binds, CpF] at hd
       clear hi hdi;go_wp2_with fail
       exact ⟨rfl, rfl, rfl, Below.refl _ _⟩
      ·simp only [List.getElem?_cons_succ, List.getElem?_cons_zero, zO] at ho
       subst ho;simp [NeedsB, Region.binds, CpF] at hd
       clear hi hdi;go_wp2_with fail
       exact ⟨rfl, rfl, rfl, Below.refl _ _⟩
      ·simp only [List.getElem?_cons_succ, List.getElem?_cons_zero, zO] at ho
       subst ho;simp [NeedsB, Region.binds, CpF] at hd
       clear hi hdi;go_wp2_with fail
       exact ⟨rfl, rfl, rfl, Below.refl _ _⟩
      ·simp only [List.getElem?_cons_succ, List.getElem?_cons_zero, zO] at ho
       subst ho;simp [NeedsB, Region.binds, CpF] at hd
       clear hi hdi;go_wp2_with fail
       exact ⟨rfl, rfl, rfl, Below.refl _ _⟩
      ·simp only [List.getElem?_cons_succ, List.getElem?_cons_zero, zO] at ho
       subst ho;simp [NeedsB, Region.binds, CpF] at hd
       clear hi hdi;go_wp2_with fail
       exact ⟨rfl, rfl, rfl, Below.refl _ _⟩
      ·simp only [List.getElem?_cons_succ, List.getElem?_cons_zero, zO] at ho
       subst ho;simp [NeedsB, Region.binds, CpF] at hd
       clear hi hdi;go_wp2_with fail
       exact ⟨rfl, rfl, rfl, Below.refl _ _⟩
      ·simp only [List.getElem?_cons_succ, List.getElem?_cons_zero, zO] at ho
       subst ho;simp [NeedsB, Region.binds, CpF] at hd
       clear hi hdi;go_wp2_with fail
       exact ⟨rfl, rfl, rfl, Below.refl _ _⟩
      ·simp only [List.getElem?_cons_succ, List.getElem?_cons_zero, zO] at ho
       subst ho;simp [NeedsB, Region.binds, CpF] at hd
       clear hi hdi;have hcall := HCS.out w7 HG7.out;go_wp2_with (go_at_call 100; refine hcall.mono ?_; rintro e w8 ⟨u, rfl, hu, hb8⟩)
       exact ⟨rfl, rfl, by simpa [upd, CpF] using hu.mono HG7.out.size, hb8⟩
      ·simp only [List.getElem?_cons_succ, List.getElem?_cons_zero, zO] at ho
       subst ho;simp [NeedsB, Region.binds, CpF] at hd
       clear hi hdi;go_wp2_with fail
       exact ⟨rfl, rfl, rfl, Below.refl _ _⟩
      ·simp only [List.getElem?_cons_succ, List.getElem?_cons_zero, zO] at ho
       subst ho;simp [NeedsB, Region.binds, CpF] at hd
       clear hi hdi;go_wp2_with fail
       exact ⟨rfl, rfl, rfl, Below.refl _ _⟩
      ·simp only [List.getElem?_cons_succ, List.getElem?_cons_zero, zO] at ho
       subst ho;simp [NeedsB, Region.binds, CpF] at hd
       clear hi hdi;have hcall := HCI.out w7 HG7.out;go_wp2_with (go_at_call 101; refine hcall.mono ?_; rintro e w8 ⟨u, rfl, hu, hb8⟩)
       exact ⟨rfl, rfl, by simpa [upd, CpF] using hu.mono HG7.out.size, hb8⟩
      ·simp only [List.getElem?_cons_succ, List.getElem?_cons_zero, zO] at ho
       subst ho;simp [NeedsB, Region.binds, CpF] at hd
       clear hi hdi;go_wp2_with fail
       exact ⟨rfl, rfl, rfl, Below.refl _ _⟩
      ·simp only [List.getElem?_cons_succ, List.getElem?_cons_zero, zO] at ho
       subst ho;simp [NeedsB, Region.binds, CpF] at hd
       clear hi hdi;go_wp2_with fail
       exact ⟨rfl, rfl, rfl, Below.refl _ _⟩
      ·simp only [List.getElem?_cons_succ, List.getElem?_cons_zero, zO] at ho
       subst ho;simp [NeedsB, Region.binds, CpF] at hd
       clear hi hdi;obtain ⟨⟨uu, hm1⟩, z1⟩ := HNC.out 1 (by omega);have HDD := Bx.mk hd;have hw : Slc.Own w7 W5.heap.size 9 1 encS (z 14) x.n.ex := (by first | exact hd.2 | exact hd.1 | exact hd.2.1);obtain ⟨sv, hsv⟩ := sl_of hw;rw [hsv] at hw;have HW := Bx.mk hw;have hp : z 19 = .pointer (some ⟨nb, j * 3 + 1, none⟩) := (by first | exact hd.1 | exact hd.2 | exact hd.2.1);clear hd hw;simp only [Sl.val] at hsv
       go_wp2_with fail
       exact ⟨rfl, rfl, trivial, ⟨sv, HW.out, rfl⟩⟩
      ·simp only [List.getElem?_cons_succ, List.getElem?_cons_zero, zO] at ho
       subst ho;simp [NeedsB, Region.binds, CpF] at hd
       clear hi hdi;go_wp2_with fail
       exact ⟨rfl, rfl, rfl, Below.refl _ _⟩
      ·simp only [List.getElem?_cons_succ, List.getElem?_cons_zero, zO] at ho
       subst ho;simp [NeedsB, Region.binds, CpF] at hd
       clear hi hdi;go_wp2_with fail
       exact ⟨rfl, rfl, rfl, Below.refl _ _⟩
      ·simp only [List.getElem?_cons_succ, List.getElem?_cons_zero, zO] at ho
       subst ho;simp [NeedsB, Region.binds, CpF] at hd
       clear hi hdi;obtain ⟨⟨uu, hm1⟩, z1⟩ := HNC.out 2 (by omega);have HDD := Bx.mk hd;have hw : Slc.Own w7 W5.heap.size 3 1 encI (z 17) x.n.par := (by first | exact hd.2 | exact hd.1 | exact hd.2.1);obtain ⟨sv, hsv⟩ := sl_of hw;rw [hsv] at hw;have HW := Bx.mk hw;have hp : z 22 = .pointer (some ⟨nb, j * 3 + 2, none⟩) := (by first | exact hd.1 | exact hd.2 | exact hd.2.1);clear hd hw;simp only [Sl.val] at hsv
       go_wp2_with fail
       exact ⟨rfl, rfl, trivial, ⟨sv, HW.out, rfl⟩⟩
     ·intro d z w7 hdn hCC hf;obtain ⟨y, hyn, hgy, -, hyu, -, hyq⟩ := hCC.st;have hyu := hyu (hdn 20 (by omega));have hyq := hyq (hdn 23 (by omega))
      have hpd : PD w7 ob (doneV gi k ++ vs2.take j) := HPD5.out.keep hCC.gr.size fun x' hx' q hq hl => hCC.gr.block q hl (by
       simp only [ne_eq, zO]
       rintro rfl;have h1 := HGO5.out.lv _ (zM HK2.out);rw [HS2.out] at h1
       exact own_type (HPD5.out.own x' hx') h1 (by decide) q hq rfl)
      have hpd2 := hpd.snoc (C := W5.heap.size) (x := y) (by have := HNBL.out; have := HSZ5.out; omega) (fun y' hy' => ⟨fun q hq => ((HPD5.out.own y' hy').lt q hq).2, fun q hq => HPD5.out.ul y' hy' q hq⟩) (by rw [hyn]; exact hyq) (by rw [hyn]; exact hyu)
      have HPD7 := Bx.mk (show PD w7 ob (doneV gi k ++ (vs2.set j y).take (j + 1)) by
       have e : (vs2.set j y).take (j + 1) = vs2.take j ++ [y] := by
        rw [zA (by rw [zL]; exact HJ2.out), List.getElem_set_self, List.take_set_of_le (zR _)]
       rw [e, <- List.append_assoc]; exact hpd2)
      have HGO7 := Bx.mk (show GO w7 ob (.slice (some ⟨ob, 0, none⟩) N N) (gi.set k ⟨vs2.set j y, ⟨some ⟨nb, 0, none⟩, NV, nc⟩⟩) by
       rw [HG2.out, List.set_set] at hgy; exact hgy)
      have HB7 := Bx.mk (show Below ob w w7 from HB5.out.grown hCC.gr (by have := HNBL.out; have := HSZ5.out; omega) fun q hq => by simp only [zO] at hq; have := HNBL.out; omega);have HVL7 := Bx.mk (show (vs2.set j y).length = NV by rw [zL]; exact hvl.out)
      have HVS7 := Bx.mk (show ∀ (r : Nat) (h1 : r < (vs2.set j y).length) (h2 : r < L.vs.length), ((vs2.set j y)[r]).n = (L.vs[r]).n /\ (j + 1 <= r -> (vs2.set j y)[r] = L.vs[r]) from fun r h1 h2 => by
       rw [zL] at h1;have h0 := hvs.out r h1 h2;rw [List.getElem_set];by_cases e : j = r
       ·subst e;rw [if_pos rfl];exact ⟨by rw [hyn, HXL.out], fun h => by omega⟩
       ·rw [if_neg e]
        exact ⟨h0.1, fun h => h0.2 (by omega)⟩)
      clear hf hCC hgy hyu hyq hpd hpd2 hdn hyn;simp only [List.take_succ_cons, List.take_zero, List.drop_succ_cons, List.drop_zero, putFrom, Nat.zero_add, Nat.reduceAdd]
      generalize z 0 = z0, z 1 = z1, z 2 = z2, z 3 = z3, z 4 = z4, z 5 = z5, z 6 = z6, z 7 = z7, z 8 = z8, z 9 = z9, z 10 = z10, z 11 = z11, z 12 = z12, z 13 = z13, z 14 = z14, z 15 = z15, z 16 = z16, z 17 = z17, z 18 = z18, z 19 = z19, z 20 = z20, z 21 = z21, z 22 = z22, z 23 = z23;simp only [Act.put, List.setIfInBounds_toArray, List.set_cons_succ, List.set_cons_zero]
      go_wp2_with fail
      go_roundw
      case rel => exact ⟨j + 1, vs2.set j y, by omega, by go_num, HVL7, HVS7, HGO7, HPD7, HB7⟩
      case measure => simp [intOf]; omega
    ·obtain rfl : j = NV := by omega
     have HCF := Bx.mk (show CpL g (gi.set k ⟨vs2, ⟨na, j, nc⟩⟩) (k + 1) from ⟨by rw [zL]; exact HUN.out.len, fun r h1 h2 hr => by
      rw [zL] at h1;rw [List.getElem_set];by_cases e : k = r
      ·subst e;rw [if_pos rfl, <- HL.out];apply List.ext_getElem
       ·simp [vxs, hvl.out, HNV.out]
       ·intro q h3 h4;simp only [vxs, List.getElem_map]
        exact (hvs.out q (by simpa [vxs] using h3) (by simpa [vxs] using h4)).1
      ·rw [if_neg e]; exact HUN.out.dn r h1 h2 (by omega), fun r h1 hr => by
      rw [zL] at h1;rw [List.getElem_set, if_neg (by omega)]
      exact HUN.out.un r h1 (by omega)⟩)
     have HPF := Bx.mk (show PD wr ob (doneV (gi.set k ⟨vs2, ⟨na, j, nc⟩⟩) (k + 1)) by
      have h1 := hPD.out;rw [<- hvl.out, List.take_length] at h1
      have e : doneV (gi.set k ⟨vs2, ⟨na, j, nc⟩⟩) (k + 1) = doneV gi k ++ vs2 := by
       unfold doneV;rw [zA HKI2.out, List.flatMap_append, List.getElem_set_self, List.take_set_of_le (zR _)];simp
      rw [e]; exact h1)
     go_wp2_with fail
     go_roundw
     case rel => exact ⟨k + 1, _, by omega, by go_num, hGO, HCF, HPF, hB⟩
     case measure => simp [intOf]; omega
  ·obtain rfl : k = N := by omega
   have HFG := Bx.mk (show gxs gi = gxs g by
    apply List.ext_getElem
    ·simp [gxs, hCL.out.len]
    ·intro r h1 h2;simp only [gxs, List.getElem_map]
     have h2' : r < g.length := by simpa [gxs] using h2
     exact hCL.out.dn r (by rw [hCL.out.len]; exact h2') h2' (by rw [HN.out]; exact h2'))
   have HFP := Bx.mk (show PD wo ob (gi.flatMap (·.vs)) by
    have := hPD.out;unfold doneV at this
    rwa [HN.out, <- hCL.out.len, List.take_length] at this)
   go_wp2_with fail
   go_ret;exact ⟨_, gi, rfl, HOB.out ▸ hGO.out, HFG.out, HOB.out ▸ HFP.out, HOB.out ▸ hBw.out⟩
end Go.Proofs.YtmagjdocondmhaaGreat.Tr.Gr
namespace Go.Proofs.YtmagjdocondmhaaGreat.Mp
open Go Go.RowKit Go.ChangeMaps Go.MapKept Go.WideShapes
open Go.WideElems (Fit rd rg pl rd_key rd_val rg_of rd_mk other_key)
open Go.Maps (Keyed)
section
variable {H : Type} {P : Program} {k e t : TypeId} {R : Value -> Option (DataW H × List MemPlace)} {w : World} {b r n : Nat} {D : DataW H} {left : Lit -> Bool} {cnt : Nat}
theorem setBlock_inj {es es1 es2 : Array MapEntry} {c c1 c2 : Nat} (hb : w.heap[b]? = some (.map es c)) (h : setBlock w b (.map es1 c1) = setBlock w b (.map es2 c2)) : es1 = es2 /\ c1 = c2 := by
 have h1 := heap_setBlock_same hb (.map es1 c1);have h2 := heap_setBlock_same hb (.map es2 c2);rw [h, h2] at h1;simp only [zO, Obj.map.injEq] at h1
 exact ⟨h1.1.symm, h1.2.symm⟩
theorem ranges_put (h : w.ranges P k R b r n D left cnt) (K : Keyed P k) (ht : P.underlying t = some (.map k e)) (hn : n < maxLen) {z : Value} (hz : (zeroValue e).run P w = .ok z w) {key val : Value} {kl : Lit} {d : DataW H} {ps : List MemPlace}
  (hkey : keyOf P k key = some kl) (hhas : Maps.has D kl = true) (hv : R val = some (d, ps)) :
  ∃ w', (Instr.mapUpdate t (.map (some b)) key val).run P w = .ok () w' /\ w'.ranges P k R b r n (D.put kl d) left cnt /\ w.grownBy w' (some b) /\ w'.heap.size = w.heap.size := by
 have hne := h.ne;obtain ⟨es, clock, since, seen, c0, hb, F, hs, rfl, hr, hold, rfl, hl1, hl2, hsc, hsk⟩ := h;obtain ⟨es', clock', hrun, F', hput, -, -, -⟩ := Maps.fit_store (R' := R) K ht hb F (Nat.lt_of_le_of_lt hs hn) (fun _ _ _ _ hz => hz) hkey hv
 -- the key is there
 have hex : ∃ e0 ∈ es.toList, e0.key = key := by
  rcases Maps.fit_look true K ht hz hb F hkey with ⟨_, _, hat⟩ | ⟨e0, y, h1, h2, -⟩
  ·rw [Maps.has_false_of_atKey hat] at hhas; cases hhas
  ·exact ⟨e0, h1, h2⟩
 rcases K.find w hkey es.toList F.keys with ⟨h1, h2⟩ | ⟨j, e0, h1, h2, h3⟩
 ·obtain ⟨e0, he, hk⟩ := hex;exact absurd hk (h2 e0 he)
 have hj : es[j]? = some e0 := by simpa using h2
 have hlist : (es.modify j (fun e' => { e' with key := key, val := val })).toList = es.toList.set j { e0 with key := key, val := val } := by rw [Array.toList_modify, modify_eq_set _ _ _ _ h2]
 have hrun2 : (Instr.mapUpdate t (.map (some b)) key val).run P w = .ok () (setBlock w b (.map (es.modify j (fun e' => { e' with key := key, val := val })) clock)) := by
  simp [Instr.mapUpdate, run_underlying ht, MapKept.run_getObj_map hb, K.check w false hkey, h1, hj, h3, K.stays w hkey, MapKept.run_setObj_map _ hb, Result.andThen, setBlock]
 have hww : setBlock w b (.map es' clock') = setBlock w b (.map (es.modify j (fun e' => { e' with key := key, val := val })) clock) := by
  rw [hrun] at hrun2
  injection hrun2
 obtain ⟨rfl, rfl⟩ := setBlock_inj hb hww;have hm0 : e0 ∈ es.toList := List.mem_of_getElem? h2
 have hr0 : (rg P k R e0).1 = kl := by
  obtain ⟨y, hy⟩ := F.reads e0 hm0;have m0 := rd_key hy;rw [rg_of hy];rw [h3, hkey] at m0;exact (Option.some.inj m0).symm
 have hr1 : (rg P k R { e0 with key := key, val := val }).1 = kl := by rw [rg_of (rd_mk hkey hv)]
 have who : ∀ x ∈ es.toList.set j { e0 with key := key, val := val }, x = { e0 with key := key, val := val } \/ x ∈ es.toList := fun x hx => by
  rcases List.mem_or_eq_of_mem_set hx with q | q
  ·exact .inr q
  ·exact .inl q
 refine ⟨_, hrun2, ⟨_, clock', since, seen, c0, heap_setBlock_same hb _, F', by simpa using hs, by rw [DataW.put_eq, hput], (heap_setBlock_other hb _ hne).trans hr, fun x hx => ?_, ?_, fun x hx => ?_, fun kl' hkl' => ?_, hsc, hsk⟩, ⟨rfl, rfl, rfl, by simp [setBlock], fun i _ hi => heap_setBlock_other hb _ (fun e => hi (by rw [e]))⟩, by simp [setBlock]⟩
 ·rw [hlist] at hx;rcases who x hx with rfl | q
  ·exact hold e0 hm0
  ·exact hold x q
 ·have e1 : ∀ a : Array MapEntry, (leftOf a seen).size = ((a.toList.map (·.born)).filter fun q => !seen.contains q).length := fun a => by
   unfold leftOf;rw [List.filter_map, List.length_map, <- Array.length_toList, Array.toList_filter]; rfl
  rw [e1, e1, hlist, List.map_set];congr 2
  apply List.ext_getElem?
  intro i;rw [List.getElem?_set];split
  ·rename_i q
   subst q;split
   ·simp [h2]
   ·rename_i q2
    have := (List.getElem?_eq_some_iff.1 h2).1;rw [List.length_map] at q2;exact absurd this q2
  ·rfl
 ·rw [hlist] at hx;rcases who x hx with rfl | q
  ·rw [hr1, <- hr0]; exact hl1 e0 hm0
  ·exact hl1 x q
 ·obtain ⟨x, hx, hxe⟩ := hl2 kl' hkl';by_cases q : kl' = kl
  ·subst q;refine ⟨{ e0 with key := key, val := val }, ?_, hr1⟩;rw [hlist];exact List.mem_iff_getElem?.2 ⟨j, by rw [List.getElem?_set_self (List.getElem?_eq_some_iff.1 h2).1]⟩
  ·obtain ⟨i, hi, hie⟩ := List.getElem_of_mem hx
   have hij : j ≠ i := by
    rintro rfl;rw [List.getElem?_eq_getElem hi, hie] at h2;obtain rfl := Option.some.inj h2;exact q (hxe.symm.trans hr0)
   refine ⟨x, ?_, hxe⟩;rw [hlist];exact List.mem_iff_getElem?.2 ⟨i, by rw [List.getElem?_set_ne hij, List.getElem?_eq_getElem hi, hie]⟩
end
end Go.Proofs.YtmagjdocondmhaaGreat.Mp
namespace Go.Proofs.YtmagjdocondmhaaGreat.Tr
open Go Go.RowKit Slc St Mp
attribute [local go_sem] Oper.semAt_some
def exF (L : List B) : B -> Option Bool := fun p => if p ∈ L then some true else none
theorem exF_nil : exF [] = fun _ => none := by funext p; simp [exF]
theorem exF_snoc (L : List B) (p : B) : exF (L ++ [p]) = fun j => if j = p then some true else exF L j := by
 funext j; unfold exF
 by_cases h : j = p
 ·simp [h]
 ·simp [h]
theorem RdIn.below {w w' : World} {S : Nat -> Prop} {α : Type} {enc : α -> List Value} {u : Value} {L : List α} (h : RdIn w S enc u L) (hb : Below w.heap.size w w') : RdIn w' S enc u L := h.keep hb.size fun k _ hk => hb.block k hk
end Go.Proofs.YtmagjdocondmhaaGreat.Tr
namespace Go.Proofs.YtmagjdocondmhaaGreat.Tr
open Go Go.RowKit Slc St Mp
theorem u_mapSS : Tryz.prog.underlying 86 = some (.map 9 34) := Tryz.underlying86
def encP (m : B × B) : List Value := [.string (bstr m.1), .string (bstr m.2)]
theorem encP_ok : Enc 2 encP := ⟨fun _ => rfl, fun x u hu => by simp [encP] at hu; rcases hu with rfl | rfl <;> rfl, by omega⟩
theorem maps_cells {w : World} {ad : Option Addr} {n c : Nat} {l : List (B × B)} (h : Rd w encP (.slice ad n c) l) : n = l.length /\ ∀ (W : World), Below w.heap.size w W -> ∀ k (hk : k < l.length), ∃ b o, ad = some ⟨b, o, none⟩ /\ b < w.heap.size /\ W.cell? ⟨b, o + k * 2, none⟩ = some (.string (bstr (l[k]).1)) /\ W.cell? ⟨b, o + k * 2 + 1, none⟩ = some (.string (bstr (l[k]).2)) := by
 obtain ⟨ad', c', hv, -⟩ := h.form;simp only [Value.slice.injEq] at hv
 refine ⟨hv.2.1, fun W hW k hk => ?_⟩;obtain ⟨b, o, c, hv', _, hlt, hc⟩ := h.cells encP_ok (by omega);simp only [Value.slice.injEq] at hv'
 have q := hc W (fun k' hk' => hW.block k' (h.lt k' hk')) k hk;exact ⟨b, o, hv'.1, hlt, q 0 _ (by omega) rfl, q 1 _ (by omega) rfl⟩
def gK (l : List (B × B)) (k : Nat) (p : B) : List B := ((l.take k).filter fun m => decide (m.1 = p) && okM m).map (·.2)
theorem gK_zero (l : List (B × B)) (p : B) : gK l 0 p = [] := by simp [gK]
theorem gK_succ (l : List (B × B)) (k : Nat) (hk : k < l.length) (p : B) : gK l (k + 1) p = gK l k p ++ if decide (l[k].1 = p) && okM l[k] then [l[k].2] else [] := by
 unfold gK;rw [zA hk, List.filter_append, List.map_append]
 cases h : decide (l[k].1 = p) && okM l[k] <;> simp [List.filter_cons, h]
theorem gK_len (l : List (B × B)) (k : Nat) (p : B) : (gK l k p).length <= k := by
 unfold gK; rw [List.length_map]
 exact Nat.le_trans (List.length_filter_le _ _) (by simp; omega)
theorem gK_all (l : List (B × B)) (p : B) : setB (gK l l.length p) = subL l p := by unfold gK subL; rw [List.take_length]
theorem gK_src (l : List (B × B)) (p : B) : gK l l.length p ≠ [] ↔ p ∈ srcL l := by
 unfold gK srcL;rw [List.take_length, setB_mem, List.mem_map];constructor
 ·intro h;obtain ⟨x, hx⟩ := List.exists_mem_of_ne_nil _ h;obtain ⟨m, hm, -⟩ := List.mem_map.1 hx;rw [List.mem_filter, Bool.and_eq_true, decide_eq_true_eq] at hm;exact ⟨m, List.mem_filter.2 ⟨hm.1, hm.2.2⟩, hm.2.1⟩
 ·rintro ⟨m, hm, rfl⟩ h;rw [List.mem_filter] at hm;have : m.2 ∈ (l.filter fun m' => decide (m'.1 = m.1) && okM m').map (·.2) := List.mem_map.2 ⟨m, List.mem_filter.2 ⟨hm.1, by simp [hm.2]⟩, rfl⟩;rw [h] at this; cases this
def nilS : Sg := ⟨none, 0, 0⟩
structure TB (w : World) (bm : Nat) (f : B -> Option Sg) (g : B -> List B) : Prop where
 has_ : ∀ p, (f p).isSome = true ↔ g p ≠ []
 own : ∀ p s, f p = some s -> Slc.Own w (bm + 1) 9 1 encS s.val (g p)
 dis : ∀ p p' s s', f p = some s -> f p' = some s' -> p ≠ p' -> ∀ b, s.val.ownBlock = some b -> s'.val.ownBlock ≠ some b
theorem TB.get {w : World} {bm : Nat} {f : B -> Option Sg} {g : B -> List B} (h : TB w bm f g) (p : B) : Slc.Own w (bm + 1) 9 1 encS ((f p).getD nilS).val (g p) := by
 cases hf : f p with
 | some s => exact h.own p s hf
 | none =>
  have : g p = [] := by
   cases hg : g p with
   | nil => rfl
   | cons x l => have := (h.has_ p).2 (by rw [hg]; simp); rw [hf] at this; cases this
  rw [this]; exact Slc.Own.nil _ _
theorem TB.below {w w' : World} {bm : Nat} {f : B -> Option Sg} {g : B -> List B} (h : TB w bm f g) (hb : Below w.heap.size w w') : TB w' bm f g :=
 ⟨h.has_, fun p s hp => (h.own p s hp).below hb, h.dis⟩
theorem TB.step {w w1 w2 : World} {bm : Nat} {f : B -> Option Sg} {g : B -> List B} {p x : B} {s' : Sg} (h : TB w bm f g) (hg : w.grownBy w1 ((f p).getD nilS).val.ownBlock) (ho : Slc.Own w1 (bm + 1) 9 1 encS s'.val (g p ++ [x]))
  (hb : s'.val.ownBlock = ((f p).getD nilS).val.ownBlock \/ ∃ y, s'.val.ownBlock = some y /\ w.heap.size <= y) (hg2 : w1.grownBy w2 (some bm)) : TB w2 bm (fun j => if j = p then some s' else f j) (fun j => if j = p then g p ++ [x] else g j) := by
 have k2 : ∀ {v : Value} {l : List B}, Slc.Own w1 (bm + 1) 9 1 encS v l -> Slc.Own w2 (bm + 1) 9 1 encS v l := fun {v l} hv => hv.keep fun k hk hlt => hg2.block k hlt fun e => by
  have := (hv.lt k hk).1;simp only [zO] at e; omega
 have hne : ∀ j s, f j = some s -> j ≠ p -> ∀ b, s.val.ownBlock = some b -> ((f p).getD nilS).val.ownBlock ≠ some b := by
  intro j s hj hjp b hbs
  cases hf : f p with
  | none => simp [nilS, Sg.val, Value.ownBlock]
  | some s0 =>
   exact h.dis j p s s0 hj hf hjp b hbs
 refine ⟨fun j => ?_, fun j s hj => ?_, fun j j' s t hj hj' hne' b hbs => ?_⟩
 ·by_cases e : j = p
  ·subst e; simp
  ·rw [if_neg e, if_neg e]; exact h.has_ j
 ·by_cases e : j = p
  ·subst e;rw [if_pos rfl] at hj |-
   cases hj
   exact k2 ho
  ·rw [if_neg e] at hj |-;refine k2 ((h.own j s hj).keep fun k hk hlt => hg.block k hlt fun e2 => ?_);exact hne j s hj e k hk e2.symm
 ·by_cases e : j = p
  ·subst e;rw [if_pos rfl] at hj
   cases hj
   rw [if_neg fun q => hne' q.symm] at hj';rcases hb with q | ⟨y, q, hy⟩
   ·intro e2;rw [q] at hbs;exact hne j' t hj' (fun q => hne' q.symm) b e2 hbs
   ·intro e2;rw [q] at hbs;simp only [zO] at hbs
    have := ((h.own j' t hj').lt b e2).2;omega
  ·rw [if_neg e] at hj;by_cases e' : j' = p
   ·subst e';rw [if_pos rfl] at hj'
    cases hj'
    rcases hb with q | ⟨y, q, hy⟩
    ·rw [q]; exact hne j s hj e b hbs
    ·rw [q];intro e2;simp only [zO] at e2
     have := ((h.own j s hj).lt b hbs).2;omega
   ·rw [if_neg e'] at hj';exact h.dis j j' s t hj hj' hne' b hbs
theorem keyOf_strB {P : Program} {k : TypeId} (hk : P.underlying k = some .string) {key : Value} {kl : Lit} (h : keyOf P k key = some kl) : ∃ x : B, key = .string (bstr x) /\ kl = .string x := by
 simp only [keyOf, hk] at h
 unfold mapKey at h;rw [hk] at h
 cases key with
 | string s =>
  simp at h
  exact ⟨s.data.toList, by rw [bstr_back], h.2.symm⟩
 | _ => simp at h
theorem rdS_form {v : Value} {y : DW × List MemPlace} (h : rdS v = some y) : ∃ c : Sg, v = c.val /\ y = (edS c, []) := by
 unfold rdS at h;split at h
 ·simp only [zO] at h; exact ⟨_, rfl, h.symm⟩
 ·simp only [zO] at h; exact ⟨_, rfl, h.symm⟩
 ·cases h
theorem sameS (z x : B) : (Lit.string z).sameKey (.string x) = decide (z = x) := by
 by_cases e : z = x
 ·subst e; rw [zT rfl]; exact WideAt.sameKey_self trivial
 ·rw [zF e]
  cases q : (Lit.string z).sameKey (.string x)
  ·rfl
  ·have := WideAt.sameKey_eq q; injection this with this; exact absurd this e
theorem next_tab {w : World} {ops : Array Oper} {rest : List Oper} {o : Oper} {a : Act} {Q : Exit -> Act -> World -> Prop} {f : B -> Option Sg} {D : DW} (hf : IsF kS edS D f) (hg : o.guard = none) (it : Operand) (hop : o.op = Op.next it false) {b r n : Nat} {left : Lit -> Bool} {cnt : Nat}
  (hit : a.eval it = .pointer (some ⟨r, 0, none⟩)) (h : w.ranges Tryz.prog 9 rdS b r n D left cnt)
  (hDone : (∀ m : B, left (.string m) = false) -> wpList Tryz.prog ops Q rest (a.put o.dst (.tuple #[.bool false])) w)
  (hMore : ∀ (x : B) (c : Sg) (w' : World) (cnt' : Nat), keyOf Tryz.prog 9 (.string (bstr x)) = some (.string x) -> left (.string x) = true -> f x = some c -> w'.ranges Tryz.prog 9 rdS b r n D (fun z => left z && !z.sameKey (.string x)) cnt' -> cnt' < cnt ->
   w.grownBy w' (some r) -> w'.heap.size = w.heap.size -> (Instr.entry (.pointer (some ⟨r, 0, none⟩))).run Tryz.prog w' = .ok (.tuple #[.string (bstr x), c.val]) w' -> wpList Tryz.prog ops Q rest (a.put o.dst (.tuple #[.bool true, .string (bstr x), c.val])) w') :
  wpList Tryz.prog ops Q (o :: rest) a w :=
 wpList_next_ranges w hg it hop 9 (Go.Maps.string_keyed u_str) rdS (fun x : B => Value.string (bstr x)) Sg.val (fun key kl hkey => by obtain ⟨s, rfl, _⟩ := keyOf_strB u_str hkey; exact ⟨s, rfl⟩) (fun v y hv => by obtain ⟨c, rfl, _⟩ := rdS_form hv; exact ⟨c, rfl⟩)
  b r n D left cnt hit h (fun _ hl => hDone fun m => hl _) (fun x c kl y w' cnt' hkey hlk hv hat hrg hlt hgr hsz hen => by
   obtain ⟨x', ex, rfl⟩ := keyOf_strB u_str hkey;have ex2 : x = x' := by injection ex with ex; exact bstr_inj ex
   subst ex2;rw [rdS_mk] at hv;have hy := Option.some.inj hv;subst hy;refine hMore x c w' cnt' hkey hlk ?_ hrg hlt hgr hsz hen;have h1 : D.atKey (.string x) .nil = edS c := hat .nil;have h0 := hf.at_ x .nil;have h2 := h0.symm.trans h1
   cases hfx : f x with
   | none => rw [hfx] at h2; unfold edS at h2; simp only at h2; split at h2 <;> cases h2
   | some d => rw [hfx] at h2; rw [edS_inj h2])
end Go.Proofs.YtmagjdocondmhaaGreat.Tr
namespace Go.Proofs.YtmagjdocondmhaaGreat.Tr
open Go Go.RowKit Slc St Mp
attribute [local go_sem] Oper.semAt_some
theorem own_sg {w : World} {Bk : Nat} {v : Value} {l : List B} (h : Slc.Own w Bk 9 1 encS v l) : ∃ s : Sg, v = s.val := by
 rcases h.2 with ⟨rfl, _⟩ | ⟨g, cap, cur, rfl, _⟩
 ·exact ⟨nilS, rfl⟩
 ·exact ⟨⟨some (g, 0), _, cap⟩, rfl⟩
theorem grown_none {w w' : World} (hb : Below w.heap.size w w') : w.grownBy w' none := ⟨hb.os, hb.tape, hb.output, hb.size, fun k hk _ => hb.block k hk⟩
theorem grown_same {W w1 w2 : World} {r : Option Nat} (h : W.grownBy w1 r) (k : w1.grownBy w2 r) : W.grownBy w2 r := h.andThen k fun j e => .inr e
def TaF (W : World) (bm bn : Nat) (m : B × B) (v : Value) (L : List B) : Nat -> Value -> World -> Prop
 | 0, x, _ => x = .map (some bm)
 | 1, x, _ => x = .pointer (some ⟨bn, 0, none⟩)
 | 2, x, _ => x = .string (bstr m.1)
 | 3, x, _ => x = .map (some bm)
 | 4, x, _ => x = .pointer (some ⟨bn, 0, none⟩)
 | 5, x, _ => x = .string (bstr m.1)
 | 6, x, _ => x = v
 | 7, x, _ => x = .pointer (some ⟨bn, 1, none⟩)
 | 8, x, _ => x = .string (bstr m.2)
 | 9, x, w => ∃ g, x = .slice (some ⟨g, 0, none⟩) 1 1 /\ W.heap.size <= g /\ w.heap[g]? = some (.cells #[.string (bstr m.2)] 9 (0, 0))
 | 10, x, w => Slc.Own w (bm + 1) 9 1 encS x (L ++ [m.2]) /\ (x.ownBlock = v.ownBlock \/ ∃ y, x.ownBlock = some y /\ W.heap.size <= y)
 | _, _, _ => True
theorem TaF.stable (W : World) (bm bn : Nat) (m : B × B) (v : Value) (L : List B) (i : Nat) (x : Value) (w w' : World) (h : TaF W bm bn m v L i x w) (hb : Below w.heap.size w w') : TaF W bm bn m v L i x w' := by
 match i with
 | 0 | 1 | 2 | 3 | 4 | 5 | 6 | 7 | 8 => exact h
 | 9 => obtain ⟨g, h1, h2, h3⟩ := h; exact ⟨g, h1, h2, (hb.block g (lt_of_some h3)).trans h3⟩
 | 10 => exact ⟨Slc.Own.below (t := 9) h.1 hb, h.2⟩
 | _ + 11 => exact trivial
theorem TaF.big (W : World) (bm bn : Nat) (m : B × B) (v : Value) (L : List B) (hv : ∀ k, v.ownBlock = some k -> k < W.heap.size) (i : Nat) (hi : i ≠ 10) (x : Value) (w w' : World) (h : TaF W bm bn m v L i x w) (hg : w.grownBy w' v.ownBlock) : TaF W bm bn m v L i x w' := by
 match i, hi with
 | 0, _ | 1, _ | 2, _ | 3, _ | 4, _ | 5, _ | 6, _ | 7, _ | 8, _ => exact h
 | 9, _ =>
  obtain ⟨g, h1, h2, h3⟩ := h
  exact ⟨g, h1, h2, (hg.block g (lt_of_some h3) fun e => by have := hv g e.symm; omega).trans h3⟩
 | 10, hi => exact absurd rfl hi
 | _ + 11, _ => exact trivial
def TaC (W : World) (bm : Nat) (v : Value) (L : List B) (d : Nat -> Bool) (w : World) : Prop := W.grownBy w v.ownBlock /\ (d 10 = false -> Slc.Own w (bm + 1) 9 1 encS v L)
theorem TaC.bel {W w1 w2 : World} {bm : Nat} {v : Value} {L : List B} {d : Nat -> Bool} {i : Nat} (hh : TaC W bm v L d w1) (hi : (i == 10) = false) (hb : Below w1.heap.size w1 w2) : TaC W bm v L (mark d i) w2 := by
 refine ⟨grown_bel hh.1 hb, fun e => (hh.2 ?_).below hb⟩;have h1 : i ≠ 10 := by simpa using hi
 unfold mark at e;rwa [if_neg fun q => h1 q.symm] at e
theorem TaC.big {W w1 w2 : World} {bm : Nat} {v : Value} {L : List B} {d : Nat -> Bool} {i : Nat} (hh : TaC W bm v L d w1) (hi : (i == 10) = true) (hg : w1.grownBy w2 v.ownBlock) : TaC W bm v L (mark d i) w2 := by
 refine ⟨grown_same hh.1 hg, fun e => ?_⟩;have h1 : i = 10 := by simpa using hi
 subst h1;simp [mark] at e
theorem src_row {w : World} {g : Nat} {x : B} (h : w.heap[g]? = some (.cells #[.string (bstr x)] 9 (0, 0))) : SrcV w 1 (.slice (some ⟨g, 0, none⟩) 1 1) 1 ([x].flatMap encS) := by
 refine .ro _ _ _ _ (by simp [encS]) (fun j u hj => ?_) (fun u hu => ?_)
 ·rw [add_at];have e : ([x].flatMap encS) = [.string (bstr x)] := by simp [encS]
  rw [e] at hj;unfold World.cell?;rw [h];simp only [Nat.zero_add]
  simpa using hj
 ·rw [List.mem_flatMap] at hu;obtain ⟨y, -, hy⟩ := hu;exact encS_ok.one y u hy
structure TabP (w : World) (l : List (B × B)) (bm : Nat) (f : B -> Option Sg) : Prop where
 has_ : ∀ p, (f p).isSome = decide (p ∈ srcL l)
 rd : ∀ p s, f p = some s -> RdIn w (fun b => b ≠ bm) encS s.val (subL l p)
 mp : ∃ q, q <= 100000 /\ OwnF w kS rdS edS bm q f
end Go.Proofs.YtmagjdocondmhaaGreat.Tr
namespace Go.Proofs.YtmagjdocondmhaaGreat.Tr
open Go Go.RowKit Go.Shelf Go.Sort Slc St Mp
theorem sortsT (m : Nat) : AnyZ.SortsIn Tryz.prog Tryz.sortedA_ren Fence.wide m :=
 ⟨fun blk off cap ss W hH hblk hsz => callsIn_wide.2 (AnyM.slices_Sort_string Tryz.sortA blk off cap ss W hH hblk hsz),
  fun p cap W => callsIn_wide.2 (AnyM.slices_Sort_string_none Tryz.sortA p cap W)⟩
theorem keysT (b : Option Nat) (W : World) : Calls Tryz.prog 64 #[.map b] W fun e w' => e = .returned (.func (.func 105) #[] #[.pointer (some ⟨W.heap.size, 0, none⟩)]) /\ w' = W.alloc (.cells #[.map b] 86) :=
 (callsIn_wide (n := 6)).1 (AnyZ.keys_in Tryz.keysA Fence.wide 6 trivial rfl b W)
theorem asc_sort {l : List B} (h : Asc l) : (l.mergeSort fun x y => decide (x <= y)) = l := by
 have hp : (l.mergeSort fun x y => decide (x <= y)).Perm l := List.mergeSort_perm l _;refine asc_unique _ _ ?_ h fun x => hp.mem_iff
 have h1 := sorted_pair l;have h2 : (l.mergeSort fun x y => decide (x <= y)).Nodup := hp.nodup_iff.2 (asc_nodup h);exact (List.Pairwise.and h1 h2).imp fun {a b} h => ltB_or h.1 fun e => h.2 e.symm
theorem sortedT (b n : Nat) (f : B -> Option Sg) (w : World) (h : OwnF w kS rdS edS b n f) (hn : n <= 1000000) (ks : List B) (ha : Asc ks) (hmem : ∀ k, k ∈ ks ↔ (f k).isSome = true) :
  Calls Tryz.prog 63 #[.func (.func 105) #[] #[.pointer (some ⟨w.heap.size, 0, none⟩)]] (w.alloc (.cells #[.map (some b)] 86))
   fun e w' => ∃ (v : Value), e = .returned v /\ Slc.Own w' (w.heap.size + 1) 9 1 encS v ks /\ Below (w.heap.size + 1) (w.alloc (.cells #[.map (some b)] 86)) w' := by
 obtain ⟨D, hown, hm⟩ := h;have hbl := hown.lt
 have hp : ks.Perm (strKeys D) := Collected.perm (left := fun _ => false) ⟨asc_nodup ha, fun x => by
  have h1 : Maps.has D (.string x) = (f x).isSome := hm.has_ x
  rw [h1, hmem]; simp⟩ hown (Go.Maps.string_keyed u_str) u_str fun _ => rfl
 have hsz : Maps.size D <= n := hown.size_le
 have hseq : SeqGives Fence.wide 3 Tryz.prog 105 #[.pointer (some ⟨w.heap.size, 0, none⟩)] encStr (fun ss => ss.Perm (strKeys D)) (Maps.size D) (w.alloc (.cells #[.map (some b)] 86)) :=
  AnyZ.keys_gives (ρ := Tryz.keysA_ren) { Tryz.keysA with } Fence.wide _ trivial rfl (by omega) w.heap.size b n D _ (by simp) (by simp) (by
   obtain ⟨es, clock, hb, Ft, hs, hD⟩ := hown
   exact ⟨es, clock, (Below.heap_alloc _ _ b hbl).trans hb, Ft, hs, hD⟩)
 have cS := AnyZ.sorted_in Tryz.sortedA Fence.wide 6 trivial trivial trivial trivial rfl (by omega) (sortsT _) (enters_of Tryz.func104 (by kernel_rfl) rfl) 105 #[.pointer (some ⟨w.heap.size, 0, none⟩)] trivial (enters_of Tryz.func105 (by kernel_rfl) rfl) _ _ (by unfold maxLen; omega) (by omega) _ hseq;refine ((callsIn_wide (n := 6)).1 cS).mono ?_;rintro e w' ⟨v, ss, rfl, hS, hrow, hnil, hb⟩;have hpp : ss.Perm ks := hS.trans hp.symm;rw [World.size_alloc] at hrow hb;refine ⟨v, rfl, ?_, hb⟩;have e1 : (ss.mergeSort fun x y => decide (x <= y)) = ks := (mergeSort_of_perm hpp).trans (asc_sort ha);unfold Slc.Own;rw [encS_str];rw [e1, hpp.length_eq] at hrow;exact hrow
end Go.Proofs.YtmagjdocondmhaaGreat.Tr
namespace Go.Proofs.YtmagjdocondmhaaGreat.Tr.Gr
open Go Go.RowKit Go.Shelf Go.Sort Slc St Mp Tr
attribute [local go_sem] Oper.semAt_some
theorem u_mapSI : Tryz.prog.underlying 77 = some (.map 9 22) := Tryz.underlying77
theorem keysTI (b : Option Nat) (W : World) : Calls Tryz.prog 102 #[.map b] W fun e w' => e = .returned (.func (.func 120) #[] #[.pointer (some ⟨W.heap.size, 0, none⟩)]) /\ w' = W.alloc (.cells #[.map b] 77) :=
 (callsIn_wide (n := 6)).1 (AnyZ.keys_in Tryz.keysI Fence.wide 6 trivial rfl b W)
theorem sortedTI (b n : Nat) (f : B -> Option Sg) (w : World) (h : OwnF w kS rdS edS b n f) (hn : n <= 1000000) (ks : List B) (ha : Asc ks) (hmem : ∀ k, k ∈ ks ↔ (f k).isSome = true) :
  Calls Tryz.prog 63 #[.func (.func 120) #[] #[.pointer (some ⟨w.heap.size, 0, none⟩)]] (w.alloc (.cells #[.map (some b)] 77))
   fun e w' => ∃ (v : Value), e = .returned v /\ Slc.Own w' (w.heap.size + 1) 9 1 encS v ks /\ Below (w.heap.size + 1) (w.alloc (.cells #[.map (some b)] 77)) w' := by
 obtain ⟨D, hown, hm⟩ := h;have hbl := hown.lt
 have hp : ks.Perm (strKeys D) := Collected.perm (left := fun _ => false) ⟨asc_nodup ha, fun x => by
  have h1 : Maps.has D (.string x) = (f x).isSome := hm.has_ x
  rw [h1, hmem]; simp⟩ hown (Go.Maps.string_keyed u_str) u_str fun _ => rfl
 have hsz : Maps.size D <= n := hown.size_le
 have hseq : SeqGives Fence.wide 3 Tryz.prog 120 #[.pointer (some ⟨w.heap.size, 0, none⟩)] encStr (fun ss => ss.Perm (strKeys D)) (Maps.size D) (w.alloc (.cells #[.map (some b)] 77)) :=
  AnyZ.keys_gives (ρ := Tryz.keysI_ren) { Tryz.keysI with } Fence.wide _ trivial rfl (by omega) w.heap.size b n D _ (by simp) (by simp) (by
   obtain ⟨es, clock, hb, Ft, hs, hD⟩ := hown
   exact ⟨es, clock, (Below.heap_alloc _ _ b hbl).trans hb, Ft, hs, hD⟩)
 have cS := AnyZ.sorted_in Tryz.sortedA Fence.wide 6 trivial trivial trivial trivial rfl (by omega) (sortsT _) (enters_of Tryz.func104 (by kernel_rfl) rfl) 120 #[.pointer (some ⟨w.heap.size, 0, none⟩)] trivial (enters_of Tryz.func120 (by kernel_rfl) rfl) _ _ (by unfold maxLen; omega) (by omega) _ hseq;refine ((callsIn_wide (n := 6)).1 cS).mono ?_;rintro e w' ⟨v, ss, rfl, hS, hrow, hnil, hb⟩;have hpp : ss.Perm ks := hS.trans hp.symm;rw [World.size_alloc] at hrow hb;refine ⟨v, rfl, ?_, hb⟩;have e1 : (ss.mergeSort fun x y => decide (x <= y)) = ks := (mergeSort_of_perm hpp).trans (asc_sort ha);unfold Slc.Own;rw [encS_str];rw [e1, hpp.length_eq] at hrow;exact hrow
theorem keysTB (b : Option Nat) (W : World) : Calls Tryz.prog 79 #[.map b] W fun e w' => e = .returned (.func (.func 114) #[] #[.pointer (some ⟨W.heap.size, 0, none⟩)]) /\ w' = W.alloc (.cells #[.map b] 98) :=
 (callsIn_wide (n := 6)).1 (AnyZ.keys_in Tryz.keysB Fence.wide 6 trivial rfl b W)
theorem sortedTB (b n : Nat) (f : B -> Option Bool) (w : World) (h : OwnF w kS rdB edB b n f) (hn : n <= 1000000) (ks : List B) (ha : Asc ks) (hmem : ∀ k, k ∈ ks ↔ (f k).isSome = true) :
  Calls Tryz.prog 63 #[.func (.func 114) #[] #[.pointer (some ⟨w.heap.size, 0, none⟩)]] (w.alloc (.cells #[.map (some b)] 98))
   fun e w' => ∃ (v : Value), e = .returned v /\ Slc.Own w' (w.heap.size + 1) 9 1 encS v ks /\ Below (w.heap.size + 1) (w.alloc (.cells #[.map (some b)] 98)) w' := by
 obtain ⟨D, hown, hm⟩ := h;have hbl := hown.lt
 have hp : ks.Perm (strKeys D) := Collected.perm (left := fun _ => false) ⟨asc_nodup ha, fun x => by
  have h1 : Maps.has D (.string x) = (f x).isSome := hm.has_ x
  rw [h1, hmem]; simp⟩ hown (Go.Maps.string_keyed u_str) u_str fun _ => rfl
 have hsz : Maps.size D <= n := hown.size_le
 have hseq : SeqGives Fence.wide 3 Tryz.prog 114 #[.pointer (some ⟨w.heap.size, 0, none⟩)] encStr (fun ss => ss.Perm (strKeys D)) (Maps.size D) (w.alloc (.cells #[.map (some b)] 98)) :=
  AnyZ.keys_gives (ρ := Tryz.keysB_ren) { Tryz.keysB with } Fence.wide _ trivial rfl (by omega) w.heap.size b n D _ (by simp) (by simp) (by
   obtain ⟨es, clock, hb, Ft, hs, hD⟩ := hown
   exact ⟨es, clock, (Below.heap_alloc _ _ b hbl).trans hb, Ft, hs, hD⟩)
 have cS := AnyZ.sorted_in Tryz.sortedA Fence.wide 6 trivial trivial trivial trivial rfl (by omega) (sortsT _) (enters_of Tryz.func104 (by kernel_rfl) rfl) 114 #[.pointer (some ⟨w.heap.size, 0, none⟩)] trivial (enters_of Tryz.func114 (by kernel_rfl) rfl) _ _ (by unfold maxLen; omega) (by omega) _ hseq;refine ((callsIn_wide (n := 6)).1 cS).mono ?_;rintro e w' ⟨v, ss, rfl, hS, hrow, hnil, hb⟩;have hpp : ss.Perm ks := hS.trans hp.symm;rw [World.size_alloc] at hrow hb;refine ⟨v, rfl, ?_, hb⟩;have e1 : (ss.mergeSort fun x y => decide (x <= y)) = ks := (mergeSort_of_perm hpp).trans (asc_sort ha);unfold Slc.Own;rw [encS_str];rw [e1, hpp.length_eq] at hrow;exact hrow
theorem mcopy_any (w : World) (d s q : Nat) (f : B -> Option Sg) (hd : OwnF w kS rdS edS d 0 (fun _ => none)) (hs : OwnF w kS rdS edS s q f) (hne : d ≠ s) (hq : q <= 1000000) (hx : ∀ p, (f p).isSome = true -> p.length <= 1000000) :
  Calls Tryz.prog 49 #[.map (some d), .map (some s)] w fun e w' => (∃ u, e = .returned u) /\ (∃ q', q' <= q /\ OwnF w' kS rdS edS d q' f) /\ w.grownBy w' (some d) := by
 have HD := Bx.mk hd;have HXX := Bx.mk hx;have hdl := hd.lt;obtain ⟨D, hown, hIs⟩ := hs;have hsl := hown.lt;have HIS := Bx.mk hIs;have HSZ := Bx.mk hown.size_le;obtain ⟨r, hr⟩ : ∃ r, r = w.heap.size := ⟨_, rfl⟩
 have HR := Bx.mk hr;have HNE := Bx.mk hne;clear hd hIs hx hne;go_enter Tryz.func49, Tryz.ntmps49;go_wp2_with (at_range; refine wpList_range_own _ rfl _ 77 rfl 9 22 (Go.Maps.string_keyed u_str) u_mapSI _ s _ D rfl hown ?_; intro w0 hrg0 hg0 hs0)
 rw [<- hr] at hrg0 |-;have HD0 := Bx.mk (HD.out.kept hg0 (by simp));have HRG0 := Bx.mk hrg0;have HG0 := Bx.mk (show w.grownBy w0 (some d) from hg0.but _);have HDR := Bx.mk (show d ≠ r by rw [hr]; omega);clear hown hg0 hs0 hrg0 hr hsl;obtain ⟨CN, hCN⟩ : ∃ CN, CN = Maps.size D := ⟨_, rfl⟩
 rw [<- hCN] at HSZ HRG0;clear hCN;go_frame
 go_loopw [] (fun wr => ∃ (left : Lit -> Bool) (cnt q' : Nat), Bx (wr.ranges Tryz.prog 9 rdS s r q D left cnt) /\ Bx (q' + cnt <= CN) /\ Bx (OwnF wr kS rdS edS d q' (fun p => if left (.string p) then none else f p)) /\ Bx (w.grownBy wr (some d))) (fun wr => wr.rangeLeft s r)
 case atStart =>
  refine ⟨_, _, 0, HRG0, ⟨by omega⟩, ⟨?_⟩, HG0⟩
  have e : (fun p : B => if Maps.has D (.string p) then none else f p) = fun _ => none := by
   funext p
   have h1 : Maps.has D (.string p) = (f p).isSome := HIS.out.has_ p;rw [h1]
   cases f p <;> simp
  rw [e]; exact HD0.out
 case round =>
  clear HD0 HRG0 HG0;obtain ⟨left, cnt, q', hrg, hqc, hO, hG⟩ := hrel;go_wp2_with (at_next; refine next_tab HIS.out rfl _ rfl rfl hrg.out ?_ ?_)
  ·intro hl0;have HL0 := Bx.mk hl0;clear hl0;go_wp2_with fail
   go_end0
   refine ⟨⟨_, rfl⟩, ⟨q', by have := hqc.out; have := HSZ.out; omega, ?_⟩, hG.out⟩
   have e : (fun p : B => if left (.string p) then none else f p) = f := by
    funext p; rw [HL0.out p]; simp
   have := hO.out;rw [e] at this; exact this
  ·intro x c w1 cnt1 hkey hlx hfx hrg1 hlt1 hg1 hs1 hen;have hxl := HXX.out x (by rw [hfx]; rfl);obtain ⟨w2, hrun, ho2, hg2⟩ := (hO.out.kept hg1 (by simp only [ne_eq, zO]; exact HDR.out)).putS u_mapSI (by have := hqc.out; have := HSZ.out; unfold maxLen; omega) (k := x) (by unfold maxLen; omega) c c.val (rdS_mk c);have hrg2 := hrg1.kept hg2 (by simp only [ne_eq, zO]; exact fun e => HNE.out e.symm) (by simp only [ne_eq, zO]; exact fun e => HDR.out e.symm)
   have HO2 := Bx.mk (show OwnF w2 kS rdS edS d (q' + 1) (fun p => if (fun z : Lit => left z && !z.sameKey (.string x)) (.string p) then none else f p) by
    have e : (fun p : B => if (fun z : Lit => left z && !z.sameKey (.string x)) (.string p) then none else f p) = fun j => if j = x then some c else (if left (.string j) then none else f j) := by
     funext p
     simp only [sameS]
     by_cases e : p = x
     ·subst e; simp [hfx]
     ·simp [e]
    rw [e]; exact ho2)
   have HRG2 := Bx.mk hrg2;have HQ2 := Bx.mk (show q' + 1 + cnt1 <= CN by have := hqc.out; omega);have HLT := Bx.mk hlt1;have HG2 := Bx.mk (show w.grownBy w2 (some d) from grown_same (hG.out.andThen hg1 fun j e => .inl (by simp only [zO] at e; have := HR.out; omega)) hg2);have hcf : ∃ sa sn sc, c.val = .slice sa sn sc := ⟨_, _, _, rfl⟩
   obtain ⟨sa, sn, sc, hcf⟩ := hcf;have hrun' : (Instr.mapUpdate 77 (.map (some d)) (.string (bstr x)) c.val).run Tryz.prog w1 = .ok () w2 := hrun;rw [hcf] at hrun' hen |-;clear hrg1 hkey hlx hfx hlt1 hg1 hs1 ho2 hg2 hrg2 hrun hcf hxl;obtain ⟨X, hX⟩ : ∃ X, X = bstr x := ⟨_, rfl⟩
   rw [<- hX] at hen hrun' |-;clear hX;go_wp2_with fail
   go_roundw
   case rel => exact ⟨_, _, _, HRG2, HQ2, HO2, HG2⟩
   case measure => rw [HRG2.out.left_eq, hrg.out.left_eq]; exact HLT.out
end Go.Proofs.YtmagjdocondmhaaGreat.Tr.Gr
