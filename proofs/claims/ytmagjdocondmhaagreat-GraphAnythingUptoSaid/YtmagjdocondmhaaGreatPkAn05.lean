/- packed -/
import Derived.Test.YtmagjdocondmhaaGreatPkAn04
set_option linter.unusedVariables false
set_option linter.unusedSimpArgs false
set_option maxRecDepth 100000
set_option maxHeartbeats 64000000
namespace Go.Proofs.YtmagjdocondmhaaGreat.Tr.Gr
open Go Go.RowKit Slc St Mp Tr Rg
attribute [local go_sem] Oper.semAt_some
theorem gxs_at' (g : List Lv) (i : Nat) (h : i < g.length) : (gxs g)[i]! = vxs (g[i]).vs := by
 rw [getElem!_pos (gxs g) i (by simpa [gxs] using h)]; simp [gxs]
theorem gxs_len (g : List Lv) : (gxs g).length = g.length := by simp [gxs]
theorem mk_cells {w : World} {S : Nat -> Prop} {ad : Option Addr} {n c : Nat} {l : List Bool} (h : RdIn w S encM (.slice ad n c) l) (W : World) (hW : ∀ k, k < w.heap.size -> S k -> W.heap[k]? = w.heap[k]?) (k : Nat) (hk : k < l.length) : ∃ b o, ad = some ⟨b, o, none⟩ /\ b < w.heap.size /\ W.cell? ⟨b, o + k, none⟩ = some (.bool l[k]!) := by
 obtain ⟨b, o, c, hv', _, hlt, hc⟩ := h.1.cells encM_ok (by omega);simp only [Value.slice.injEq] at hv'
 have q := hc W (fun k' hk' => hW k' (h.1.lt k' hk') (h.2 k' hk')) k hk 0 _ (by omega) rfl;rw [Nat.mul_one, Nat.add_zero] at q;exact ⟨b, o, hv'.1, hlt, by rw [q, getElem!_pos l k hk]⟩
theorem src_ver (w : World) (y : Vt) : SrcV (w.alloc (.cells #[.string (bstr y.n.pol), y.u.val, y.q.val] 65)) 3 (.slice (some ⟨w.heap.size, 0, none⟩) 1 1) 1 ([y].flatMap encV) := src_new encV_ok (heap_alloc_new _ _)
theorem src_int (w : World) (y : Int) : SrcV (w.alloc (.cells #[.int .i64 y] 3)) 1 (.slice (some ⟨w.heap.size, 0, none⟩) 1 1) 1 ([y].flatMap encI) := src_new encI_ok (heap_alloc_new _ _)
theorem sl_of {α : Type} {w : World} {Bk z : Nat} {t : TypeId} {enc : α -> List Value} {v : Value} {l : List α} (h : Slc.Own w Bk t z enc v l) : ∃ s : Sl, v = s.val := by
 obtain ⟨ad, c, h, -⟩ := h.rd.form;exact ⟨⟨ad, _, c⟩, h⟩
theorem renV_ok {m : List Bool} {n : Vx} (h : Vx.Ok n) (hm : ∀ p ∈ n.par, 0 <= p /\ p < (m.length : Int)) (hml : m.length <= 100000) : Vx.Ok (renV m n) := by
 refine ⟨h.1, h.2.1, Nat.le_trans (renP_len _ _) h.2.2.1, fun p hp => ?_⟩;unfold renV renP at hp;obtain ⟨q, hq, rfl⟩ := List.mem_map.1 hp;have hq' := hm q (List.mem_filter.1 hq).1;have := rk_le m q.toNat;omega
theorem filter_r (w : World) (B : Nat) (v : Value) (g : List Lv) (h : GO w B v g) (hn : g.length <= 100000) (hln : ∀ L ∈ g, L.vs.length <= 100000) (k : Nat) (hk : k < g.length) (mv : Value) (m : List Bool) (hm : RdIn w (fun j => ¬ GB v g j) encM mv m) (hml : m.length = (g[k]).vs.length)
  (hpar : ∀ (h1 : k + 1 < g.length), ∀ x ∈ (g[k + 1]).vs, ∀ p ∈ x.n.par, 0 <= p /\ p < (m.length : Int)) :
  Calls Tryz.prog 96 #[v, .int .i64 k, mv] w fun e w' => (∃ u, e = .returned u) /\ ∃ g', GStep w B v g w' g' /\ gxs g' = filtG (gxs g) k m /\ FiltR w w' g g' k m := by
 obtain ⟨i0, hi0, hz0, hz1, hz2⟩ := info_parts info_ver;obtain ⟨ib, hib, hib0, hib1, hib2⟩ := info_parts info_int;have HG := Bx.mk h;have HLN := Bx.mk hln;have HMK := Bx.mk hm;have HPAR := Bx.mk hpar;obtain ⟨ad, c, rfl, -⟩ := h.own.rd.form;obtain ⟨md, mc, rfl, -⟩ := hm.1.form;have HMC := Bx.mk (mk_cells hm);have HMC' := Bx.mk HMC.out;obtain ⟨gb, rfl, l0, hgfr⟩ := h.cellL k hk;have HGLT := Bx.mk (show gb < w.heap.size from World.block_lt_of_cell? w _ l0);have HVL := Bx.mk (h.gl.lv _ (zM hk));have hll := hln _ (zM hk);obtain ⟨L, hL⟩ : ∃ L, L = g[k] := ⟨_, rfl⟩
 rw [<- hL] at l0 HVL hll hml;have HL := Bx.mk hL;obtain ⟨la, lc, hls, -⟩ := HVL.out.rd.form;rw [hls] at l0 HVL;obtain ⟨N, hN⟩ : ∃ N, N = g.length := ⟨_, rfl⟩
 have HN := Bx.mk hN;obtain ⟨M, hM⟩ : ∃ M, M = m.length := ⟨_, rfl⟩
 have HM := Bx.mk hM;obtain ⟨NV, hNV⟩ : ∃ NV, NV = L.vs.length := ⟨_, rfl⟩
 have HNV := Bx.mk hNV;have HMNV := Bx.mk (show M = NV by omega);have hMb : M <= 100000 := by omega
 have hNVb : NV <= 100000 := by omega
 have HK := Bx.mk hk;rw [<- hNV] at l0;rw [<- hN] at hn hk |-;rw [<- hM];have hkN : k < N := hk;have hmk := run_makeSlice (P := Tryz.prog) w 22 3 ib (.int .i64 0) Tryz.underlying22 hib hib0 .i64 .i64 (M : Nat) (M : Nat) (by omega) (by omega) (by rw [Int.toNat_natCast, hib1]; omega) (by rw [hib2]; omega) (by omega);simp only [Int.toNat_natCast, hib1, made_ints] at hmk
 obtain ⟨pb, hpb⟩ : ∃ q, q = w.heap.size := ⟨_, rfl⟩
 obtain ⟨W1, hW1⟩ : ∃ W1, W1 = w.alloc (.cells (Array.replicate M (Value.int .i64 0)) 3) := ⟨_, rfl⟩
 have hb1 : Below w.heap.size w W1 := by rw [hW1]; exact (Below.refl _ _).alloc (zR _) _
 have HB1 := Bx.mk (show Below pb w W1 by rw [hpb]; exact hb1);have HI1 := Bx.mk (show MI W1 pb (plJ m M 0) by rw [plJ_zero, hW1]; unfold MI; rw [List.map_replicate, List.toArray_replicate]; exact alloc_at hpb);have HP := Bx.mk hpb;have HS1 := Bx.mk (show W1.heap.size = pb + 1 by rw [hW1, hpb]; simp);have l1 := (hb1.cell (p := ⟨gb, k, none⟩) HGLT.out).trans l0;clear h hln hm hpar hL hls hN hM hNV hk hml hb1 hgfr;go_enter Tryz.func96, Tryz.ntmps96;go_upto_region 1 with fail
 rw [<- hW1, <- hpb];clear hmk hW1 hpb l0;go_wp2_with fail
 clear l1;go_loopw [7, 24] (fun hv i wr => ∃ j : Nat, j <= NV /\ i = .int .i64 j /\ Bx (Slc.Own wr (pb + 1) 65 3 encV hv (keepT L.vs m j)) /\ Bx (MI wr pb (plJ m M j)) /\ Bx (Below pb w wr)) (fun _ i _ => NV - (intOf i).toNat)
 case atStart => exact ⟨0, by omega, rfl, ⟨Slc.Own.nil _ _⟩, HI1, HB1⟩
 case round =>
  clear HI1 HB1;obtain ⟨j, hj, rfl, hO, hI, hBw⟩ := hrel;have hBw' : Below w.heap.size w wr := HP.out ▸ hBw.out;obtain ⟨av, cv, rfl, -⟩ := hO.out.rd.form;have hkl := keepT_len L.vs m j;obtain ⟨KL, hKL⟩ : ∃ KL, KL = (keepT L.vs m j).length := ⟨_, rfl⟩
  have HKL := Bx.mk hKL;have hKLb : KL <= j := by rw [hKL, hkl]; exact rk_le m j
  rw [<- hKL] at hkl |-;have HKR := Bx.mk hkl;clear hKL hkl;by_cases hlt : j < NV
  ·have hjl : j < L.vs.length := by rw [<- HNV.out]; exact hlt
   have hjM : j < M := by have := HMNV.out; omega
   obtain ⟨b, o, rfl, hbl, c0, c1, c2⟩ := HVL.out.at3 wr hBw' j hjl;obtain ⟨bm, om, rfl, hbm, cm⟩ := HMC.out wr (fun q hq _ => hBw'.block q hq) j (by rw [<- HM.out]; exact hjM);have HX := Bx.mk (getElem!_pos L.vs j hjl);obtain ⟨x, hx⟩ : ∃ x, x = L.vs[j] := ⟨_, rfl⟩
   rw [<- hx] at c0 c1 c2 HX;obtain ⟨mk, hmk⟩ : ∃ b, b = m[j]! := ⟨_, rfl⟩
   rw [<- hmk] at cm;have HMKJ := Bx.mk hmk;simp only [Sl.val] at c1 c2
   have hbmlt := World.block_lt_of_cell? wr _ cm;obtain ⟨W2, hW2⟩ : ∃ W2, W2 = wr.alloc (.cells #[.string (bstr x.n.pol), .slice x.u.ad x.u.n x.u.c, .slice x.q.ad x.q.n x.q.c] 65) := ⟨_, rfl⟩
   have hb2 : Below wr.heap.size wr W2 := by rw [hW2]; exact (Below.refl _ _).alloc (zR _) _
   obtain ⟨q9, hq9⟩ : ∃ q, q = wr.heap.size := ⟨_, rfl⟩
   have hr9 : W2.heap[q9]? = some (.cells #[.string (bstr x.n.pol), .slice x.u.ad x.u.n x.u.c, .slice x.q.ad x.q.n x.q.c] 65 (0, 0)) := by rw [hW2, hq9]; exact heap_alloc_new _ _
   have hI2 : MI W2 pb (plJ m M j) := (hb2.block pb (lt_of_some hI.out)).trans hI.out;have hpblt := lt_of_some hI.out;have z1 := Go.Proofs.YtmagjdocondmhaaGreat.Rg.frozen_row (i := j) hI2;have m1 := hI2.cell j (by rw [plJ_length]; exact hjM);obtain ⟨W3, hW3⟩ : ∃ W3, W3 = W2.setCell ⟨pb, j, none⟩ (.int .i64 KL) := ⟨_, rfl⟩
   have hI3 : MI W3 pb (plJ m M (j + 1)) := by rw [hW3, plJ_succ hjM, <- HKR.out]; exact hI2.set j _
   have hne9 : q9 ≠ pb := by omega
   have hr93 := Go.Proofs.YtmagjdocondmhaaGreat.Rg.row_other (q := pb) (i := j) hr9 hne9 (.int .i64 KL);rw [<- hW3] at hr93;have hcm2 := (hb2.cell (p := ⟨bm, om + j, none⟩) hbmlt).trans cm
   have hBw2 : Below pb w W3 := by
    rw [hW3];refine (hBw.out.trans (hb2.mono (by omega))).setCell (zR _) _
   have HB3 := Bx.mk hBw2;have HI3 := Bx.mk hI3;have HR9 := Bx.mk hr93
   have hO3 : Slc.Own W3 (pb + 1) 65 3 encV (.slice av KL cv) (keepT L.vs m j) := by
    have hO' := hO.out;rw [<- HKL.out] at hO';rw [hW3];refine (hO'.below hb2).keep fun q hq hql => ?_
    have := (hO'.lt q hq).1;exact heap_setCell_other _ _ _ _ (by show q ≠ pb; omega)
   have HO3 := Bx.mk hO3;have HPBL := Bx.mk (show pb + 1 <= W3.heap.size by rw [hW3]; have := hb2.size; simp; omega)
   have HCM3 := Bx.mk (show bm ≠ pb -> W3.cell? ⟨bm, om + j, none⟩ = some (.bool mk) from fun hne => by
    rw [hW3];have : (W2.setCell ⟨pb, j, none⟩ (.int .i64 KL)).heap[bm]? = W2.heap[bm]? := heap_setCell_other _ _ _ _ hne;unfold World.cell? at hcm2 |-
    rw [this]; exact hcm2)
   have cm3 := HCM3.out (by have := HP.out; omega);clear hI3 hr93 hO3 hBw2 hr9 hI2 hb2 hbl hx hmk hjl;go_upto_region 5 with fail
   rw [<- hW2, <- hq9];have HW3 := Bx.mk hW3;clear c0 c1 c2 cm hq9 hW2 hW3 hcm2 cm3;go_upto_region 6 with fail
   rw [<- HW3.out];have cm3 := HCM3.out (by have := HP.out; omega);clear HW3 z1 m1 hne9
   cases mk with
   | false =>
    go_wp2_with fail
    go_roundw
    case rel => exact ⟨j + 1, by omega, by go_num, ⟨by rw [keepT_succ, <- HMKJ.out]; simpa using HO3.out⟩, HI3, HB3⟩
    case measure => simp [intOf]; omega
   | true =>
    have m0 := cell_of_row _ _ 0 _ _ _ HR9.out;have m1 := cell_of_row _ _ 1 _ _ _ HR9.out;have m2 := cell_of_row _ _ 2 _ _ _ HR9.out;simp only [List.getElem?_toArray, List.getElem?_cons_zero, List.getElem?_cons_succ] at m0 m1 m2
    have hsrc := src_ver W3 x;simp only [Sl.val] at hsrc
    have HSRC := Bx.mk hsrc;have hown4 := HO3.out.below ((Below.refl _ _).alloc (zR _) (.cells #[.string (bstr x.n.pol), .slice x.u.ad x.u.n x.u.c, .slice x.q.ad x.q.n x.q.c] 65));have HOWN := Bx.mk hown4
    have HOWR := Bx.mk (show World.ownsRow (W3.alloc (.cells #[.string (bstr x.n.pol), .slice x.u.ad x.u.n x.u.c, .slice x.q.ad x.q.n x.q.c] 65)) (pb + 1) 65 3 (.slice av KL cv) KL ((keepT L.vs m j).flatMap encV) by
     have := hown4;unfold Slc.Own at this
     rwa [<- HKL.out] at this)
    have hm1 : KL + 1 <= maxLen := (by unfold maxLen; omega);have hm2 : (KL + 1) * 64 <= 140737488355328 := (by omega);have hbz : pb + 1 <= (W3.alloc (.cells #[.string (bstr x.n.pol), .slice x.u.ad x.u.n x.u.c, .slice x.q.ad x.q.n x.q.c] 65)).heap.size := (by have := HPBL.out; simp; omega);have hba := ((Below.refl W3.heap.size W3).alloc (zR _) (.cells #[.string (bstr x.n.pol), .slice x.u.ad x.u.n x.u.c, .slice x.q.ad x.q.n x.q.c] 65));have HBA := Bx.mk hba;clear hsrc hown4 hba;go_wp2_with (at_builtin; refine wpList_append_any rfl _ _ _ rfl (pb + 1) 65 i0 _ 3 64 und_vers hi0 hz0 hz1 hz2 rfl (by decide) _ KL ((keepT L.vs m j).flatMap encV) rfl HOWR.out _ 1 ([x].flatMap encV) rfl HSRC.out hm1 hm2 hbz ?_)
    intro v9 w9 hapd
    have HO9 := Bx.mk (show Slc.Own w9 (pb + 1) 65 3 encV v9 (keepT L.vs m (j + 1)) by
     rw [keepT_succ, <- HMKJ.out, if_pos rfl, HX.out]
     exact HOWN.out.apd rfl rfl HKL.out rfl hapd)
    have hbig : ∀ q, (Value.slice av KL cv).ownBlock = some q -> pb + 1 <= q := fun q hq => (HOWN.out.lt q hq).1
    have HB9 := Bx.mk (show Below pb w w9 from (HB3.out.trans (HBA.out.mono (by have := HPBL.out; omega))).grown hapd.grown (by have := HPBL.out; simp; omega) fun q hq => by have := hbig q hq; omega);have HI9 := Bx.mk (show MI w9 pb (plJ m M (j + 1)) from (hapd.grown.block pb (by have := HPBL.out; simp; omega) (fun e => by have := hbig pb e.symm; omega)).trans ((HBA.out.block pb (by have := HPBL.out; omega)).trans HI3.out));clear hapd hm1 hm2 hbz m0 m1 m2 hbig;go_wp2_with fail
    go_roundw
    case rel => exact ⟨j + 1, by omega, by go_num, HO9, HI9, HB9⟩
    case measure => simp [intOf]; omega
  ·obtain rfl : j = NV := by omega
   have hGw := HG.out;have HBL := Bx.mk (show B <= w.heap.size from by have := hGw.lt (k := gb) (.inl rfl); omega);have hO' := hO.out;have hGr := hGw.below hBw';have hblk : ∀ q, (Value.slice av KL cv).ownBlock = some q -> pb + 1 <= q := fun q hq => (hO'.lt q (by rw [<- HKL.out]; exact hq)).1
   obtain ⟨gb', cap', hgv, hgl, hgfz, hgo9, hgr9⟩ := hGr.setL k HK.out ⟨keepT L.vs m j, ⟨av, KL, cv⟩⟩ (by
     have := hO'.mono (B' := B) (by have := HBL.out; have := HP.out; omega);rw [<- HKL.out] at this
     exact this) (fun q hq => by
     have h1 := hblk q hq;refine ⟨fun e => ?_, fun i hi _ e => ?_⟩
     ·have := hGw.lt (k := q) (.inl e); have := HP.out; omega
     ·have := hGw.lt (k := q) (.inr ⟨_, zM hi, e⟩); have := HP.out; omega) (fun i hi _ x hx => by
     refine ((hGw.nm _ (zM hi) x hx).at_.below hBw' |> fun h => (VtIn.mono (S' := fun q => (Value.slice av KL cv).ownBlock ≠ some q) (VtIn.below (hGw.nm _ (zM hi) x hx).at_ hBw') fun q _ hq e => ?_))
     have := hblk q e; have := HP.out; omega) (fun x hx => by
     have hxL : x ∈ (g[k]'HK.out).vs := (by rw [<- HL.out]; exact keepT_mem (by rw [<- HNV.out]; exact zR _) hx);have h0 := hGw.nm _ (zM HK.out) x hxL;refine ((VtIn.and h0 h0.at_).below hBw').mono fun q _ hq hn => ?_
     rcases GB.set hn with e | e
     ·exact hq.1 e
     ·have := hblk q e; have := HP.out; have := hq.2; omega)
   simp only [Value.slice.injEq, zO, Addr.mk.injEq, and_true] at hgv
   obtain ⟨rfl, -, rfl⟩ := hgv;have hcell := hGr.cellL k HK.out;obtain ⟨gb2, he2, l9, -⟩ := hcell;simp only [zO, Addr.mk.injEq, and_true] at he2
   subst he2;obtain ⟨W9, hW9⟩ : ∃ W9, W9 = wr.setCell ⟨gb, k, none⟩ (.slice av KL cv) := ⟨_, rfl⟩
   have hz9 := hgfz k;have hgr9' : wr.grownBy W9 (some gb) := by rw [hW9]; exact hgr9
   have hgo9' : GO W9 B (.slice (some ⟨gb, 0, none⟩) g.length c) (g.set k ⟨keepT L.vs m j, ⟨av, KL, cv⟩⟩) := by rw [hW9]; exact hgo9
   have HS9 := Bx.mk (show GStep w B (.slice (some ⟨gb, 0, none⟩) g.length c) g W9 (g.set k ⟨keepT L.vs m j, ⟨av, KL, cv⟩⟩) from
    ⟨hgo9', (Fr.of_below (S := GB (.slice (some ⟨gb, 0, none⟩) g.length c) g) hBw').trans (Fr.of_grown (S := GB (.slice (some ⟨gb, 0, none⟩) g.length c) g) hgr9' fun q hq => by
      simp only [zO] at hq; subst hq; exact .inl rfl) (fun _ _ q => q), fun q hq => by
     rcases GB.set hq with e | e
     ·exact .inl e
     ·have := hblk q e; have := HP.out; exact .inr (by omega)⟩)
   have HI9 := Bx.mk (show MI W9 pb (plJ m M M) by
    have e : j = M := HMNV.out.symm;have h1 := hI.out;rw [e] at h1
    exact (hgr9'.block pb (lt_of_some h1) (by simp only [ne_eq, zO]; have := HGLT.out; have := HP.out; omega)).trans h1)
   have HG1 := Bx.mk (show gxs (g.set k ⟨keepT L.vs m j, ⟨av, KL, cv⟩⟩) = (gxs g).set k (keepT (gxs g)[k]! m ((gxs g)[k]!).length) by
    rw [gxs_at' g k HK.out, <- HL.out, vxs_len, <- HNV.out, <- keepT_vxs _ _ _ (by rw [<- HNV.out]; exact zR _)]
    exact List.map_set)
   clear hGw hO' hGr hblk hgl hgfz hgo9 hgr9 hgr9' hgo9' hO hI hBw hBw' HVL HMC;have HW9 := Bx.mk hW9;clear hW9;go_upto_region 10 with fail
   rw [<- HW9.out];clear l9 hz9 HW9;by_cases hlast : k + 1 = N
   ·have t1 : (((k : Int) + 1) == (N : Int)) = true := by simp; omega
    have HFE := Bx.mk (show gxs (g.set k ⟨keepT L.vs m j, ⟨av, KL, cv⟩⟩) = filtG (gxs g) k m by
     rw [HG1.out]; unfold filtG; rw [gxs_len, <- HN.out, if_neg (by omega)])
    have t2 : ((k : Int) + 1) = (N : Int) := by omega
    have HFR := Bx.mk (show FiltR w W9 g (g.set k ⟨keepT L.vs m j, ⟨av, KL, cv⟩⟩) k m from
     ⟨by simp, fun i h1 h2 h3 _ => by rw [List.getElem_set, if_neg (fun e => h3 e.symm)], fun h1 h2 => by
      rw [List.getElem_set_self, <- HL.out, <- HNV.out], fun h1 => by rw [<- HN.out] at h1; omega⟩)
    clear hlast;go_wp2_with fail
    refine bodyPost_ret (results_none rfl _ _ _) rfl ?_;rw [HN.out];exact ⟨⟨_, rfl⟩, _, HS9.out, HFE.out, HFR.out⟩
   ·have t1 : (((k : Int) + 1) == (N : Int)) = false := by simp; omega
    have t2 : ¬ ((k : Int) + 1) = (N : Int) := (by omega);have hk1N : k + 1 < N := (by omega);have HK1 := Bx.mk (show k + 1 < g.length by rw [<- HN.out]; exact hk1N);obtain ⟨X, hX⟩ : ∃ X, X = g[k + 1]'HK1.out := ⟨_, rfl⟩
    have HXG := Bx.mk hX;have HPX := Bx.mk (show ∀ x ∈ X.vs, ∀ p ∈ x.n.par, 0 <= p /\ p < (m.length : Int) by rw [hX]; exact HPAR.out HK1.out);have hXl : X.vs.length <= 100000 := (by rw [hX]; exact HLN.out _ (zM HK1.out));obtain ⟨g1, hg1⟩ : ∃ g1, g1 = g.set k ⟨keepT L.vs m j, ⟨av, KL, cv⟩⟩ := ⟨_, rfl⟩
    rw [<- hg1] at HS9 HG1;have HG1L := Bx.mk (show g1.length = g.length by rw [hg1]; simp);have HKX := Bx.mk (show k + 1 < g1.length by rw [HG1L.out]; exact HK1.out)
    have HX1 := Bx.mk (show g1[k + 1]'HKX.out = X by
     rw [hX]; simp only [hg1]
     rw [List.getElem_set, if_neg (by omega)])
    obtain ⟨gb3, he3, x9, -⟩ := HS9.out.go.cellL (k + 1) HKX.out;simp only [zO, Addr.mk.injEq, and_true] at he3
    subst he3;rw [HX1.out] at x9;have hXo := HS9.out.go.lv _ (zM HKX.out);rw [HX1.out] at hXo;obtain ⟨xa, xc, hxs, -⟩ := hXo.rd.form;rw [hxs] at x9;obtain ⟨NX, hNX⟩ : ∃ NX, NX = X.vs.length := ⟨_, rfl⟩
    have HNX := Bx.mk hNX;rw [<- hNX] at x9 hxs hXl;have HXS := Bx.mk hxs
    have HS := Bx.mk (show GStep w B (.slice (some ⟨gb, 0, none⟩) g.length c) g W9 (g1.set (k + 1) ⟨X.vs, X.s⟩) by
     have e : g1.set (k + 1) ⟨X.vs, X.s⟩ = g1 := by
      apply List.ext_getElem
      ·simp
      ·intro i h1 h2;rw [List.getElem_set];split
       ·rename_i e; subst e; exact HX1.out.symm
       ·rfl
     rw [e]; exact HS9.out)
    have w1k : IntKind.i64.wrap ((k : Int) + 1) = ((k + 1 : Nat) : Int) := (by rw [IntWalk.i64_in _ (by omega)]; omega);have HPB0 := Bx.mk (show pb + 0 = w.heap.size from HP.out);have HG1D := Bx.mk hg1;clear hlast hg1 hX hNX hXo hxs;go_wp2_with fail
    clear x9 w1k t1 t2;go_loopw [60] (fun i wr => ∃ (q : Nat) (vs2 : List Vt), q <= NX /\ i = .int .i64 q /\ Bx (vs2.length = NX) /\ Bx (∀ r, r < NX -> (r < q -> (vs2[r]!).n = renV m (X.vs[r]!).n) /\ (q <= r -> vs2[r]! = X.vs[r]!)) /\ Bx (FX wr w.heap.size vs2 X.vs q) /\ Bx (GStep w B (.slice (some ⟨gb, 0, none⟩) g.length c) g wr (g1.set (k + 1) ⟨vs2, X.s⟩)) /\ Bx (MI wr pb (plJ m M M))) (fun i _ => NX - (intOf i).toNat)
    case atStart => exact ⟨0, X.vs, by omega, rfl, ⟨HNX.out.symm⟩, ⟨fun r hr => ⟨fun h => by omega, fun _ => rfl⟩⟩, ⟨FX.zero _ _ _ _⟩, HS, HI9⟩
    case round =>
     clear HS HI9 HS9;obtain ⟨q, vs2, hq, rfl, hvl, hvs, hFX, hS, hI⟩ := hrel;obtain ⟨g2, hg2⟩ : ∃ g2, g2 = g1.set (k + 1) ⟨vs2, X.s⟩ := ⟨_, rfl⟩
     have HG2 := Bx.mk hg2;rw [<- hg2] at hS;have HK2 := Bx.mk (show k + 1 < g2.length by rw [hg2, zL]; exact HKX.out);have HX2 := Bx.mk (show g2[k + 1]'HK2.out = ⟨vs2, X.s⟩ by simp only [hg2]; rw [List.getElem_set, if_pos rfl]);clear hg2;by_cases hlt2 : q < NX
     ·have HQL := Bx.mk (show q < vs2.length by rw [hvl.out]; exact hlt2);have hql := HQL.out;have hqX : q < X.vs.length := (by rw [<- HNX.out]; exact hlt2);have hown := hS.out.go.lv _ (zM HK2.out);rw [HX2.out] at hown
      have hxe : vs2[q] = X.vs[q] := by
       have := (hvs.out q hlt2).2 (zR _);rwa [getElem!_pos vs2 q hql, getElem!_pos X.vs q hqX] at this
      have hxm := HPX.out _ (zM hqX);have hnm := hS.out.go.nm _ (zM HK2.out) (vs2[q]) (by rw [HX2.out]; exact zM hql);obtain ⟨x, hx⟩ : ∃ x, x = vs2[q]'HQL.out := ⟨_, rfl⟩
      rw [<- hxe, <- hx] at hxm;rw [<- hx] at hnm;have HXE := Bx.mk hx;have HXM := Bx.mk hxm;have HNM := Bx.mk hnm;have hown' := hown;rw [HXS.out] at hown'
      obtain ⟨nb, hnb, c0, c1, c2, hfz⟩ : ∃ nb, xa = some ⟨nb, 0, none⟩ /\ wr.cell? ⟨nb, q * 3, none⟩ = some (.string (bstr x.n.pol)) /\ wr.cell? ⟨nb, q * 3 + 1, none⟩ = some x.u.val /\ wr.cell? ⟨nb, q * 3 + 2, none⟩ = some x.q.val /\ ∀ i, wr.frozen? ⟨nb, i, none⟩ = false := by
       obtain ⟨nb, cap, hv, -, -, hfr, -, -⟩ := hown'.set1 encV_ok q 0 hql (by omega) (.string (bstr (vs2[q]).n.pol)) vs2[q] rfl;simp only [Value.slice.injEq] at hv
       obtain ⟨rfl, -, -⟩ := hv;have hc := fun i u (hi : i < 3) (hu : (encV vs2[q])[i]? = some u) => hown'.cell encV_ok q hql i hi u hu
       rw [<- hx] at hc;exact ⟨nb, rfl, hc 0 _ (by omega) rfl, hc 1 _ (by omega) rfl, hc 2 _ (by omega) rfl, hfr⟩
      subst hnb;obtain ⟨pa, pc, hpq, -⟩ := RqIn.form hnm.2.1;obtain ⟨ua, uc, hup, -⟩ := hnm.1.1.form;have HPC := Bx.mk (Ri.cells (hpq ▸ hnm.2.1.all));obtain ⟨PN, hPN⟩ : ∃ PN, PN = x.n.par.length := ⟨_, rfl⟩
      have HPN := Bx.mk hPN;have hPNb : PN <= 100000 := (by rw [hPN]; exact hnm.2.2.2.2.1);rw [hup] at c1;rw [hpq, <- hPN] at c2;obtain ⟨W4, hW4⟩ : ∃ W4, W4 = wr.alloc (.cells #[.string (bstr x.n.pol), .slice ua x.n.ex.length uc, .slice pa PN pc] 65) := ⟨_, rfl⟩
      have hb4 : Below wr.heap.size wr W4 := (by rw [hW4]; exact (Below.refl _ _).alloc (zR _) _);obtain ⟨q11, hq11⟩ : ∃ q, q = wr.heap.size := ⟨_, rfl⟩
      have hr11 : W4.heap[q11]? = some (.cells #[.string (bstr x.n.pol), .slice ua x.n.ex.length uc, .slice pa PN pc] 65 (0, 0)) := (by rw [hW4, hq11]; exact heap_alloc_new _ _);have HB4 := Bx.mk hb4;have HS4 := Bx.mk (hS.out.below hb4);have HI4 := Bx.mk (show MI W4 pb (plJ m M M) from (hb4.block pb (lt_of_some hI.out)).trans hI.out);have m11 := cell_of_row _ _ 2 _ _ _ hr11;simp only [List.getElem?_toArray, List.getElem?_cons_zero, List.getElem?_cons_succ] at m11
      have HFZ := Bx.mk hfz;have HSZ4 := Bx.mk (show wr.heap.size + 1 = W4.heap.size by rw [hW4]; simp);have HFX4 := Bx.mk (hFX.out.below hb4)
      have HFXC := Bx.mk (show ∀ r, r < q -> ∀ k, (vs2[r]!).q.val.ownBlock = some k -> k < W4.heap.size from fun r hr k hk => by
       have := ((hFX.out.own r hr).lt k hk).2
       have := hb4.size; omega)
      have HXU := Bx.mk (show x.u = (X.vs[q]!).u by rw [<- (hvs.out q hlt2).2 (zR _), getElem!_pos vs2 q hql, hx]);clear hown hown' hxe hxm hnm hx hpq hup hPN hr11 hb4 hql hqX hfz;go_upto_region 15 with fail
      rw [<- hW4, <- hq11];clear hW4 hq11 c0 c1 c2;go_wp2_with fail
      clear m11;go_loopw [12, 68] (fun pv i wz => ∃ n : Nat, n <= PN /\ i = .int .i64 n /\ Bx (Slc.Own wz W4.heap.size 3 1 encI pv (renP m (x.n.par.take n))) /\ Bx (Below W4.heap.size W4 wz)) (fun _ i _ => PN - (intOf i).toNat)
      case atStart => exact ⟨0, by omega, rfl, ⟨Slc.Own.nil _ _⟩, ⟨Below.refl _ _⟩⟩
      case round =>
       obtain ⟨n, hn', rfl, hO5, hB5⟩ := hrel;obtain ⟨ra, rc, rfl, -⟩ := hO5.out.rd.form;obtain ⟨RL, hRL⟩ : ∃ RL, RL = (renP m (x.n.par.take n)).length := ⟨_, rfl⟩
       have HRL := Bx.mk hRL;have hRLb : RL <= n := (by rw [hRL]; exact Nat.le_trans (renP_len _ _) (by rw [List.length_take]; omega));rw [<- hRL];clear hRL;by_cases hlt3 : n < PN
       ·have hnl : n < x.n.par.length := by rw [<- HPN.out]; exact hlt3
        obtain ⟨bp, op, rfl, hbp, d0⟩ := HPC.out wr (HB4.out.trans (hB5.out.mono HB4.out.size)) n hnl;have hpi := HXM.out _ (zM hnl);have HTK := Bx.mk (zA hnl);obtain ⟨p, hp⟩ : ∃ p, p = x.n.par[n] := ⟨_, rfl⟩
        rw [<- hp] at d0 hpi HTK;obtain ⟨pp, rfl⟩ : ∃ pp : Nat, p = (pp : Int) := ⟨p.toNat, by omega⟩
        have hppM : pp < M := (by rw [HM.out]; omega);have HRS := Bx.mk (show renP m (x.n.par.take (n + 1)) = renP m (x.n.par.take n) ++ if m[pp]! then [((rk m pp : Nat) : Int)] else [] by rw [HTK.out, renP_snoc]; rfl);obtain ⟨bm, om, rfl, hbm, cm⟩ := HMC'.out wr (fun q hq hn => (hB5.out.block q (by have := HS4.out.fr.size; omega)).trans (HS4.out.fr.block q hq hn)) pp (by rw [<- HM.out]; exact hppM);have hI5 : MI wr pb (plJ m M M) := (hB5.out.block pb (lt_of_some HI4.out)).trans HI4.out;have i0 := hI5.cell pp (by rw [plJ_length]; exact hppM);rw [plJ_at m M pp hppM] at i0;obtain ⟨mk, hmk⟩ : ∃ b, b = m[pp]! := ⟨_, rfl⟩
        rw [<- hmk] at cm HRS;obtain ⟨rp, hrp⟩ : ∃ r, r = rk m pp := ⟨_, rfl⟩
        rw [<- hrp] at i0 HRS;clear hI5 hp hpi hnl hmk hrp
        cases mk with
        | false =>
         go_wp2_with fail
         go_roundw
         case rel => exact ⟨n + 1, by omega, by go_num, ⟨by rw [HRS.out]; have := hO5.out; rw [<- HRL.out] at this; simpa using this⟩, hB5⟩
         case measure => simp [intOf]; omega
        | true =>
         have HSRC := Bx.mk (src_int wr (rp : Nat));have HBA := Bx.mk ((Below.refl wr.heap.size wr).alloc (zR _) (.cells #[.int .i64 (rp : Nat)] 3));have HOWN := Bx.mk (hO5.out.below HBA.out)
         have HOWR := Bx.mk (show World.ownsRow (wr.alloc (.cells #[.int .i64 (rp : Nat)] 3)) W4.heap.size 3 1 (.slice ra RL rc) RL ((renP m (x.n.par.take n)).flatMap encI) by
          have := HOWN.out;unfold Slc.Own at this
          rwa [<- HRL.out] at this)
         have hm1 : RL + 1 <= maxLen := (by unfold maxLen; omega);have hm2 : (RL + 1) * 8 <= 140737488355328 := (by omega);have hbz : W4.heap.size <= (wr.alloc (.cells #[.int .i64 (rp : Nat)] 3)).heap.size := (by have := hB5.out.size; simp; omega);go_wp2_with (at_builtin; refine wpList_append_any rfl _ _ _ rfl W4.heap.size 3 ib _ 1 8 und_ints hib hib0 hib1 hib2 rfl (by decide) _ RL ((renP m (x.n.par.take n)).flatMap encI) rfl HOWR.out _ 1 ([((rp : Nat) : Int)].flatMap encI) rfl HSRC.out hm1 hm2 hbz ?_)
         intro v6 w6 hapd
         have HO6 := Bx.mk (show Slc.Own w6 W4.heap.size 3 1 encI v6 (renP m (x.n.par.take (n + 1))) by
          rw [HRS.out];simp only [if_true]
          have h3 : Slc.Own (wr.alloc (.cells #[.int .i64 (rp : Nat)] 3)) W4.heap.size 3 1 encI (.slice ra RL rc) (renP m (x.n.par.take n)) := by have := HOWN.out; rwa [<- HRL.out] at this
          exact h3.apd (m := [((rp : Nat) : Int)]) rfl (by simp) HRL.out rfl hapd)
         have HB6 := Bx.mk (show Below W4.heap.size W4 w6 from (hB5.out.trans (HBA.out.mono hB5.out.size)).grown hapd.grown hbz fun q hq => (HOWN.out.lt q (by rw [<- HRL.out]; exact hq)).1);clear hapd hm1 hm2 hbz d0 cm i0;go_wp2_with fail
         go_roundw
         case rel => exact ⟨n + 1, by omega, by go_num, HO6, HB6⟩
         case measure => simp [intOf]; omega
       ·obtain rfl : n = PN := by omega
        have hRV : x.n.par.take n = x.n.par := (by rw [HPN.out, List.take_length]);have hgoz := HS4.out.go.below hB5.out;have hbz := HB4.out.trans (hB5.out.mono HB4.out.size);have hq2 : q < (g2[k + 1]'HK2.out).vs.length := (by rw [HX2.out]; exact HQL.out);have hgx : (g2[k + 1]'HK2.out).vs[q]'hq2 = x := (by rw [HXE.out]; congr 1; rw [HX2.out]);have hO6 := hO5.out;rw [hRV, <- show RL = (renP m x.n.par).length by rw [HRL.out, hRV]] at hO6
        have hpar : RqIn wr (fun j => ¬ GB (.slice (some ⟨gb, 0, none⟩) g.length c) g2 j) encI (.slice ra RL rc) (renP m x.n.par) := .inr ⟨hO6.rd, fun r hr hn => by
         have h1 := (hO6.lt r hr).1;have h2 := (HS4.out.go.lt hn).2
         omega⟩
        have hxin : VtIn wr (fun j => ¬ GB (.slice (some ⟨gb, 0, none⟩) g.length c) g2 j) ⟨renV m x.n, x.u, ⟨ra, RL, rc⟩⟩ :=
         ⟨(HNM.out.below hbz).1, hpar, renV_ok HNM.out.2.2 HXM.out (by rw [<- HM.out]; exact hMb)⟩
        obtain ⟨nb', cap', hv', hnl', hfr', hgo', hgr'⟩ := hgoz.setV (k + 1) HK2.out q hq2 2 (by omega) (.slice ra RL rc) ⟨renV m x.n, x.u, ⟨ra, RL, rc⟩⟩ (by rw [hgx]; rfl) hxin;have hv2 : (g2[k + 1]'HK2.out).s.val = .slice (some ⟨nb, 0, none⟩) NX xc := (by rw [HX2.out]; exact HXS.out);rw [hv2] at hv';simp only [Value.slice.injEq, zO, Addr.mk.injEq, and_true] at hv'
        obtain ⟨rfl, -, -⟩ := hv'
        have hset : g2.set (k + 1) ⟨(g2[k + 1]'HK2.out).vs.set q ⟨renV m x.n, x.u, ⟨ra, RL, rc⟩⟩, (g2[k + 1]'HK2.out).s⟩ = g1.set (k + 1) ⟨vs2.set q ⟨renV m x.n, x.u, ⟨ra, RL, rc⟩⟩, X.s⟩ := by
         rw [HX2.out, HG2.out, List.set_set]
        rw [hset] at hgo';obtain ⟨gb5, he5, x9, -⟩ := hgoz.cellL (k + 1) HK2.out;simp only [zO, Addr.mk.injEq, and_true] at he5
        subst he5;rw [hv2] at x9;have hnbG : GB (.slice (some ⟨gb, 0, none⟩) g.length c) g nb := .inr ⟨X, by rw [HXG.out]; exact zM _, by rw [HXS.out]; rfl⟩;have hnbp : pb ≠ nb := by have := (HG.out.lt hnbG).2; have := HP.out; omega
        have c2 : wr.cell? ⟨nb, q * 3 + 2, none⟩ = some (x.q.val) := by
         have h1 := hgoz.lv _ (zM HK2.out);rw [hv2] at h1;have := h1.cell encV_ok q hq2 2 (by omega) x.q.val (by rw [hgx]; rfl);exact this
        have z2 := hfr' (q * 3 + 2);obtain ⟨W8, hW8⟩ : ∃ W8, W8 = wr.setCell ⟨nb, q * 3 + 2, none⟩ (.slice ra RL rc) := ⟨_, rfl⟩
        have HW8 := Bx.mk hW8
        have HI8 := Bx.mk (show MI W8 pb (plJ m M M) by
         rw [hW8]
         exact MI.other ((hB5.out.block pb (lt_of_some HI4.out)).trans HI4.out) hnbp _)
        rw [<- hW8] at hgo' hgr'
        have HS8 := Bx.mk (show GStep w B (.slice (some ⟨gb, 0, none⟩) g.length c) g W8 (g1.set (k + 1) ⟨vs2.set q ⟨renV m x.n, x.u, ⟨ra, RL, rc⟩⟩, X.s⟩) from
         ⟨hgo', (HS4.out.below hB5.out).fr.trans (Fr.of_grown (S := GB (.slice (some ⟨gb, 0, none⟩) g.length c) g) hgr' fun r hr => by
           simp only [zO] at hr; subst hr; exact hnbG) (fun _ _ h => h), fun r hr => by
          rw [<- hset] at hr
          exact HS4.out.nb r ((GB.same HK2.out _).1 hr)⟩)
        have HV8 := Bx.mk (show ∀ r, r < NX -> (r < q + 1 -> ((vs2.set q ⟨renV m x.n, x.u, ⟨ra, RL, rc⟩⟩)[r]!).n = renV m (X.vs[r]!).n) /\ (q + 1 <= r -> (vs2.set q ⟨renV m x.n, x.u, ⟨ra, RL, rc⟩⟩)[r]! = X.vs[r]!) from fun r hr => by
         have hr2 : r < vs2.length := (by rw [hvl.out]; exact hr);have h0 := hvs.out r hr;rw [getElem!_pos vs2 r hr2] at h0;rw [getElem!_pos (vs2.set q _) r (by simpa using hr2), List.getElem_set];by_cases e : q = r
         ·subst e;rw [if_pos rfl];refine ⟨fun _ => ?_, fun h => by omega⟩;rw [<- h0.2 (zR _)]
          show renV m x.n = renV m (vs2[q]).n
          rw [HXE.out]
         ·rw [if_neg e]
          exact ⟨fun h => h0.1 (by omega), fun h => h0.2 (by omega)⟩)
        have HVL8 := Bx.mk (show (vs2.set q ⟨renV m x.n, x.u, ⟨ra, RL, rc⟩⟩).length = NX by rw [zL]; exact hvl.out)
        have HFX8 := Bx.mk (show FX W8 w.heap.size (vs2.set q ⟨renV m x.n, x.u, ⟨ra, RL, rc⟩⟩) X.vs (q + 1) by
         rw [hW8];refine FX.setCell ?_ ((HG.out.lt hnbG).2) _ _
         refine FX.set (C := W4.heap.size) (HFX4.out.below hB5.out) HQL.out HXU.out hO6 (by have := HS4.out.fr.size; omega) HFXC.out)
        have w1k : IntKind.i64.wrap ((k : Int) + 1) = ((k + 1 : Nat) : Int) := (by rw [IntWalk.i64_in _ (by omega)]; omega);clear hW8 hgo' hgr' hset hv2 hfr' hnbp hnbG hO6 hpar hxin hgoz hbz hgx hRV hnl';simp only [Sl.val] at c2
        go_wp2_with fail
        rw [<- HW8.out];go_roundw
        case rel => exact ⟨q + 1, _, by omega, by go_num, HVL8, HV8, HFX8, HS8, HI8⟩
        case measure => simp [intOf]; omega
     ·obtain rfl : q = NX := by omega
      have HFE := Bx.mk (show gxs g2 = filtG (gxs g) k m by
       rw [HG2.out];unfold filtG;rw [gxs_len, <- HN.out, if_pos hk1N, <- HG1.out];have e1 : gxs (g1.set (k + 1) ⟨vs2, X.s⟩) = (gxs g1).set (k + 1) (vxs vs2) := List.map_set;rw [e1, gxs_at' g (k + 1) HK1.out, <- HXG.out];congr 1
       apply List.ext_getElem
       ·simp [vxs, hvl.out, HNX.out]
       ·intro r h1 h2;have hr1 : r < vs2.length := (by simpa [vxs] using h1);have hr2 : r < X.vs.length := (by rw [<- HNX.out, <- hvl.out]; exact hr1);have := (hvs.out r (by rw [<- hvl.out]; exact hr1)).1 (by rw [<- hvl.out]; exact hr1);rw [getElem!_pos vs2 r hr1, getElem!_pos X.vs r hr2] at this;simp only [vxs, List.getElem_map]
        exact this)
      have HFR := Bx.mk (show FiltR w wr g g2 k m by
       have hl2 : g2.length = g.length := (by rw [HG2.out, zL, HG1L.out]);refine ⟨hl2, fun i h1 h2 h3 h4 => ?_, fun h1 h2 => ?_, fun h1 h2 => ?_⟩
       ·simp only [HG2.out, HG1D.out]
        rw [List.getElem_set, if_neg (fun e => h4 e.symm), List.getElem_set, if_neg (fun e => h3 e.symm)]
       ·simp only [HG2.out, HG1D.out]
        rw [List.getElem_set, if_neg (by omega), List.getElem_set_self, <- HL.out, <- HNV.out]
       ·have e : g2[k + 1]'h2 = ⟨vs2, X.s⟩ := HX2.out;rw [e, <- HXG.out, <- HNX.out]
        exact ⟨hvl.out, hFX.out⟩)
      go_wp2_with fail
      go_end0
      rw [HN.out];exact ⟨⟨_, rfl⟩, _, hS.out, HFE.out, HFR.out⟩
theorem filter_any (w : World) (B : Nat) (v : Value) (g : List Lv) (h : GO w B v g) (hn : g.length <= 100000) (hln : ∀ L ∈ g, L.vs.length <= 100000) (k : Nat) (hk : k < g.length) (mv : Value) (m : List Bool) (hm : RdIn w (fun j => ¬ GB v g j) encM mv m) (hml : m.length = (g[k]).vs.length)
  (hpar : ∀ (h1 : k + 1 < g.length), ∀ x ∈ (g[k + 1]).vs, ∀ p ∈ x.n.par, 0 <= p /\ p < (m.length : Int)) :
  Calls Tryz.prog 96 #[v, .int .i64 k, mv] w fun e w' => (∃ u, e = .returned u) /\ ∃ g', GStep w B v g w' g' /\ gxs g' = filtG (gxs g) k m :=
 (filter_r w B v g h hn hln k hk mv m hm hml hpar).mono fun e w' ⟨h1, g', h2, h3, _⟩ => ⟨h1, g', h2, h3⟩
end Go.Proofs.YtmagjdocondmhaaGreat.Tr.Gr
namespace Go.Proofs.YtmagjdocondmhaaGreat.Tr.Gr
open Go Go.RowKit Slc St Mp Tr
attribute [local go_sem] Oper.semAt_some
theorem cloneI_any (w : World) (v : Value) (l : List Int) (h : Ri w v l) (hl : l.length <= 1000000) :
  Calls Tryz.prog 101 #[v] w fun e w' => ∃ u, e = .returned u /\ Slc.Own w' w.heap.size 3 1 encI u l /\ Below w.heap.size w w' := by
 obtain ⟨i0, hi, hz0, hz1, hz2⟩ := info_parts info_int;obtain ⟨ad, c, rfl, -⟩ := RqIn.form h
 cases ad with
 | none =>
  have hl0 : l = [] := by
   rcases h with ⟨h, -⟩ | h
   ·exact h
   ·rcases h.1 with ⟨-, h⟩ | ⟨b, o, c', h, -⟩
    ·exact h
    ·cases h
  subst hl0;have hq := fun W : World => Lib.run_eql_slice_nil (P := Tryz.prog) W 22 _ none 0 c 0 0 und_ints
  go_enter Tryz.func101, Tryz.ntmps101;go_wp2
  go_ret
  exact ⟨_, rfl, Slc.Own.nil _ _, Below.refl _ _⟩
 | some a =>
  have hsrc : SrcV w 1 (.slice (some a) l.length c) l.length (l.flatMap encI) := by
   rcases h with ⟨rfl, -⟩ | h
   ·exact .ro a 0 c [] rfl (fun j u hj => by simp at hj) (fun u hu => by cases hu)
   ·exact h.1.src encI_ok
  have hs1 := hsrc.below ((Below.refl w.heap.size w).alloc (zR _) (.cells #[] 3));have HS := Bx.mk hs1;have hn := heap_alloc_new w (.cells #[] 3);have HN := Bx.mk hn;have hq := fun W : World => Lib.run_eql_slice_nil (P := Tryz.prog) W 22 _ (some a) l.length c 0 0 und_ints
  clear hs1 hsrc hn h;go_enter Tryz.func101, Tryz.ntmps101;have hs2 := HS.out;have hn2 := HN.out;go_wp2_with (at_builtin; refine wpList_append_fresh rfl _ _ _ rfl w.heap.size 3 i0 _ 1 8 und_ints hi hz0 hz1 hz2 rfl (by decide) w.heap.size rfl hn2 (zR _) (by simp) _ l.length (l.flatMap encI) rfl hs2 ?ap1 ?ap2 ?_)
  case ap1 => unfold maxLen; omega
  case ap2 => omega
  intro v' w4 hown hb _;have HO := Bx.mk (show Slc.Own w4 w.heap.size 3 1 encI v' l from hown);have HB := Bx.mk (((Below.refl w.heap.size w).alloc (zR _) (.cells #[] 3)).trans (hb.mono (by simp)));clear hown hb hs2 hn2 hq;go_wp2
  go_ret;exact ⟨_, rfl, HO.out, HB.out⟩
theorem cloneV_any (w : World) (v : Value) (l : List Vt) (h : VL w v l) (hl : l.length <= 1000000) :
  Calls Tryz.prog 99 #[v] w fun e w' => ∃ u, e = .returned u /\ Slc.Own w' w.heap.size 65 3 encV u l /\ Below w.heap.size w w' := by
 obtain ⟨i0, hi, hz0, hz1, hz2⟩ := info_parts info_ver;have hsrc := h.rd.src encV_ok;obtain ⟨hrd, -⟩ := h;rcases hrd with ⟨rfl, rfl⟩ | ⟨b, o, c, rfl, hlt, hc, hcell⟩
 ·have hq := fun W : World => Lib.run_eql_slice_nil (P := Tryz.prog) W 61 _ none 0 0 0 0 und_vers
  go_enter Tryz.func99, Tryz.ntmps99;go_wp2
  go_ret;exact ⟨_, rfl, Slc.Own.nil _ _, Below.refl _ _⟩
 ·clear hcell;have hs1 := hsrc.below ((Below.refl w.heap.size w).alloc (zR _) (.cells #[] 65));have HS := Bx.mk hs1;have hn := heap_alloc_new w (.cells #[] 65);have HN := Bx.mk hn;have hq := fun W : World => Lib.run_eql_slice_nil (P := Tryz.prog) W 61 _ (some ⟨b, o, none⟩) l.length c 0 0 und_vers
  clear hs1 hsrc hn;go_enter Tryz.func99, Tryz.ntmps99;have hs2 := HS.out;have hn2 := HN.out;go_wp2_with (at_builtin; refine wpList_append_fresh rfl _ _ _ rfl w.heap.size 65 i0 _ 3 64 und_vers hi hz0 hz1 hz2 rfl (by decide) w.heap.size rfl hn2 (zR _) (by simp) _ l.length (l.flatMap encV) rfl hs2 ?ap1 ?ap2 ?_)
  case ap1 => unfold maxLen; omega
  case ap2 => omega
  intro v' w4 hown hb _;have HO := Bx.mk (show Slc.Own w4 w.heap.size 65 3 encV v' l from hown);have HB := Bx.mk (((Below.refl w.heap.size w).alloc (zR _) (.cells #[] 65)).trans (hb.mono (by simp)));clear hown hb hs2 hn2 hq;go_wp2
  go_ret;exact ⟨_, rfl, HO.out, HB.out⟩
end Go.Proofs.YtmagjdocondmhaaGreat.Tr.Gr
namespace Go.Proofs.YtmagjdocondmhaaGreat.Tr.Gr
open Go Go.RowKit Slc St Mp Tr Rg
attribute [local go_sem] Oper.semAt_some
structure PD (w : World) (B : Nat) (D : List Vt) : Prop where
 own : ∀ x ∈ D, Slc.Own w B 3 1 encI x.q.val x.n.par
 ap : D.Pairwise fun x y => ∀ k, x.q.val.ownBlock = some k -> y.q.val.ownBlock ≠ some k
 ex : ∀ x ∈ D, ∀ y ∈ D, ∀ k, x.q.val.ownBlock = some k -> y.u.val.ownBlock ≠ some k
 ul : ∀ x ∈ D, ∀ k, x.u.val.ownBlock = some k -> k < w.heap.size
theorem PD.nil (w : World) (B : Nat) : PD w B [] := ⟨(fun x hx => by cases hx), List.Pairwise.nil, (fun x hx => by cases hx), (fun x hx => by cases hx)⟩
theorem PD.keep {w w' : World} {B : Nat} {D : List Vt} (h : PD w B D) (hs : w.heap.size <= w'.heap.size) (hb : ∀ x ∈ D, ∀ k, x.q.val.ownBlock = some k -> k < w.heap.size -> w'.heap[k]? = w.heap[k]?) : PD w' B D :=
 ⟨fun x hx => (h.own x hx).keep fun k hk hkl => hb x hx k hk hkl, h.ap, h.ex, fun x hx k hk => Nat.lt_of_lt_of_le (h.ul x hx k hk) hs⟩
theorem PD.below {w w' : World} {B : Nat} {D : List Vt} (h : PD w B D) (hb : Below w.heap.size w w') : PD w' B D := h.keep hb.size fun x _ k _ hk => hb.block k hk
theorem own_type {α β : Type} {w : World} {B1 B2 z1 z2 : Nat} {t1 t2 : TypeId} {e1 : α -> List Value} {e2 : β -> List Value} {v1 v2 : Value} {l1 : List α} {l2 : List β} (h1 : Slc.Own w B1 t1 z1 e1 v1 l1) (h2 : Slc.Own w B2 t2 z2 e2 v2 l2) (ht : t1 ≠ t2) (k : Nat) (hk : v1.ownBlock = some k) : v2.ownBlock ≠ some k := by
 intro hk2;rcases h1.2 with ⟨rfl, -⟩ | ⟨g, cap, cur, rfl, -, hg, -⟩
 ·cases hk
 ·rcases h2.2 with ⟨rfl, -⟩ | ⟨g', cap', cur', rfl, -, hg', -⟩
  ·cases hk2
  ·simp only [Value.ownBlock, zO] at hk hk2
   subst hk; subst hk2
   rw [hg] at hg';simp only [zO, Obj.cells.injEq] at hg'
   exact ht hg'.2.1
theorem PD.snoc {w : World} {B C : Nat} {D : List Vt} {x : Vt} (h : PD w B D) (hBC : B <= C) (hD : ∀ y ∈ D, (∀ k, y.q.val.ownBlock = some k -> k < C) /\ ∀ k, y.u.val.ownBlock = some k -> k < C) (hq : Slc.Own w C 3 1 encI x.q.val x.n.par) (hu : Slc.Own w C 9 1 encS x.u.val x.n.ex) : PD w B (D ++ [x]) := by
 refine ⟨fun y hy => ?_, List.pairwise_append.2 ⟨h.ap, List.pairwise_singleton _ _, fun a ha b hb k hk hk' => ?_⟩, fun a ha b hb k hk hk' => ?_, fun y hy => ?_⟩
 ·rcases List.mem_append.1 hy with q | q
  ·exact h.own y q
  ·rw [zS] at q; subst q; exact hq.mono hBC
 ·rw [zS] at hb; subst hb
  have := (hD a ha).1 k hk;have := (hq.lt k hk').1;omega
 ·rcases List.mem_append.1 ha with q | q <;> rcases List.mem_append.1 hb with r | r
  ·exact h.ex a q b r k hk hk'
  ·rw [zS] at r; subst r
   have := (hD a q).1 k hk;have := (hu.lt k hk').1;omega
  ·rw [zS] at q; subst q
   have := (hq.lt k hk).1;have := (hD b r).2 k hk';omega
  ·rw [zS] at q r; subst q; subst r; exact own_type hq hu (by decide) k hk hk'
 ·rcases List.mem_append.1 hy with q | q
  ·exact h.ul y q
  ·rw [zS] at q; subst q; exact fun k hk => (hu.lt k hk).2
def CpF (W : World) (gb nb q7 : Nat) (N c i k NV cap : Nat) (x : Vt) : Nat -> Value -> World -> Prop
 | 0, v, _ => v = .slice (some ⟨gb, 0, none⟩) N c
 | 1, v, _ => v = .int .i64 (i : Nat)
 | 2, v, _ => v = .pointer (some ⟨gb, i, none⟩)
 | 3, v, _ => v = .pointer (some ⟨gb, i, none⟩)
 | 4, v, _ => v = .slice (some ⟨nb, 0, none⟩) NV cap
 | 5, v, _ => v = .int .i64 (k : Nat)
 | 6, v, _ => v = .slice (some ⟨gb, 0, none⟩) N c
 | 7, v, _ => v = .int .i64 (i : Nat)
 | 8, v, _ => v = .pointer (some ⟨gb, i, none⟩)
 | 9, v, _ => v = .pointer (some ⟨gb, i, none⟩)
 | 10, v, _ => v = .slice (some ⟨nb, 0, none⟩) NV cap
 | 11, v, _ => v = .int .i64 (k : Nat)
 | 12, v, _ => v = .pointer (some ⟨q7, 1, none⟩)
 | 13, v, _ => v = .slice x.u.ad x.u.n x.u.c
 | 14, v, w => Slc.Own w W.heap.size 9 1 encS v x.n.ex
 | 15, v, _ => v = .pointer (some ⟨q7, 2, none⟩)
 | 16, v, _ => v = .slice x.q.ad x.q.n x.q.c
 | 17, v, w => Slc.Own w W.heap.size 3 1 encI v x.n.par
 | 18, v, _ => v = .pointer (some ⟨nb, k * 3, none⟩)
 | 19, v, _ => v = .pointer (some ⟨nb, k * 3 + 1, none⟩)
 | 21, v, _ => v = .pointer (some ⟨nb, k * 3, none⟩)
 | 22, v, _ => v = .pointer (some ⟨nb, k * 3 + 2, none⟩)
 | _, _, _ => True
theorem CpF.keep (W : World) (gb nb q7 : Nat) (N c i k NV cap : Nat) (x : Vt) (j : Nat) (v : Value) (w w' : World) (h : CpF W gb nb q7 N c i k NV cap x j v w) (hk : ∀ q, W.heap.size <= q -> q < w.heap.size -> w'.heap[q]? = w.heap[q]?) : CpF W gb nb q7 N c i k NV cap x j v w' := by
 match j with
 | 0 | 1 | 2 | 3 | 4 | 5 | 6 | 7 | 8 | 9 | 10 | 11 | 12 | 13 | 15 | 16 | 18 | 19 | 21 | 22 => exact h
 | 14 => exact Slc.Own.keep (t := 9) h fun q hq hl => hk q (Slc.Own.lt (t := 9) h q hq).1 hl
 | 17 => exact Slc.Own.keep (t := 3) h fun q hq hl => hk q (Slc.Own.lt (t := 3) h q hq).1 hl
 | 20 => exact trivial
 | 23 => exact trivial
 | _ + 24 => exact trivial
structure CpC (W : World) (B : Nat) (v : Value) (g : List Lv) (i k nb : Nat) (vs : List Vt) (s : Sl) (x : Vt) (d : Nat -> Bool) (w' : World) : Prop where
 gr : W.grownBy w' (some nb)
 st : ∃ y : Vt, y.n = x.n /\ GO w' B v (g.set i ⟨vs.set k y, s⟩) /\ (d 20 = false -> y.u = x.u) /\ (d 20 = true -> Slc.Own w' W.heap.size 9 1 encS y.u.val x.n.ex) /\ (d 23 = false -> y.q = x.q) /\ (d 23 = true -> Slc.Own w' W.heap.size 3 1 encI y.q.val x.n.par)
def CpG (W : World) (nb k : Nat) (x : Vt) (i : Nat) (w1 w2 : World) : Prop :=
 if i = 20 then ∃ u : Sl, Slc.Own w1 W.heap.size 9 1 encS u.val x.n.ex /\ w2 = w1.setCell ⟨nb, k * 3 + 1, none⟩ u.val
 else ∃ u : Sl, Slc.Own w1 W.heap.size 3 1 encI u.val x.n.par /\ w2 = w1.setCell ⟨nb, k * 3 + 2, none⟩ u.val
theorem CpC.bel {W : World} {B : Nat} {v : Value} {g : List Lv} {i k nb : Nat} {vs : List Vt} {s : Sl} {x : Vt} {d : Nat -> Bool} {w w' : World} {j : Nat} (h : CpC W B v g i k nb vs s x d w) (hi : (j == 20 || j == 23) = false) (hb : Below w.heap.size w w') : CpC W B v g i k nb vs s x (mark d j) w' := by
 simp only [Bool.or_eq_false_iff, beq_eq_false_iff_ne, ne_eq] at hi
 obtain ⟨y, h1, h2, h3, h4, h5, h6⟩ := h.st;have e1 : mark d j 20 = d 20 := by unfold mark; rw [if_neg fun e => hi.1 e.symm]
 have e2 : mark d j 23 = d 23 := by unfold mark; rw [if_neg fun e => hi.2 e.symm]
 exact ⟨grown_bel h.gr hb, y, h1, h2.below hb, by rw [e1]; exact h3, by rw [e1]; exact fun e => (h4 e).below hb, by rw [e2]; exact h5, by rw [e2]; exact fun e => (h6 e).below hb⟩
theorem own_setCell {α : Type} {w : World} {Bk z : Nat} {t : TypeId} {enc : α -> List Value} {v : Value} {l : List α} (h : Slc.Own w Bk t z enc v l) {nb : Nat} (hnb : nb < Bk) (o : Nat) (u : Value) : Slc.Own (w.setCell ⟨nb, o, none⟩ u) Bk t z enc v l :=
 h.keep fun k hk _ => heap_setCell_other _ _ _ _ (by have := (h.lt k hk).1; show k ≠ nb; omega)
theorem CpC.big {W : World} {B : Nat} {v : Value} {g : List Lv} {i k nb NV cap : Nat} {vs : List Vt} {s : Sl} {x : Vt} {d : Nat -> Bool} {w w' : World} {j : Nat} (hi : i < g.length) (hk : k < vs.length) (hs : s.val = .slice (some ⟨nb, 0, none⟩) NV cap) (hnb : nb < W.heap.size) (hB : ∀ q, GB v g q -> q < W.heap.size) (hsg : (g[i]).s = s) (hok : Vx.Ok x.n)
  (h : CpC W B v g i k nb vs s x d w) (hj : (j == 20 || j == 23) = true) (hg : CpG W nb k x j w w') : CpC W B v g i k nb vs s x (mark d j) w' := by
 obtain ⟨y, h1, h2, h3, h4, h5, h6⟩ := h.st;have hi' : i < (g.set i ⟨vs.set k y, s⟩).length := by simpa using hi
 have hge : (g.set i ⟨vs.set k y, s⟩)[i]'hi' = ⟨vs.set k y, s⟩ := by simp
 have hj' : k < ((g.set i ⟨vs.set k y, s⟩)[i]'hi').vs.length := by rw [hge]; simpa using hk
 have hvy : ((g.set i ⟨vs.set k y, s⟩)[i]'hi').vs[k]'hj' = y := by simp only [hge]; simp
 have hGB : ∀ q, GB v (g.set i ⟨vs.set k y, s⟩) q -> q < W.heap.size := fun q hq => by
  rcases GB.set hq with e | e
  ·exact hB q e
  ·exact hB q (.inr ⟨g[i], zM hi, by rw [hsg]; exact e⟩)
 have hny := h2.nm _ (zM hi') y (by rw [hge]; exact List.mem_iff_getElem.2 ⟨k, by simpa using hk, by simp⟩)
 have hnew : ∀ {α : Type} {t : TypeId} {z : Nat} {enc : α -> List Value} {u : Value} {l : List α}, Slc.Own w W.heap.size t z enc u l -> RdIn w (fun q => ¬ GB v (g.set i ⟨vs.set k y, s⟩) q) enc u l := fun {α t z enc u l} ho => ⟨ho.rd, fun q hq hn => by
  have a1 := (ho.lt q hq).1;have a2 := hGB q hn
  omega⟩
 have hset : ∀ y' : Vt, (g.set i ⟨vs.set k y, s⟩).set i ⟨((g.set i ⟨vs.set k y, s⟩)[i]'hi').vs.set k y', ((g.set i ⟨vs.set k y, s⟩)[i]'hi').s⟩ = g.set i ⟨vs.set k y', s⟩ := fun y' => by
  rw [hge, List.set_set, List.set_set]
 unfold CpG at hg;rcases (show j = 20 \/ j = 23 by simpa using hj) with rfl | rfl
 ·rw [if_pos rfl] at hg;obtain ⟨u, hu, rfl⟩ := hg;obtain ⟨nb', cap', hv', hl', hf', hgo, hgr⟩ := h2.setV i hi' k hj' 1 (by omega) u.val ⟨y.n, u, y.q⟩ (by rw [hvy]; rfl) ⟨by rw [h1]; exact hnew hu, hny.2.1, hny.2.2⟩;rw [hge] at hv';simp only at hv'
  rw [hs] at hv';simp only [Value.slice.injEq, zO, Addr.mk.injEq, and_true] at hv'
  obtain ⟨rfl, -, -⟩ := hv';rw [hset] at hgo;refine ⟨grown_set' h.gr _ _, ⟨y.n, u, y.q⟩, h1, hgo, fun e => by simp [mark] at e, fun _ => own_setCell hu hnb _ _, fun e => h5 (by simpa [mark] using e), fun e => own_setCell (h6 (by simpa [mark] using e)) hnb _ _⟩
 ·rw [if_neg (by omega)] at hg;obtain ⟨u, hu, rfl⟩ := hg;obtain ⟨nb', cap', hv', hl', hf', hgo, hgr⟩ := h2.setV i hi' k hj' 2 (by omega) u.val ⟨y.n, y.u, u⟩ (by rw [hvy]; rfl) ⟨hny.1, .inr (by rw [h1]; exact hnew hu), hny.2.2⟩;rw [hge] at hv';simp only at hv'
  rw [hs] at hv';simp only [Value.slice.injEq, zO, Addr.mk.injEq, and_true] at hv'
  obtain ⟨rfl, -, -⟩ := hv';rw [hset] at hgo;refine ⟨grown_set' h.gr _ _, ⟨y.n, y.u, u⟩, h1, hgo, fun e => h3 (by simpa [mark] using e), fun e => own_setCell (h4 (by simpa [mark] using e)) hnb _ _, fun e => by simp [mark] at e, fun _ => own_setCell hu hnb _ _⟩
end Go.Proofs.YtmagjdocondmhaaGreat.Tr.Gr
namespace Go.Proofs.YtmagjdocondmhaaGreat.Tr.Gr
open Go Go.RowKit Slc St Mp Tr
structure PG (g : List (List Vx)) : Prop where
 par : ∀ k, k + 1 < g.length -> ∀ v ∈ g[k + 1]!, ∀ p ∈ v.par, 0 <= p /\ p < ((g[k]!).length : Int)
 len : ∀ l ∈ g, l.length <= 100000
theorem filtG_at {g : List (List Vx)} {k : Nat} {m : List Bool} (hk : k < g.length) (j : Nat) : (filtG g k m)[j]! = if j = k then keepT g[k]! m (g[k]!).length else if j = k + 1 then (g[j]!).map (renV m) else g[j]! := by
 unfold filtG;by_cases hj : j < g.length
 ·split
  ·rename_i h
   rw [getElem!_pos _ j (by simpa using hj), List.getElem_set];by_cases e1 : k + 1 = j
   ·subst e1;rw [if_pos rfl, if_neg (by omega), if_pos rfl]
   ·rw [if_neg e1, List.getElem_set];by_cases e2 : k = j
    ·subst e2; rw [if_pos rfl, if_pos rfl]
    ·rw [if_neg e2, if_neg (fun e => e2 e.symm), if_neg (fun e => e1 e.symm), getElem!_pos g j hj]
  ·rename_i h
   rw [getElem!_pos _ j (by simpa using hj), List.getElem_set];by_cases e2 : k = j
   ·subst e2; rw [if_pos rfl, if_pos rfl]
   ·rw [if_neg e2, if_neg (fun e => e2 e.symm), if_neg (by omega), getElem!_pos g j hj]
 ·have e0 : g[j]! = [] := by rw [getElem!_neg g j hj]; rfl
  have e1 : (if k + 1 < g.length then (g.set k (keepT g[k]! m (g[k]!).length)).set (k + 1) ((g[k + 1]!).map (renV m)) else g.set k (keepT g[k]! m (g[k]!).length))[j]! = [] := by
   rw [getElem!_neg]
   ·rfl
   ·split <;> simpa using hj
  rw [e1, if_neg (by omega), e0];split <;> rfl
theorem keepT_le {α : Type} [Inhabited α] (l : List α) (m : List Bool) : (keepT l m l.length).length <= l.length := by rw [keepT_len]; exact rk_le m _
theorem renP_in {m : List Bool} {ps : List Int} {n : Nat} (h : ∀ p ∈ ps, 0 <= p /\ p < (n : Int)) : ∀ q ∈ renP m ps, 0 <= q /\ q < ((rk m n : Nat) : Int) := by
 intro q hq;unfold renP at hq;obtain ⟨p, hp, rfl⟩ := List.mem_map.1 hq;obtain ⟨h1, h2⟩ := List.mem_filter.1 hp;have h3 := h p h1;have := rk_lt m (i := p.toNat) (j := n) (by omega) h2;omega
theorem PG.filt {g : List (List Vx)} (h : PG g) {k : Nat} (hk : k < g.length) (m : List Bool) : PG (filtG g k m) := by
 constructor
 ·intro j hj v hv p hp;rw [filtG_len] at hj;rw [filtG_at hk (j + 1)] at hv;rw [filtG_at hk j];by_cases e1 : j + 1 = k
  ·rw [if_pos e1] at hv;rw [if_neg (by omega), if_neg (by omega)];have hv' := keepT_mem (zR _) hv;rw [<- e1] at hv';exact h.par j hj v hv' p hp
  ·rw [if_neg e1] at hv;by_cases e2 : j + 1 = k + 1
   ·rw [if_pos e2] at hv;have e3 : j = k := (by omega);subst e3;rw [if_pos rfl, keepT_len];obtain ⟨u, hu, rfl⟩ := List.mem_map.1 hv;exact renP_in (h.par j hj u hu) p hp
   ·rw [if_neg e2] at hv;rw [if_neg (by omega)];have := h.par j hj v hv p hp;by_cases e4 : j = k + 1
    ·rw [if_pos e4, List.length_map]; exact this
    ·rw [if_neg e4]; exact this
 ·intro l hl;obtain ⟨j, hj, rfl⟩ := List.getElem_of_mem hl;rw [filtG_len] at hj;have e : (filtG g k m)[j]'(by rw [filtG_len]; exact hj) = (filtG g k m)[j]! := (getElem!_pos _ _ _).symm;rw [e, filtG_at hk j];have hgl : ∀ i, i < g.length -> (g[i]!).length <= 100000 := fun i hi => by rw [getElem!_pos g i hi]; exact h.len _ (zM hi)
  split
  ·exact Nat.le_trans (keepT_le _ _) (hgl k hk)
  ·split
   ·rw [List.length_map]; exact hgl j hj
   ·exact hgl j hj
def marksA (l : List Vx) : List Bool := l.map fun v => decide (0 < v.par.length)
def marksB (n : Nat) (bl : List Vx) : List Bool := (List.range n).map fun (j : Nat) => bl.any fun v => decide ((j : Int) ∈ v.par)
def fwdG (g : List (List Vx)) : Nat -> List (List Vx)
 | 0 => g
 | n + 1 => filtG (fwdG g n) (n + 1) (marksA (fwdG g n)[n + 1]!)
def bwdG (g : List (List Vx)) : Nat -> List (List Vx)
 | 0 => g
 | n + 1 => filtG (bwdG g n) (g.length - 2 - n) (marksB ((bwdG g n)[g.length - 2 - n]!).length (bwdG g n)[g.length - 2 - n + 1]!)
def pruneG (g : List (List Vx)) : List (List Vx) :=
 let h := bwdG (fwdG g (g.length - 1)) (g.length - 1)
 if h.any (fun l => decide (l.length = 0)) then [] else h
theorem fwdG_len (g : List (List Vx)) : ∀ n, (fwdG g n).length = g.length
 | 0 => rfl
 | n + 1 => by rw [fwdG, filtG_len, fwdG_len g n]
theorem bwdG_len (g : List (List Vx)) : ∀ n, (bwdG g n).length = g.length
 | 0 => rfl
 | n + 1 => by rw [bwdG, filtG_len, bwdG_len g n]
theorem fwdG_pg {g : List (List Vx)} (h : PG g) : ∀ n, n < g.length \/ n = 0 -> PG (fwdG g n)
 | 0, _ => h
 | n + 1, hn => by
  rw [fwdG];exact (fwdG_pg h n (by omega)).filt (by rw [fwdG_len]; omega) _
theorem bwdG_pg {g : List (List Vx)} (h : PG g) : ∀ n, n < g.length \/ n = 0 -> PG (bwdG g n)
 | 0, _ => h
 | n + 1, hn => by
  rw [bwdG];exact (bwdG_pg h n (by omega)).filt (by rw [bwdG_len]; omega) _
end Go.Proofs.YtmagjdocondmhaaGreat.Tr.Gr
