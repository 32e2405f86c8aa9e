/- packed -/
import Derived.Test.YtmagjdocondmhaaGreatPkAn10
set_option linter.unusedVariables false
set_option linter.unusedSimpArgs false
set_option maxRecDepth 100000
set_option maxHeartbeats 64000000
namespace Go.Proofs.YtmagjdocondmhaaGreat.Tr.Gr
open Go Go.RowKit Slc St Mp Tr Rg
attribute [local go_sem] Oper.semAt_some
theorem TabP.fr {w w' : World} {S : Nat -> Prop} {ms : List (B × B)} {bm : Nat} {f : B -> Option Sg} (h : TabP w ms bm f) (hf : Fr S w w') (hb : ¬ S bm) (hs : ∀ p s, f p = some s -> ∀ b, s.val.ownBlock = some b -> ¬ S b) : TabP w' ms bm f := by
 refine ⟨h.has_, fun p s hp => ?_, ?_⟩
 ·have h1 := h.rd p s hp;have h2 : RdIn w (fun b => s.val.ownBlock = some b) encS s.val (subL ms p) := ⟨h1.1, fun k hk => hk⟩;have h3 := h2.keep hf.size fun k hk hlt => hf.block k hlt (hs p s hp k hk)
  exact ⟨h3.1, fun k hk => h1.2 k hk⟩
 ·obtain ⟨q, h1, h2⟩ := h.mp;exact ⟨q, h1, h2.block (hf.block bm h2.lt hb)⟩
structure MpS (W : World) (Bk : Nat) (v : Value) (g : List Lv) (ms : List (B × B)) (bm qd : Nat) (f : B -> Option Sg) : Prop where
 go : GO W Bk v g
 tab : TabP W ms bm f
 sub : ∀ p s, f p = some s -> ∀ b, s.val.ownBlock = some b -> bm < b
 cell : W.heap[qd]? = some (.cells #[.map (some bm)] 86 (0, 0))
 new : ∀ j, GB v g j -> j < bm
 qn : bm < qd
theorem MpS.at_ {W w : World} {Bk : Nat} {v : Value} {g g2 : List Lv} {ms : List (B × B)} {bm qd : Nat} {f : B -> Option Sg} (h : MpS W Bk v g ms bm qd f) (hs : GStep W Bk v g w g2) :
  TabP w ms bm f /\ w.heap[qd]? = some (.cells #[.map (some bm)] 86 (0, 0)) /\ (∀ p s, f p = some s -> ∀ b, s.val.ownBlock = some b -> ¬ GB v g2 b) /\ ¬ GB v g2 bm /\ ¬ GB v g2 qd := by
 have hq := lt_of_some h.cell;have hqn := h.qn
 have hnew : ∀ j, bm <= j -> j < W.heap.size -> ¬ GB v g2 j := fun j h1 h2 hn => by
  rcases hs.nb j hn with q | q
  ·have := h.new j q; omega
  ·omega
 have hsub : ∀ p s, f p = some s -> ∀ b, s.val.ownBlock = some b -> bm < b /\ b < W.heap.size := fun p s hp b hb => ⟨h.sub p s hp b hb, (h.tab.rd p s hp).1.lt b hb⟩
 have hnG : ∀ j, bm <= j -> ¬ GB v g j := fun j h1 hn => by have := h.new j hn; omega
 refine ⟨TabP.fr h.tab hs.fr (hnG bm (zR _)) fun p s hp b hb => hnG b (by have := (hsub p s hp b hb).1; omega), (hs.fr.block qd hq (hnG qd (by omega))).trans h.cell, fun p s hp b hb => hnew b (by have := (hsub p s hp b hb).1; omega) (hsub p s hp b hb).2, hnew bm (zR _) (by omega), hnew qd (by omega) hq⟩
theorem MpS.look {W w : World} {Bk : Nat} {v : Value} {g g2 : List Lv} {ms : List (B × B)} {bm qd : Nat} {f : B -> Option Sg} (h : MpS W Bk v g ms bm qd f) (hs : GStep W Bk v g w g2) (p : B) (hp : p.length <= 1000000) :
  ∃ va n vc, (p ∈ srcL ms -> RdIn w (fun b => ¬ GB v g2 b) encS (.slice va n vc) (subL ms p)) /\ ∀ w', Below w.heap.size w w' -> (Instr.lookup 86 (.map (some bm)) (.string (bstr p)) false).run Tryz.prog w' = .ok (.slice va n vc) w' := by
 obtain ⟨ht, -, hsb, -, -⟩ := h.at_ hs;obtain ⟨va, n, vc, he, -, -⟩ := ht.look p hp;refine ⟨va, n, vc, fun hm => ?_, fun w' hw => ?_⟩
 ·have h2 := ht.has_ p;rw [zT hm] at h2;obtain ⟨s, hs'⟩ := Option.isSome_iff_exists.1 h2;rw [hs'] at he;have h3 := ht.rd p s hs';rw [<- he];exact ⟨h3.1, fun b hb => hsb p s hs' b hb⟩
 ·obtain ⟨va', n', vc', he', -, hl⟩ := (ht.below hw).look p hp;rw [he] at he';rw [he']; exact hl
theorem ginsert_n (w : World) (Bk gb c N : Nat) (g : List Lv) (hN : g.length = N) (h : GO w Bk (.slice (some ⟨gb, 0, none⟩) N c) g) (k : Nat) (hk : k < g.length) (x : Vt) (hx : VtIn w (fun j => ¬ GB (.slice (some ⟨gb, 0, none⟩) N c) g j) x) (hn : (g[k]).vs.length <= 90000) :
  Calls Tryz.prog 65 #[.pointer (some ⟨gb, k, none⟩), verV x] w fun e w' => (∃ u, e = .returned u) /\ ∃ L', GStep w Bk (.slice (some ⟨gb, 0, none⟩) N c) g w' (g.set k L') /\ L'.vs = insT (g[k]).vs x := by
 subst hN;exact ginsert_any w Bk gb c g h k hk x hx hn
theorem MpS.below {W w' : World} {Bk : Nat} {v : Value} {g : List Lv} {ms : List (B × B)} {bm qd : Nat} {f : B -> Option Sg} (h : MpS W Bk v g ms bm qd f) (hb : Below W.heap.size W w') : MpS w' Bk v g ms bm qd f :=
 ⟨h.go.below hb, TabP.below h.tab hb, h.sub, (hb.block qd (lt_of_some h.cell)).trans h.cell, h.new, h.qn⟩
theorem gmap_any (w : World) (v lv : Value) (g : List Lv) (ms : List (B × B)) (h : GQ w v g) (hm : Rd w encP lv ms) (hn : g.length <= 90000) (hln : ∀ L ∈ g, L.vs.length <= 40000) (hml : ms.length <= 40000) (hmx : ∀ m ∈ ms, m.1.length <= 1000000 /\ m.2.length <= 1000000) (ok : Bool) :
  Calls Tryz.prog 26 #[v, lv, .bool ok] w fun e w' => GrP w (gmapP (gxs g) ms ok) e w' := by
 have mixed : Tryz.prog.follows .mixedOrders = true := by kernel_rfl
 have hval := gvalid_q w v g h (by omega) (fun L hL => by have := hln L hL; omega);obtain ⟨R, hR⟩ : ∃ R, R = gmapP (gxs g) ms ok := ⟨_, rfl⟩
 rw [<- hR];unfold gmapP at hR;obtain ⟨ad, c, rfl, -⟩ := h.rd.form;obtain ⟨ma, mc, rfl, -⟩ := hm.form;have HQ := Bx.mk h;have HM := Bx.mk hm;have HLN := Bx.mk hln;have HMX := Bx.mk hmx;obtain ⟨N, hN⟩ : ∃ N, N = g.length := ⟨_, rfl⟩
 have HN := Bx.mk hN;obtain ⟨MN, hMN⟩ : ∃ N, N = ms.length := ⟨_, rfl⟩
 have HMN := Bx.mk hMN;obtain ⟨V, hV⟩ : ∃ V, V = gvalidB (gxs g) := ⟨_, rfl⟩
 rw [<- hV] at hval hR;have HV := Bx.mk hV;rw [gxs_len, <- hN] at hR;have HRR := Bx.mk hR;rw [<- hN] at hn hval |-;rw [<- hMN] at hml |-;clear h hm hln hmx hN hMN hV hR;unfold GrP;go_enter Tryz.func26, Tryz.ntmps26;go_wp2_with fail
 go_at_call 15;refine hval.mono ?_;rintro e w1 ⟨rfl, hb1⟩;clear hval
 cases V with
 | false =>
  have HF := Bx.mk (show R = ([], 7) by rw [HRR.out]; rfl);go_wp2_with fail
  go_ret2
  exact ⟨_, [], by rw [HF.out]; rfl, GO.nil _ _, by rw [HF.out]; rfl, hb1⟩
 | true =>
 rw [Bool.true_and] at HRR;by_cases hN1 : N = 1
 ·have HF := Bx.mk (show R = ([], 7) by rw [HRR.out, zT hN1]; rfl);subst hN1;go_wp2_with fail
  go_ret2;exact ⟨_, [], by rw [HF.out]; rfl, GO.nil _ _, by rw [HF.out]; rfl, hb1⟩
 have t5 : ((N : Int) == 1) = false := by simp; omega
 rw [zF hN1] at HRR;rcases Nat.eq_zero_or_pos N with e | hN0
 ·have HF := Bx.mk (show R = ([], 0) by rw [HRR.out]; simp [e]);subst e;go_wp2_with fail
  go_ret2;exact ⟨_, [], by rw [HF.out]; rfl, GO.nil _ _, by rw [HF.out]; rfl, hb1⟩
 have t6 : ((N : Int) == 0) = false := by simp; omega
 have HGL := Bx.mk (HQ.out.gl HV.out.symm (fun L hL => by have := HLN.out L hL; omega));have hN2 : 2 <= N := by omega
 have HRF := Bx.mk (show R = (pruneG ((gxs g).set (N - 1) (gmapL (gxs g) ms ok)), 0) by
  rw [HRR.out];simp only [Bool.not_false, if_true]
  rw [if_neg (by omega)])
 have hcpy := copied_any w1 _ g (HGL.out.below hb1) (by rw [<- HN.out]; omega) (fun L hL => by have := HLN.out L hL; omega);rw [<- HN.out] at hcpy;have HB1 := Bx.mk hb1;clear hb1 hN0 hN1;go_wp2_with fail
 go_at_call 52;refine hcpy.mono ?_;rintro e w3 ⟨v', g', rfl, hgo, hgx, hpd, hb3⟩;clear hcpy hpd
 have hln' : g'.length = N := by
  have := congrArg List.length hgx;rw [gxs_len, gxs_len, <- HN.out] at this; exact this
 obtain ⟨va, vc, rfl, -⟩ := hgo.own.rd.form;rw [hln'] at hgo |-;obtain ⟨n, hn1⟩ : ∃ n, n = N - 1 := ⟨_, rfl⟩
 have HNN := Bx.mk hn1;have hng : n < g'.length := by omega
 have hgo2 := hgo;rw [<- hln'] at hgo2;obtain ⟨gb, rfl, -, -⟩ := hgo2.cellL n hng;have HGX := Bx.mk hgx;have HLN' := Bx.mk hln';have HW3 := Bx.mk (show Below w.heap.size w w3 from HB1.out.trans (hb3.mono HB1.out.size));have htab := gtable_any w3 (.slice ma MN mc) ms (by rw [HMN.out]; exact HM.out.below HW3.out) (by rw [<- HMN.out]; omega) HMX.out;have HGO3 := Bx.mk hgo;have HB31 := Bx.mk (show w.heap.size <= w1.heap.size from HB1.out.size);clear hgo hgo2 hgx hln' hng hb3;go_wp2_with fail
 go_at_call 60;refine htab.mono ?_;rintro e w4 ⟨bm, f, rfl, hbm, htb, hb4, hsub⟩;clear htab;obtain ⟨q9, hq9⟩ : ∃ q, q = w4.heap.size := ⟨_, rfl⟩
 obtain ⟨W5, hW5⟩ : ∃ W5, W5 = w4.alloc (.cells #[.map (some bm)] 86) := ⟨_, rfl⟩
 have hb5 : Below w4.heap.size w4 W5 := by rw [hW5]; exact (Below.refl _ _).alloc (zR _) _
 have hbml := htb.mp
 have HST := Bx.mk (show MpS W5 w1.heap.size (.slice (some ⟨gb, 0, none⟩) N vc) g' ms bm q9 f from
  ⟨(HGO3.out.below hb4).below hb5, htb.below hb5, hsub, by rw [hW5, hq9]; exact heap_alloc_new _ _, fun j hj => by have := (HGO3.out.lt hj).2; omega, by
   obtain ⟨q, -, ho⟩ := hbml
   have := ho.lt; omega⟩)
 have HBW5 := Bx.mk (show Below w.heap.size w W5 from HW3.out.trans ((hb4.trans (hb5.mono hb4.size)).mono HW3.out.size));have HQ9 := Bx.mk hq9;have HW5 := Bx.mk hW5;have HZ1 := Bx.mk (show w1.heap.size <= W5.heap.size by have := HGO3.out.lt (k := gb) (.inl rfl); have := hb4.size; have := hb5.size; omega);have hidx : ((N : Int) - 1).toNat = n := by omega
 have hidx2 : N - 1 = n := by omega
 have HNL := Bx.mk (show n < g'.length by rw [HLN'.out]; omega);clear hbm htb hb4 hsub hb5 hbml hn1;go_upto_region 6 with fail
 rw [<- hq9];rw [<- hW5];clear hW5 hq9;go_upto_region 7 with fail
 obtain ⟨gb2, he2, l0, hlfz⟩ := HST.out.go.cellL n HNL.out;simp only [zO, Addr.mk.injEq, and_true] at he2
 subst he2;have hvl := HST.out.go.gl.lv _ (zM HNL.out);have hown := HST.out.go.lv _ (zM HNL.out)
 have hlen : (g'[n]'HNL.out).vs.length <= 40000 := by
  have h1 : ((gxs g')[n]!).length = ((gxs g)[n]!).length := by rw [HGX.out]
  rw [gxs_at g' n HNL.out, gxs_at g n (by rw [<- HN.out]; omega), vxs_len, vxs_len] at h1;rw [h1]; exact HLN.out _ (zM _)
 have HGN := Bx.mk (show (gxs g)[N - 1]! = vxs (g'[n]'HNL.out).vs by rw [<- HGX.out, hidx2, gxs_at g' n HNL.out])
 have HPG := Bx.mk (map_pg HV.out.symm (by rw [gxs_len, <- HN.out]; exact hN2) (fun l hl => by
  obtain ⟨L0, h0, rfl⟩ := List.mem_map.1 hl
  rw [vxs_len]; have := HLN.out L0 h0; omega) ms (by rw [<- HMN.out]; omega) ok)
 obtain ⟨L, hL⟩ : ∃ L, L = g'[n]'HNL.out := ⟨_, rfl⟩
 rw [<- hL] at l0 hvl hown hlen HGN;have HL := Bx.mk hL;obtain ⟨la, lc, hls, -⟩ := hvl.rd.form;have HLS := Bx.mk hls;rw [hls] at l0 hvl hown;obtain ⟨M, hM⟩ : ∃ M, M = L.vs.length := ⟨_, rfl⟩
 have HM' := Bx.mk hM;rw [<- hM] at l0 hvl hown hlen;have HVL := Bx.mk hvl;have HOWN := Bx.mk hown;have L0 := Bx.mk l0;clear hL hls hM hvl hown hlfz
 cases ok with
 | false =>
  have hst := HST.out;obtain ⟨q, hq, hop⟩ := hst.tab.mp;have hgbm : ∀ j, (Value.slice la M lc).ownBlock = some j -> j < bm := fun j hj => hst.new j (.inr ⟨_, zM HNL.out, by rw [<- HL.out, HLS.out, <- HM'.out]; exact hj⟩)
  have hdel := gdelV_any W5 w1.heap.size (.slice la M lc) L.vs HOWN.out (fun x hx => HVL.out.at_ x hx) (by rw [<- HM'.out]; omega) q9 bm q f hop (by rw [cell_of_row _ _ _ _ _ _ hst.cell]; rfl) (lt_of_some hst.cell) (fun e => by have := hgbm q9 e; have := hst.qn; omega) (fun e => by have := hgbm bm e; omega)
  have HLX := Bx.mk (show ∀ l : List Vt, vxs (l.filter fun x => !(f x.n.pol).isSome) = (vxs l).filter fun v => !decide (v.pol ∈ srcL ms) from fun l => by
   unfold vxs;rw [List.filter_map];congr 1
   apply List.filter_congr
   intro x _;simp only [Function.comp_apply]
   rw [hst.tab.has_])
  clear hst hop hgbm;go_wp2_with fail
  go_at_call 61;refine hdel.mono ?_;rintro e w6 ⟨v6, rfl, hvb, hvo, hvg⟩;clear hdel;obtain ⟨a6, c6, rfl, -⟩ := hvo.rd.form;obtain ⟨n6, hn6⟩ : ∃ n6, n6 = (L.vs.filter fun x => !(f x.n.pol).isSome).length := ⟨_, rfl⟩
  rw [<- hn6] at hvo hvb |-;clear hn6;have hlv : (g'[n]'HNL.out).s.val.ownBlock = (Value.slice la M lc).ownBlock := by rw [<- HL.out, HLS.out, <- HM'.out]
  have hst6 := HST.out.go.setL2 n HNL.out (by rw [hlv]; exact hvg) ⟨L.vs.filter fun x => !(f x.n.pol).isSome, ⟨a6, n6, c6⟩⟩ hvo (fun j hj => by rw [hlv, <- hvb]; exact .inl hj) (fun y hy => HST.out.go.nm _ (zM HNL.out) y (by rw [<- HL.out]; exact (List.mem_filter.1 hy).1));obtain ⟨gb', cap', hv', hl', hfz, hcl, hgs⟩ := hst6;simp only [Value.slice.injEq, zO, Addr.mk.injEq, and_true] at hv'
  obtain ⟨rfl, -, -⟩ := hv';rw [<- HL.out, HLS.out, <- HM'.out] at hcl;simp only [Sl.val] at hgs
  have z1 := hfz n;obtain ⟨W7, hW7⟩ : ∃ W7, W7 = w6.setCell ⟨gb, n, none⟩ (.slice a6 n6 c6) := ⟨_, rfl⟩
  rw [<- hW7] at hgs;have HGS := Bx.mk hgs
  have hgx7 : gxs (g'.set n ⟨L.vs.filter fun x => !(f x.n.pol).isSome, ⟨a6, n6, c6⟩⟩) = (gxs g).set (N - 1) (gmapL (gxs g) ms false) := by
   have e1 : gxs (g'.set n ⟨L.vs.filter fun x => !(f x.n.pol).isSome, ⟨a6, n6, c6⟩⟩) = (gxs g').set n (vxs (L.vs.filter fun x => !(f x.n.pol).isSome)) := List.map_set;rw [e1, HGX.out, HLX.out, hidx2];unfold gmapL;rw [gxs_len, <- HN.out, HGN.out]; rfl
  have hprn := prune_any W7 w1.heap.size (.slice (some ⟨gb, 0, none⟩) N vc) _ hgs.go (by rw [hgx7]; have := HPG.out; rw [gxs_len, <- HN.out] at this; exact this) (by rw [zL, HLN'.out]; omega);have HGX7 := Bx.mk hgx7;have HW7 := Bx.mk hW7;clear hvb hvo hvg hlv hfz hgs hgx7 hl' hW7 l0;go_wp2_with fail
  rw [<- HW7.out];go_at_call 51;refine hprn.mono ?_;rintro e w12 ⟨v12, g12, rfl, hgo12, hgx12, hfr12, -⟩;clear hprn;have hb12 : Below w1.heap.size W7 w12 := hfr12.below (fun j hj => (HGS.out.go.lt hj).1) (by have := HGS.out.fr.size; have := HZ1.out; omega);have HB12 := Bx.mk (show Below w.heap.size w w12 from (HBW5.out.trans ((HGS.out.bel HST.out.go HZ1.out).mono HB31.out)).trans (hb12.mono HB31.out));have HG12 := Bx.mk (hgo12.mono HB31.out);have HX12 := Bx.mk (show gxs g12 = R.1 by rw [hgx12, HGX7.out, HRF.out]);obtain ⟨xa, xc, rfl, -⟩ := hgo12.own.rd.form;clear hgo12 hgx12 hfr12 hb12;go_wp2_with fail
  go_ret2
  exact ⟨_, g12, by rw [HRF.out]; rfl, HG12.out, HX12.out, HB12.out⟩
 | true =>
  obtain ⟨m, hm1⟩ : ∃ m, m = N - 2 := ⟨_, rfl⟩
  have HMM := Bx.mk hm1;have HML := Bx.mk (show m < g'.length by rw [HLN'.out]; omega);have hidx3 : ((N : Int) - 2).toNat = m := by omega
  obtain ⟨gb3, he3, a0, -⟩ := HST.out.go.cellL m HML.out;simp only [zO, Addr.mk.injEq, and_true] at he3
  subst he3;have hvla := HST.out.go.gl.lv _ (zM HML.out);have HGA := Bx.mk (show (gxs g)[N - 2]! = vxs (g'[m]'HML.out).vs by rw [<- HGX.out, <- HMM.out, gxs_at g' m HML.out])
  have hlena : (g'[m]'HML.out).vs.length <= 40000 := by
   have h1 : ((gxs g')[m]!).length = ((gxs g)[m]!).length := by rw [HGX.out]
   rw [gxs_at g' m HML.out, gxs_at g m (by rw [<- HN.out]; omega), vxs_len, vxs_len] at h1;rw [h1]; exact HLN.out _ (zM _)
  obtain ⟨LA, hLA⟩ : ∃ L, L = g'[m]'HML.out := ⟨_, rfl⟩
  rw [<- hLA] at a0 hvla HGA hlena;obtain ⟨aa, ac, has, -⟩ := hvla.rd.form;rw [has] at a0 hvla;have hf1 : ∀ e : Ext W5, Calls Tryz.prog 50 #[.agg #[.slice la M lc], .string (bstr anyP)] e.out (fun r w' => r = .returned (.int .i64 (fndP (vxs L.vs) anyP)) /\ Below e.out.heap.size e.out w') := fun e => find_any e.out _ L.vs (HVL.out.below e.bel) (by rw [<- HM'.out]; omega) anyP
  have hf2 : ∀ e : Ext W5, Calls Tryz.prog 50 #[.agg #[.slice aa LA.vs.length ac], .string (bstr anyP)] e.out (fun r w' => r = .returned (.int .i64 (fndP (vxs LA.vs) anyP)) /\ Below e.out.heap.size e.out w') := fun e => find_any e.out _ LA.vs (hvla.below e.bel) (by omega) anyP
  rw [anyP_str] at hf1 hf2;obtain ⟨AN, hAN⟩ : ∃ AN, AN = LA.vs.length := ⟨_, rfl⟩
  rw [<- hAN] at a0 hf2 hlena;obtain ⟨ST, hSTr⟩ : ∃ ST, ST = fndP (vxs L.vs) anyP := ⟨_, rfl⟩
  obtain ⟨AB, hAB⟩ : ∃ AB, AB = fndP (vxs LA.vs) anyP := ⟨_, rfl⟩
  rw [<- hSTr] at hf1;rw [<- hAB] at hf2;have HSTR := Bx.mk hSTr;have HABR := Bx.mk hAB
  have HABB := Bx.mk (show -1 <= AB /\ AB <= 40000 by
   rw [hAB];rcases Int.lt_or_le (fndP (vxs LA.vs) anyP) 0 with q | q
   ·have : fndP (vxs LA.vs) anyP = -1 := idxG_no (idxG_neg q);omega
   ·have := fndP_lt q
    rw [vxs_len] at this; omega)
  have c1 : ∀ e : Ext W5, e.out.cell? ⟨gb, n, none⟩ = some (.slice la M lc) := fun e => (e.bel.cell (p := ⟨gb, n, none⟩) (World.block_lt_of_cell? W5 _ L0.out)).trans L0.out
  have c2 : ∀ e : Ext W5, e.out.cell? ⟨gb, m, none⟩ = some (.slice aa AN ac) := fun e => (e.bel.cell (p := ⟨gb, m, none⟩) (World.block_lt_of_cell? W5 _ a0)).trans a0
  clear hLA hvla has hAN hSTr hAB a0 l0 hm1;go_wp2_with fail
  refine wp_region_self (by kernel_rfl) (by kernel_rfl) ?_
  repeat (go_big_quiet_step ((go_at_call 50; first | exact ext_of (hf1 _) | exact ext_of (hf2 _))))
  refine wpQuiet_nil ?_;rintro _ ⟨e1, rfl⟩;have HE1 := Bx.mk e1.bel;obtain ⟨W6, hW6⟩ : ∃ W6, W6 = e1.out := ⟨_, rfl⟩
  rw [<- hW6] at HE1 |-;clear hf1 hf2 c1 c2 hW6 hidx3;have HS6 := Bx.mk (HST.out.below HE1.out);have hs6 := HS6.out;obtain ⟨q, hq, hop⟩ := hs6.tab.mp;have hsk := sortedT bm q f W6 hop (by omega) (srcL ms) (setB_asc _) (fun p => by rw [hs6.tab.has_, decide_eq_true_eq]);have hkk := keysT (some bm) W6;have k9 : W6.cell? ⟨q9, 0, none⟩ = some (.map (some bm)) := by rw [cell_of_row _ _ _ _ _ _ hs6.cell]; rfl
  obtain ⟨kb, hkb⟩ : ∃ kb, kb = W6.heap.size := ⟨_, rfl⟩
  obtain ⟨WK, hWK⟩ : ∃ W, W = W6.alloc (.cells #[.map (some bm)] 86) := ⟨_, rfl⟩
  have HBK := Bx.mk (show Below W6.heap.size W6 WK by rw [hWK]; exact (Below.refl _ _).alloc (zR _) _);have HKB := Bx.mk hkb;rw [<- hWK, <- hkb] at hsk hkk;obtain ⟨S, hS⟩ : ∃ S, S = srcL ms := ⟨_, rfl⟩
  have HS := Bx.mk hS;rw [<- hS] at hsk;clear hop hq hkb hWK hS hs6;go_wp2_with fail
  go_at_call 64;refine hkk.mono ?_;rintro e w6 ⟨rfl, rfl⟩;clear hkk k9;go_wp2_with fail
  go_at_call 63;refine hsk.mono ?_;rintro e w7 ⟨sv, rfl, ho7, hb7⟩;obtain ⟨sa, sc, rfl, -⟩ := ho7.rd.form;have HB7 := Bx.mk (show Below W6.heap.size W6 w7 from HBK.out.trans (hb7.mono (by have := HKB.out; omega)));have hsl := srcL_len ms;rw [<- HMN.out, <- HS.out] at hsl
  have HSX := Bx.mk (show ∀ p ∈ S, p.length <= 1000000 /\ p ∈ srcL ms from fun p hp => by
   rw [HS.out] at hp;refine ⟨?_, hp⟩;unfold srcL at hp;rw [setB_mem, List.mem_map] at hp;obtain ⟨m, hm, rfl⟩ := hp
   exact (HMX.out m (List.mem_filter.1 hm).1).1)
  have HFEW := Bx.mk (show ∀ p, Few (subL ms p) from fun p => by
   unfold subL;refine ⟨?_, fun b hb => ?_⟩
   ·have h1 := setB_length ((ms.filter fun m => decide (m.1 = p) && okM m).map (·.2));have h2 := List.length_filter_le (fun m => decide (m.1 = p) && okM m) ms;rw [List.length_map] at h1;have := HMN.out; omega
   ·rw [setB_mem, List.mem_map] at hb;obtain ⟨m, hm, rfl⟩ := hb
    exact (HMX.out m (List.mem_filter.1 hm).1).2)
  have HSC := Bx.mk (show ∀ k (hk : k < S.length), ∃ b, sa = some ⟨b, 0, none⟩ /\ W6.heap.size < b /\ w7.cell? ⟨b, k, none⟩ = some (.string (bstr S[k])) from fun k hk => by
   rcases ho7.2 with ⟨h0, hn0⟩ | ⟨g0, cap, cur, hv, hB, -⟩
   ·exact absurd hn0 (by omega)
   ·simp only [Value.slice.injEq] at hv
    obtain ⟨rfl, -, rfl⟩ := hv;have h1 := ho7.cell encS_ok k hk 0 (by omega) _ rfl;rw [Nat.mul_one, Nat.add_zero] at h1
    exact ⟨g0, rfl, by have := HKB.out; omega, h1⟩)
  obtain ⟨SN, hSN⟩ : ∃ n, n = S.length := ⟨_, rfl⟩
  have HSN := Bx.mk hSN;rw [<- hSN] at ho7 hsl |-;have HS7 := Bx.mk (HS6.out.below HB7.out);have HBW7 := Bx.mk (show Below W5.heap.size W5 w7 from HE1.out.trans (HB7.out.mono HE1.out.size));clear hsk ho7 hb7 hSN;go_wp2_with fail
  go_loopw [64] (fun i wr => ∃ (k : Nat) (gr : List Lv), k <= SN /\ i = .int .i64 k /\ Bx (GStep w7 w1.heap.size (.slice (some ⟨gb, 0, none⟩) N vc) g' wr gr) /\ Bx (gxs gr = (gxs g).set n (mapL ms ST AB (vxs L.vs) (S.take k)))) (fun i _ => SN - (intOf i).toNat)
  case atStart =>
   refine ⟨0, g', by omega, rfl, ⟨GStep.refl HS7.out.go⟩, ⟨?_⟩⟩;rw [HGX.out];apply List.ext_getElem
   ·simp
   ·intro i h1 h2;rw [List.getElem_set];split
    ·rename_i e
     subst e;have := HGN.out;rw [hidx2, getElem!_pos _ n h1] at this;rw [this]; rfl
    ·rfl
  case round =>
   obtain ⟨k, gr, hk, rfl, hS', hX⟩ := hrel
   have hgl : gr.length = N := by
    have h1 := congrArg List.length hX.out;rw [gxs_len, zL, gxs_len, <- HN.out] at h1; exact h1
   have HGRL := Bx.mk hgl;have HNR := Bx.mk (show n < gr.length by rw [hgl]; omega);clear hgl
   have HVR := Bx.mk (show vxs (gr[n]'HNR.out).vs = mapL ms ST AB (vxs L.vs) (S.take k) by
    have h1 : (gxs gr)[n]! = ((gxs g).set n (mapL ms ST AB (vxs L.vs) (S.take k)))[n]! := (by rw [hX.out]);rw [gxs_at gr n HNR.out, getElem!_pos _ n (by rw [zL, gxs_len, <- HN.out]; omega), List.getElem_set_self] at h1
    exact h1)
   have hlr : (gr[n]'HNR.out).vs.length <= M + k := by
    have h1 := mapL_len ms ST AB (S.take k) (vxs L.vs);rw [<- HVR.out, vxs_len, vxs_len, <- HM'.out, List.length_take] at h1;omega
   have hgor := hS'.out.go;obtain ⟨gb3, he3, l1, hfz1⟩ := hgor.cellL n HNR.out;simp only [zO, Addr.mk.injEq, and_true] at he3
   subst he3;have hvl1 := hgor.gl.lv _ (zM HNR.out);obtain ⟨Lr, hLr⟩ : ∃ L, L = gr[n]'HNR.out := ⟨_, rfl⟩
   rw [<- hLr] at l1 hvl1 hlr HVR;have HLR := Bx.mk hLr;obtain ⟨ra, rc, hrs, -⟩ := hvl1.rd.form;have HRS := Bx.mk hrs;rw [hrs] at l1 hvl1;obtain ⟨RN, hRN⟩ : ∃ M, M = Lr.vs.length := ⟨_, rfl⟩
   have HRN := Bx.mk hRN;rw [<- hRN] at l1 hlr;have HV1 := Bx.mk hvl1;clear hLr hvl1 hrs hRN hgor hfz1;by_cases hlt : k < SN
   ·have hkl : k < S.length := by rw [<- HSN.out]; exact hlt
    obtain ⟨b, rfl, hbK, cx0⟩ := HSC.out k hkl
    have cx : wr.cell? ⟨b, k, none⟩ = some (.string (bstr S[k])) := by
     have h1 := hS'.out.fr.block b (World.block_lt_of_cell? w7 _ cx0) (fun hn => by
      have h2 := HS7.out.new b hn;have h3 := HS7.out.qn;have h4 := lt_of_some HS6.out.cell
      omega)
     unfold World.cell? at cx0 |-;rw [h1]; exact cx0
    have HTK := Bx.mk (show S.take (k + 1) = S.take k ++ [S[k]] from zA hkl);obtain ⟨hpl, hpm⟩ := HSX.out S[k] (zM hkl);obtain ⟨p, hp⟩ : ∃ p, p = S[k]'hkl := ⟨_, rfl⟩
    rw [<- hp] at cx hpl hpm HTK;obtain ⟨va, vn, uc, hvr, hlook⟩ := HS7.out.look hS'.out p hpl;have HRD := Bx.mk (hvr hpm);have HLOOK := Bx.mk hlook;have HPL := Bx.mk hpl;have HPM := Bx.mk hpm;have hfd := find_any wr (.slice ra RN rc) Lr.vs (by rw [HRN.out]; exact HV1.out) (by rw [<- HRN.out]; omega) p;have HMS := Bx.mk (show mapL ms ST AB (vxs L.vs) (S.take (k + 1)) = mapS ms ST AB (vxs Lr.vs) p by rw [HTK.out, mapL_snoc, HVR.out]);obtain ⟨FI, hFI⟩ : ∃ F, F = fndP (vxs Lr.vs) p := ⟨_, rfl⟩
    rw [<- hFI] at hfd;have HFI := Bx.mk hFI;have HL1 := Bx.mk l1;have hcell9 := (HS7.out.at_ hS'.out).2.1;have HC9 := Bx.mk hcell9;clear hp hpl hpm hvr hlook hFI cx0 hbK hkl hcell9;go_wp2_with fail
    go_at_call 50;refine hfd.mono ?_;rintro e w8 ⟨rfl, hb8⟩;have HB8 := Bx.mk hb8;clear hfd l1 cx hb8;by_cases hfi : 0 <= FI
    ·obtain ⟨i, hi, hie, -, -⟩ := fndP_some (show 0 <= fndP (vxs Lr.vs) p by rw [<- HFI.out]; exact hfi);rw [vxs_len, <- HRN.out] at hi;rw [<- HFI.out] at hie;subst hie;have tf : decide ((i : Int) >= 0) = true := zT (by omega);have HIL := Bx.mk (show i < Lr.vs.length by rw [<- HRN.out]; exact hi);obtain ⟨y, hy⟩ : ∃ y, y = Lr.vs[i]'HIL.out := ⟨_, rfl⟩
     have HY := Bx.mk hy;have hyn := hS'.out.go.nm _ (zM HNR.out) y (by rw [<- HLR.out, hy]; exact zM HIL.out);obtain ⟨x', hx'⟩ : ∃ x' : Vt, x' = ⟨⟨y.n.pol, subL ms p, y.n.par⟩, ⟨va, vn, uc⟩, y.q⟩ := ⟨_, rfl⟩
     have HX' := Bx.mk hx'
     have HXN := Bx.mk (show VtIn wr (fun j => ¬ GB (.slice (some ⟨gb, 0, none⟩) N vc) gr j) x' by
      rw [hx']; exact ⟨HRD.out, hyn.2.1, HFEW.out p, hyn.2.2.2.1, hyn.2.2.2.2⟩)
     have HM3 := Bx.mk (show mapS ms ST AB (vxs Lr.vs) p = vxs (Lr.vs.set i x') by
      unfold mapS;rw [<- HFI.out, if_pos (by omega), Int.toNat_natCast, vxs_at Lr.vs i HIL.out, <- hy, hx']
      simp [vxs, List.map_set])
     have HIR := Bx.mk (show ∀ (h : n < gr.length), i < (gr[n]).vs.length from fun h => by rw [<- HLR.out]; exact HIL.out)
     have HENC := Bx.mk (show ∀ (h : n < gr.length) (h' : i < (gr[n]).vs.length), encV x' = (encV ((gr[n]).vs[i])).set 1 (.slice va vn uc) from fun h h' => by
      have e : (gr[n]).vs[i] = y := by rw [hy]; congr 1; rw [<- HLR.out]
      rw [e, hx']; rfl)
     obtain ⟨nb, cap0, hv0, -⟩ := hS'.out.go.setV n HNR.out i (HIR.out HNR.out) 1 (by omega) (.slice va vn uc) x' (HENC.out HNR.out (HIR.out HNR.out)) HXN.out;rw [<- HLR.out, HRS.out] at hv0;simp only [Value.slice.injEq] at hv0
     obtain ⟨rfl, -, -⟩ := hv0;have l1e : ∀ e : Ext w8, e.out.cell? ⟨gb, n, none⟩ = some (.slice (some ⟨nb, 0, none⟩) RN rc) := fun e => ((HB8.out.trans (e.bel.mono HB8.out.size)).cell (p := ⟨gb, n, none⟩) (World.block_lt_of_cell? wr _ HL1.out)).trans HL1.out
     have k9e : ∀ e : Ext w8, e.out.cell? ⟨q9, 0, none⟩ = some (.map (some bm)) := fun e => by rw [cell_of_row _ _ _ _ _ _ (((HB8.out.trans (e.bel.mono HB8.out.size)).block q9 (lt_of_some HC9.out)).trans HC9.out)]; rfl
     have lke : ∀ e : Ext w8, (Instr.lookup 86 (.map (some bm)) (.string (bstr p)) false).run Tryz.prog e.out = .ok (.slice va vn uc) e.out := fun e => HLOOK.out e.out (HB8.out.trans (e.bel.mono HB8.out.size))
     clear hy hx' hyn;go_wp2_with fail
     refine wp_region_ext_tail 10 (Ext.self w8) (by kernel_rfl) (by kernel_rfl) rfl rfl ?_;simp only [List.take_succ_cons, List.take_zero, List.drop_succ_cons, List.drop_zero]
     repeat (go_big_quiet_step (fail))
     refine wpQuiet_nil ?_;rintro _ ⟨e1, rfl⟩;have hbe : Below wr.heap.size wr e1.out := HB8.out.trans (e1.bel.mono HB8.out.size);have hgoe := hS'.out.go.below hbe;obtain ⟨nb', cap', hv', hl', hfz', hgo', hgr'⟩ := hgoe.setV n HNR.out i (HIR.out HNR.out) 1 (by omega) (.slice va vn uc) x' (HENC.out HNR.out (HIR.out HNR.out)) (HXN.out.below hbe);have hown1 := hgoe.lv _ (zM HNR.out);rw [<- HLR.out, HRS.out] at hv' hown1;simp only [Value.slice.injEq, zO, Addr.mk.injEq, and_true] at hv'
     obtain ⟨rfl, -, -⟩ := hv';have c3 := hown1.cell encV_ok i HIL.out 1 (by omega) (Lr.vs[i]'HIL.out).u.val rfl;simp only [Sl.val] at c3
     have z3 := hfz' (i * 3 + 1);have hset : gr.set n ⟨(gr[n]'HNR.out).vs.set i x', (gr[n]'HNR.out).s⟩ = gr.set n ⟨Lr.vs.set i x', Lr.s⟩ := (by rw [<- HLR.out]);rw [hset] at hgo';obtain ⟨W10, hW10⟩ : ∃ W, W = e1.out.setCell ⟨nb, i * 3 + 1, none⟩ (.slice va vn uc) := ⟨_, rfl⟩
     rw [<- hW10] at hgo' hgr';have hnbG : GB (.slice (some ⟨gb, 0, none⟩) N vc) gr nb := .inr ⟨_, zM HNR.out, by rw [<- HLR.out, HRS.out]; rfl⟩
     have HS10 := Bx.mk (show GStep w7 w1.heap.size (.slice (some ⟨gb, 0, none⟩) N vc) g' W10 (gr.set n ⟨Lr.vs.set i x', Lr.s⟩) from
      GStep.trans (hS'.out.below hbe) ⟨hgo', Fr.of_grown hgr' fun r hr => by
       simp only [zO] at hr; subst hr; exact hnbG, fun r hr => by
       rw [<- hset] at hr
       exact .inl ((GB.same HNR.out _).1 hr)⟩)
     have HX10 := Bx.mk (show gxs (gr.set n ⟨Lr.vs.set i x', Lr.s⟩) = (gxs g).set n (mapL ms ST AB (vxs L.vs) (S.take (k + 1))) by
      have e1 : gxs (gr.set n ⟨Lr.vs.set i x', Lr.s⟩) = (gxs gr).set n (vxs (Lr.vs.set i x')) := List.map_set
      rw [e1, hX.out, List.set_set, HMS.out, HM3.out])
     have HW10 := Bx.mk hW10;clear hbe hgoe hfz' hgo' hgr' hown1 hset hW10 hnbG l1e k9e lke hl';go_wp2_with fail
     rw [<- HW10.out];go_roundw
     case rel => exact ⟨k + 1, _, by omega, by go_num, HS10, HX10⟩
     case measure => simp [intOf]; omega
    ·have tf : decide (FI >= 0) = false := zF hfi;by_cases hst : 0 <= ST
     ·have ts : decide (ST >= 0) = true := zT hst
      have HM2 := Bx.mk (show mapS ms ST AB (vxs Lr.vs) p = insV (vxs Lr.vs) ⟨p, subL ms p, [AB]⟩ by
       unfold mapS; rw [<- HFI.out, if_neg hfi, if_pos hst])
      obtain ⟨q7, hq7⟩ : ∃ q, q = w8.heap.size := ⟨_, rfl⟩
      obtain ⟨W9, hW9⟩ : ∃ W, W = w8.alloc (.cells #[.int .i64 AB] 3) := ⟨_, rfl⟩
      have hb9 : Below w8.heap.size w8 W9 := (by rw [hW9]; exact (Below.refl _ _).alloc (zR _) _);have hbr9 : Below wr.heap.size wr W9 := HB8.out.trans (hb9.mono HB8.out.size)
      have hq : Slc.Own W9 w8.heap.size 3 1 encI (.slice (some ⟨q7, 0, none⟩) 1 1) [AB] := by
       rw [hW9, hq7]; exact own_alloc encI_ok w8 [AB] _ rfl (zR _) (by unfold maxLen; simp)
      have hxv : VtIn W9 (fun j => ¬ GB (.slice (some ⟨gb, 0, none⟩) N vc) gr j) ⟨⟨p, subL ms p, [AB]⟩, ⟨va, vn, uc⟩, ⟨some ⟨q7, 0, none⟩, 1, 1⟩⟩ := by
       refine ⟨RdIn.below HRD.out hbr9, .inr ⟨hq.rd, fun j hj hn => ?_⟩, HFEW.out p, HPL.out, by simp, fun z hz => ?_⟩
       ·have h1 := (hq.lt j hj).1;have h2 := (hS'.out.go.lt hn).2;have := HB8.out.size;omega
       ·simp only [zS] at hz
        subst hz;have := HABB.out; omega
      have hgo9 := hS'.out.go.below hbr9;have hins := ginsert_n W9 w1.heap.size gb vc N gr HGRL.out hgo9 n HNR.out ⟨⟨p, subL ms p, [AB]⟩, ⟨va, vn, uc⟩, ⟨some ⟨q7, 0, none⟩, 1, 1⟩⟩ hxv (by rw [<- HLR.out, <- HRN.out]; omega);unfold verV at hins;simp only [Sl.val] at hins
      rw [<- HLR.out] at hins;have HBR9 := Bx.mk hbr9;have lk := HLOOK.out w8 HB8.out;have k9 : w8.cell? ⟨q9, 0, none⟩ = some (.map (some bm)) := (by rw [cell_of_row _ _ _ _ _ _ ((HB8.out.block q9 (lt_of_some HC9.out)).trans HC9.out)]; rfl);clear hb9 hbr9 hq hxv hgo9;go_wp2_with fail
      rw [<- hq7, <- hW9];clear hq7 hW9 lk k9;go_at_call 65;refine hins.mono ?_;rintro e w10 ⟨⟨u, rfl⟩, L', hs10, hl10⟩;have HS10 := Bx.mk ((hS'.out.below HBR9.out).trans hs10)
      have HX10 := Bx.mk (show gxs (gr.set n L') = (gxs g).set n (mapL ms ST AB (vxs L.vs) (S.take (k + 1))) by
       have e1 : gxs (gr.set n L') = (gxs gr).set n (vxs L'.vs) := List.map_set
       rw [e1, hX.out, List.set_set, HMS.out, HM2.out, hl10, insT_vxs])
      clear hins hs10 hl10;go_wp2_with fail
      go_roundw
      case rel => exact ⟨k + 1, _, by omega, by go_num, HS10, HX10⟩
      case measure => simp [intOf]; omega
     ·have ts : decide (ST >= 0) = false := zF hst
      have HX2 := Bx.mk (show gxs gr = (gxs g).set n (mapL ms ST AB (vxs L.vs) (S.take (k + 1))) by
       rw [HMS.out];unfold mapS
       rw [<- HFI.out, if_neg hfi, if_neg hst, HVR.out]; exact hX.out)
      have HS2 := Bx.mk (hS'.out.below HB8.out);go_wp2_with fail
      go_roundw
      case rel => exact ⟨k + 1, gr, by omega, by go_num, HS2, HX2⟩
      case measure => simp [intOf]; omega
   ·obtain rfl : k = SN := by omega
    have hgx7 : gxs gr = (gxs g).set (N - 1) (gmapL (gxs g) ms true) := by
     rw [hX.out, hidx2];unfold gmapL;rw [gxs_len, <- HN.out, HGN.out, HGA.out, <- HSTR.out, <- HABR.out, <- HS.out, HSN.out, List.take_length]; rfl
    have hprn := prune_any wr w1.heap.size (.slice (some ⟨gb, 0, none⟩) N vc) gr hS'.out.go (by rw [hgx7]; have := HPG.out; rw [gxs_len, <- HN.out] at this; exact this) (by rw [HGRL.out]; omega);have HGX7 := Bx.mk hgx7;clear hgx7;go_wp2_with fail
    go_at_call 51;refine hprn.mono ?_;rintro e w12 ⟨v12, g12, rfl, hgo12, hgx12, hfr12, -⟩;clear hprn;have hz7 : w1.heap.size <= w7.heap.size := (by have := HZ1.out; have := HBW7.out.size; omega);have hb12 : Below w1.heap.size wr w12 := hfr12.below (fun j hj => (hS'.out.go.lt hj).1) (by have := hS'.out.fr.size; omega);have HB12 := Bx.mk (show Below w.heap.size w w12 from (HBW5.out.trans ((HBW7.out.mono (by have := HBW5.out.size; omega)).trans ((hS'.out.bel HS7.out.go hz7).mono HB31.out))).trans (hb12.mono HB31.out));have HG12 := Bx.mk (hgo12.mono HB31.out);have HX12 := Bx.mk (show gxs g12 = R.1 by rw [hgx12, HGX7.out, HRF.out]);obtain ⟨xa, xc, rfl, -⟩ := hgo12.own.rd.form;clear hgo12 hgx12 hfr12 hb12;go_wp2_with fail
    go_ret2;exact ⟨_, g12, by rw [HRF.out]; rfl, HG12.out, HX12.out, HB12.out⟩
theorem wantF_any (w : World) (x st : Int) (qd : Nat) (hq : w.cell? ⟨qd, 0, none⟩ = some (.int .i64 st)) :
  Calls Tryz.prog 108 #[.int .i64 x, .pointer (some ⟨qd, 0, none⟩)] w fun e w' => e = .returned (.bool (decide (x = st))) /\ w = w' := by
 have l3 : (x == st) = decide (x = st) := rfl;obtain ⟨R, hR⟩ : ∃ R, R = decide (x = st) := ⟨_, rfl⟩
 rw [<- hR] at l3 |-;clear hR;go_enter Tryz.func108, Tryz.ntmps108;go_wp2_with fail
 go_ret;exact ⟨rfl, rfl⟩
theorem idxI_any (w : World) (Bk : Nat) (v : Value) (l : List Int) (h : Slc.Own w Bk 3 1 encI v l) (hn : l.length <= 100000) (st : Int) (qd : Nat) (hq : w.cell? ⟨qd, 0, none⟩ = some (.int .i64 st)) :
  Calls Tryz.prog 126 #[v, .func (.func 108) #[] #[.pointer (some ⟨qd, 0, none⟩)]] w fun e w' => e = .returned (.int .i64 (idxG l fun n => decide (n = st))) /\ w = w' := by
 have hri : Ri w v l := .inr ⟨h.rd, h.rd.lt⟩;obtain ⟨ad, c, rfl, -⟩ := h.rd.form;have HC := Bx.mk (hri.cells w (Below.refl _ _));obtain ⟨R, hR⟩ : ∃ R, R = idxG l fun n => decide (n = st) := ⟨_, rfl⟩
 rw [<- hR];have HR := Bx.mk hR;obtain ⟨N, hN⟩ : ∃ N, N = l.length := ⟨_, rfl⟩
 have HN := Bx.mk hN;rw [<- hN] at hn |-;have HW := Bx.mk (fun x => wantF_any w x st qd hq);clear h hri hR hN hq;have eg : ∀ args W, (callFunc 108 args).run Tryz.prog W = .ok (.enter 108 args) W := enters_of Tryz.func108 (by kernel_rfl) rfl
 go_enter Tryz.func126, Tryz.ntmps126;go_wp2_with fail
 go_loopw [8] (fun i wr => ∃ k : Nat, k <= N /\ i = .int .i64 k /\ Bx (∀ j, j < k -> decide (l[j]! = st) = false) /\ wr = w) (fun i _ => N - (intOf i).toNat)
 case atStart => exact ⟨0, by omega, rfl, ⟨fun j hj => by omega⟩, rfl⟩
 case round =>
  obtain ⟨k, hk, rfl, hF, rfl⟩ := hrel;by_cases hlt : k < N
  ·have hkl : k < l.length := by rw [<- HN.out]; exact hlt
   obtain ⟨b, o, rfl, -, c0⟩ := HC.out k hkl;have HX := Bx.mk (show l[k]! = l[k] from getElem!_pos l k hkl);obtain ⟨x, hx⟩ : ∃ x, x = l[k]'hkl := ⟨_, rfl⟩
   rw [<- hx] at c0 HX;have hcf := HW.out x;obtain ⟨r, hr⟩ : ∃ r, r = decide (x = st) := ⟨_, rfl⟩
   rw [<- hr] at hcf;have HRX := Bx.mk hr;clear hx hr;go_wp2_with fail
   go_at_call 108;refine hcf.mono ?_;rintro e w2 ⟨rfl, rfl⟩;clear hcf c0
   cases r with
   | true =>
    have HF2 := Bx.mk (show R = (k : Int) by rw [HR.out]; exact idxG_eq hkl (by rw [HX.out]; exact HRX.out.symm) hF.out);clear hkl;go_wp2_with fail
    go_ret
    exact ⟨by rw [HF2.out]; rfl, rfl⟩
   | false =>
    clear hkl;go_wp2_with fail
    go_roundw
    case rel => exact ⟨k + 1, by omega, by go_num, ⟨fun j hj => by
     by_cases e : j = k
     ·subst e; rw [HX.out]; exact HRX.out.symm
     ·exact hF.out j (by omega)⟩, trivial⟩
    case measure => simp [intOf]; omega
  ·obtain rfl : N = k := by omega
   have HF2 := Bx.mk (show R = -1 by rw [HR.out]; exact idxG_no fun i hi => hF.out i (by rw [<- HN.out] at hi; exact hi));go_wp2_with fail
   go_ret;exact ⟨by rw [HF2.out]; rfl, rfl⟩
theorem gdelI_any (w : World) (Bk : Nat) (v : Value) (l : List Int) (h : Slc.Own w Bk 3 1 encI v l) (hn : l.length <= 100000) (st : Int) (qd : Nat) (hq : w.cell? ⟨qd, 0, none⟩ = some (.int .i64 st)) (hql : qd < w.heap.size) (hqv : v.ownBlock ≠ some qd) :
  Calls Tryz.prog 107 #[v, .func (.func 108) #[] #[.pointer (some ⟨qd, 0, none⟩)]] w fun e w' => ∃ v', e = .returned v' /\ v'.ownBlock = v.ownBlock /\ Slc.Own w' Bk 3 1 encI v' (l.filter fun x => !decide (x = st)) /\ w.grownBy w' v.ownBlock := by
 obtain ⟨p, hp⟩ : ∃ p : Int -> Bool, p = fun x => !decide (x = st) := ⟨_, rfl⟩
 have HP := Bx.mk hp;rw [<- hp];clear hp;have hix := idxI_any w Bk v l h hn st qd hq;obtain ⟨ad, c, rfl, hlc⟩ := h.rd.form;have HO := Bx.mk h;obtain ⟨N, hN⟩ : ∃ N, N = l.length := ⟨_, rfl⟩
 have HN := Bx.mk hN;obtain ⟨I0, hI⟩ : ∃ I, I = idxG l (fun n => decide (n = st)) := ⟨_, rfl⟩
 rw [<- hI] at hix;have HI := Bx.mk hI;have HQ := Bx.mk hq;have HQL := Bx.mk hql;rw [<- hN] at hn hix hlc hqv |-;have HQV := Bx.mk hqv;have HLC := Bx.mk hlc;clear h hN hI hq hql hqv;have eg : ∀ args W, (callFunc 108 args).run Tryz.prog W = .ok (.enter 108 args) W := enters_of Tryz.func108 (by kernel_rfl) rfl
 go_enter Tryz.func107, Tryz.ntmps107;go_wp2_with fail
 go_at_call 126;refine hix.mono ?_;rintro e w1 ⟨rfl, rfl⟩;clear hix;by_cases hi0 : I0 = -1
 ·have t12 : (I0 == -1) = true := by rw [hi0]; rfl
  have HF := Bx.mk (show l.filter p = l by
   rw [HP.out, List.filter_eq_self];intro x hxm;obtain ⟨i, hi, rfl⟩ := List.getElem_of_mem hxm;have := idxG_neg (t := l) (f := fun n => decide (n = st)) (by rw [<- HI.out, hi0]; omega) i hi;rw [getElem!_pos l i hi] at this
   rw [this]; rfl)
  clear hi0;go_wp2_with fail
  go_ret;refine ⟨_, rfl, rfl, by rw [HF.out]; rw [HN.out]; exact HO.out, ⟨rfl, rfl, rfl, zR _, fun _ _ _ => rfl⟩⟩
 ·have t12 : (I0 == -1) = false := by simp [hi0]
  have hnn : 0 <= idxG l (fun n => decide (n = st)) := by
   rcases Int.lt_or_le (idxG l (fun n => decide (n = st))) 0 with q1 | q1
   ·exfalso
    apply hi0
    rw [HI.out];exact idxG_no (idxG_neg q1)
   ·exact q1
  obtain ⟨k0, hk0, hk0e, hk0t, hk0n⟩ := idxG_some hnn;rw [<- HI.out] at hk0e;subst hk0e;have hp := HP.out;obtain ⟨hfl, hfd⟩ := delJ_first p l k0 hk0 (by rw [hp]; show (!decide (l[k0]! = st)) = false; rw [hk0t]; rfl) (fun j hj => by rw [hp]; show (!decide (l[j]! = st)) = true; rw [hk0n j hj]; rfl);have hown := HO.out;rcases hown.2 with ⟨h0, hn0⟩ | ⟨g, cap, cur, hv, hB, -, -⟩
  ·exact absurd hn0 (by omega)
  simp only [Value.slice.injEq] at hv
  obtain ⟨rfl, -, rfl⟩ := hv;rw [<- HN.out] at hown;have HG0 := Bx.mk (show w.grownBy w (some g) from ⟨rfl, rfl, rfl, zR _, fun _ _ _ => rfl⟩);have HO1 := Bx.mk (show Slc.Own w Bk 3 1 encI (.slice (some ⟨g, 0, none⟩) N c) (delJ p l (k0 + 1)) by rw [hfd]; exact hown);have HI1 := Bx.mk (show k0 = ((l.take (k0 + 1)).filter p).length by rw [hfl, List.length_take]; omega);have hk0N : k0 < N := by rw [HN.out]; exact hk0
  have HGQ := Bx.mk (show g ≠ qd from fun e => HQV.out (by rw [e]; rfl));clear hnn hk0 hk0t hk0n hp hfl hfd hown hB hi0;go_wp2_with fail
  go_loopw [5, 6] (fun iv jv wr => ∃ (i j : Nat), i < j /\ j <= N /\ iv = .int .i64 i /\ jv = .int .i64 j /\ Bx (i = ((l.take j).filter p).length) /\ Bx (Slc.Own wr Bk 3 1 encI (.slice (some ⟨g, 0, none⟩) N c) (delJ p l j)) /\ Bx (w.grownBy wr (some g))) (fun _ jv _ => N - (intOf jv).toNat)
  case atStart => exact ⟨k0, k0 + 1, by omega, by omega, rfl, by go_num, HI1, HO1, HG0⟩
  case round =>
   clear HI1 HO1 HG0;obtain ⟨i, j, hij, hj, rfl, rfl, hI, hO, hG⟩ := hrel;by_cases hlt : j < N
   ·have hjl : j < l.length := by rw [<- HN.out]; exact hlt
    have hjd : j < (delJ p l j).length := (by rw [delJ_len p l j (by omega)]; exact hjl);have hat := delJ_at p l j hjl hjd;have c0 := hO.out.cell encI_ok j hjd 0 (by omega) (.int .i64 l[j]) (by rw [hat]; rfl);rw [Nat.add_zero, Nat.mul_one] at c0;have HYES := Bx.mk (delJ_yes p l j hjl);have HNO := Bx.mk (delJ_no p l j hjl);have HPX := Bx.mk (show p l[j] = !decide (l[j] = st) by rw [HP.out]);obtain ⟨x, hx⟩ : ∃ x, x = l[j]'hjl := ⟨_, rfl⟩
    rw [<- hx] at c0 HYES HNO HPX;obtain ⟨r, hr⟩ : ∃ r, r = decide (x = st) := ⟨_, rfl⟩
    have hqw := (hG.out.block qd HQL.out (by simp only [ne_eq, zO]; exact fun e => HGQ.out e.symm))
    have hq2 : wr.cell? ⟨qd, 0, none⟩ = some (.int .i64 st) := by
     have h2 := HQ.out;unfold World.cell? at h2 |-;rw [hqw]; exact h2
    have hcf := wantF_any wr x st qd hq2;rw [<- hr] at hcf HPX;clear hx hr hqw hq2 hat hjd hjl;go_wp2_with fail
    go_at_call 108;refine hcf.mono ?_;rintro e w3 ⟨rfl, rfl⟩;clear hcf
    cases r with
    | true =>
     have he := HNO.out (by rw [HPX.out]; rfl);have HI2 := Bx.mk (show i = ((l.take (j + 1)).filter p).length by rw [he]; exact hI.out)
     have HO4 := Bx.mk (show Slc.Own wr Bk 3 1 encI (.slice (some ⟨g, 0, none⟩) N c) (delJ p l (j + 1)) by
      have : delJ p l (j + 1) = delJ p l j := by unfold delJ; rw [he]
      rw [this]; exact hO.out)
     clear he;go_wp2_with fail
     go_roundw
     case rel => exact ⟨i, j + 1, by omega, by omega, rfl, by go_num, HI2, HO4, hG⟩
     case measure => simp [intOf]; omega
    | false =>
     obtain ⟨he, hset⟩ := HYES.out (by rw [HPX.out]; rfl);have HI2 := Bx.mk (show i + 1 = ((l.take (j + 1)).filter p).length by rw [he, List.length_append, <- hI.out]; rfl);rw [<- hI.out] at hset;have hid : i < (delJ p l j).length := (by rw [delJ_len p l j (by rw [<- HN.out]; omega), <- HN.out]; omega);have d0 := hO.out.cell encI_ok i hid 0 (by omega) (.int .i64 (delJ p l j)[i]) rfl;rw [Nat.add_zero, Nat.mul_one] at d0;obtain ⟨u0, hu0⟩ : ∃ u, u = Value.int .i64 ((delJ p l j)[i]'hid) := ⟨_, rfl⟩
     rw [<- hu0] at d0;clear hu0;obtain ⟨g1, cap1, hv1, hB1, hlt1, hfr1, ho1, hg1⟩ := hO.out.set1 encI_ok i 0 hid (by omega) (.int .i64 x) x rfl;simp only [Value.slice.injEq, zO, Addr.mk.injEq, and_true] at hv1
     obtain ⟨rfl, -, rfl⟩ := hv1;rw [hset, Nat.add_zero, Nat.mul_one] at ho1;rw [Nat.add_zero, Nat.mul_one] at hg1;have HO5 := Bx.mk ho1;have HG5 := Bx.mk (grown_same hG.out hg1);clear ho1 hg1 hset he hid hB1;go_wp2_with fail
     go_roundw
     case rel => exact ⟨i + 1, j + 1, by omega, by omega, by go_num, by go_num, HI2, HO5, HG5⟩
     case measure => simp [intOf]; omega
   ·obtain rfl : j = N := by omega
    have hdl := delJ_len p l j (by rw [<- HN.out]; exact zR _)
    have hrow : ∃ cur, wr.heap[g]? = some (.cells cur 3 (0, 0)) /\ cur.size = c * 1 := by
     rcases hO.out.2 with ⟨h0, -⟩ | ⟨g', cap', cur', hv, -, hb, -, -, hcs, -⟩
     ·simp at h0
     ·simp only [Value.slice.injEq, zO, Addr.mk.injEq] at hv
      obtain ⟨⟨rfl, -⟩, -, rfl⟩ := hv;exact ⟨cur', hb, hcs⟩
    obtain ⟨cw, hrw, hrs⟩ := hrow;rw [Nat.mul_one] at hrs;have hcl := fun ty => Lib.run_clear_slice (P := Tryz.prog) wr 22 3 ty (.int .i64 0) und_ints Tryz.zeroValue3 rfl rfl g i (j - i) (c - i) (by omega) (fun r hr => by rw [cell_of_row _ _ _ _ _ _ hrw, Array.getElem?_eq_getElem (show i + r < cw.size by rw [hrs]; have := HLC.out; omega)]; rfl) (fun r hr => frozen_row hrw)
    obtain ⟨L, hL⟩ : ∃ L : List Value, L = List.replicate (j - i) (.int .i64 0) := ⟨_, rfl⟩
    rw [<- hL] at hcl;have hown := Own.head encI_ok hO.out i (by rw [hdl, <- HN.out]; omega) L;have hgr := setCells_grown g (i * 1) L wr;rw [Nat.mul_one] at hown hgr
    have HFO := Bx.mk (show Slc.Own (wr.setCells g i L) Bk 3 1 encI (.slice (some ⟨g, 0, none⟩) i c) (l.filter p) by
     have h1 := delJ_all p l;rw [<- HN.out, <- hI.out] at h1
     rw [<- h1]; exact hown)
    have HFG := Bx.mk (grown_same hG.out hgr);clear hown hgr hrw hrs hdl hL;go_wp2_with fail
    go_ret;exact ⟨_, rfl, rfl, HFO.out, HFG.out⟩
end Go.Proofs.YtmagjdocondmhaaGreat.Tr.Gr
namespace Go.Proofs.YtmagjdocondmhaaGreat.Tr.Gr
open Go Go.RowKit Slc St Mp Tr Rg
def hitV (star : Int) (v : Vx) : Bool := !specV v && decide (star ∈ v.par)
def wanV (ps : List B) (star : Int) (v : Vx) : Vx := if hitV star v && !decide (v.pol ∈ ps) then ⟨v.pol, v.ex, v.par.filter fun x => !decide (x = star)⟩ else v
def wanL (ps : List B) (star : Int) (l : List Vx) : List Vx := l.map (wanV ps star)
def hasL (ps : List B) (star : Int) (l : List Vx) : List B := (l.filter fun v => hitV star v && decide (v.pol ∈ ps)).map (·.pol)
def wanK (ps : List B) (g : List (List Vx)) (k : Nat) : List (List Vx) :=
 filtG (g.set k (wanL ps (fndP g[k - 1]! anyP) g[k]!)) k (marksA (wanL ps (fndP g[k - 1]! anyP) g[k]!))
def wanG (ps : List B) (g : List (List Vx)) : Nat -> List (List Vx)
 | 0 => g
 | n + 1 => wanK ps (wanG ps g n) (n + 1)
def hasG (ps : List B) (g : List (List Vx)) : Nat -> List B
 | 0 => []
 | n + 1 => hasG ps g n ++ hasL ps (fndP (wanG ps g n)[n]! anyP) (wanG ps g n)[n + 1]!
theorem wanK_len (ps : List B) (g : List (List Vx)) (k : Nat) : (wanK ps g k).length = g.length := by unfold wanK; rw [filtG_len, zL]
theorem wanG_len (ps : List B) (g : List (List Vx)) : ∀ n, (wanG ps g n).length = g.length
 | 0 => rfl
 | n + 1 => by rw [wanG, wanK_len, wanG_len ps g n]
theorem wanV_par {ps : List B} {star : Int} {v : Vx} {p : Int} (h : p ∈ (wanV ps star v).par) : p ∈ v.par := by
 unfold wanV at h;split at h
 ·exact (List.mem_filter.1 h).1
 ·exact h
theorem PG.setSub {g : List (List Vx)} (h : PG g) {k : Nat} {l : List Vx} (hk : k < g.length) (hl : l.length = (g[k]!).length) (hp : ∀ v ∈ l, ∀ p ∈ v.par, ∃ u ∈ g[k]!, p ∈ u.par) : PG (g.set k l) := by
 have hat : ∀ j, j < g.length -> (g.set k l)[j]! = if j = k then l else g[j]! := fun j hj => by
  rw [getElem!_pos _ j (by simpa using hj), List.getElem_set];by_cases e : k = j
  ·rw [if_pos e, if_pos e.symm]
  ·rw [if_neg e, if_neg (fun q => e q.symm), getElem!_pos g j hj]
 constructor
 ·intro j hj v hv p hpp;rw [zL] at hj;rw [hat (j + 1) hj] at hv;rw [hat j (by omega)]
  have hbd : 0 <= p /\ p < ((g[j]!).length : Int) := by
   by_cases e : j + 1 = k
   ·rw [if_pos e] at hv;obtain ⟨u, hu, hpu⟩ := hp v hv p hpp;rw [<- e] at hu;exact h.par j hj u hu p hpu
   ·rw [if_neg e] at hv;exact h.par j hj v hv p hpp
  by_cases e2 : j = k
  ·rw [if_pos e2, hl, <- e2]; exact hbd
  ·rw [if_neg e2]; exact hbd
 ·intro m hm;rcases List.mem_or_eq_of_mem_set hm with q | rfl
  ·exact h.len m q
  ·rw [hl, getElem!_pos g k hk]; exact h.len _ (zM hk)
theorem wan_sub {g : List (List Vx)} (h : PG g) {k : Nat} (hk : k < g.length) (ps : List B) (star : Int) : PG (g.set k (wanL ps star g[k]!)) := by
 refine h.setSub hk (by simp [wanL]) fun v hv p hp => ?_
 unfold wanL at hv;obtain ⟨u, hu, rfl⟩ := List.mem_map.1 hv;exact ⟨u, hu, wanV_par hp⟩
theorem wanG_pg {g : List (List Vx)} (h : PG g) (ps : List B) : ∀ n, n < g.length \/ n = 0 -> PG (wanG ps g n)
 | 0, _ => h
 | n + 1, hn => by
  have h1 := wanG_pg h ps n (by omega);rw [wanG];unfold wanK;exact (wan_sub h1 (by rw [wanG_len]; omega) ps _).filt (by rw [zL, wanG_len]; omega) _
structure PDG (w : World) (Bk U : Nat) (g : List Lv) : Prop where
 own : ∀ L ∈ g, ∀ x ∈ L.vs, Slc.Own w Bk 3 1 encI x.q.val x.n.par
 ap : ∀ L ∈ g, L.vs.Pairwise QA
 ab : ∀ (i j : Nat) (hi : i < g.length) (hj : j < g.length), i ≠ j -> ∀ x ∈ (g[i]).vs, ∀ y ∈ (g[j]).vs, QA x y
 ex : ∀ L ∈ g, ∀ x ∈ L.vs, ∀ L' ∈ g, ∀ y ∈ L'.vs, ∀ k, x.q.val.ownBlock = some k -> y.u.val.ownBlock ≠ some k
 ul : ∀ L ∈ g, ∀ x ∈ L.vs, ∀ k, x.u.val.ownBlock = some k -> k < U
theorem PD.pdg {w : World} {Bk : Nat} {g : List Lv} (h : PD w Bk (g.flatMap (·.vs))) : PDG w Bk w.heap.size g := by
 have hm : ∀ L ∈ g, ∀ x ∈ L.vs, x ∈ g.flatMap (·.vs) := fun L hL x hx => List.mem_flatMap.2 ⟨L, hL, hx⟩
 have hp := List.pairwise_flatMap.1 h.ap;refine ⟨fun L hL x hx => h.own x (hm L hL x hx), fun L hL => hp.1 L hL, fun i j hi hj hij x hx y hy => ?_, fun L hL x hx L' hL' y hy => h.ex x (hm L hL x hx) y (hm L' hL' y hy), fun L hL x hx => h.ul x (hm L hL x hx)⟩;have h2 := List.pairwise_iff_getElem.1 hp.2;rcases Nat.lt_or_gt_of_ne hij with q | q
 ·exact h2 i j hi hj q x hx y hy
 ·exact QA.symm (x := y) (y := x) (h2 j i hj hi q y hy x hx)
theorem PDG.keep {w w' : World} {Bk U : Nat} {g : List Lv} (h : PDG w Bk U g) (hb : ∀ L ∈ g, ∀ x ∈ L.vs, ∀ k, x.q.val.ownBlock = some k -> k < w.heap.size -> w'.heap[k]? = w.heap[k]?) : PDG w' Bk U g :=
 ⟨fun L hL x hx => (h.own L hL x hx).keep fun k hk hkl => hb L hL x hx k hk hkl, h.ap, h.ab, h.ex, h.ul⟩
theorem PDG.below {w w' : World} {Bk U : Nat} {g : List Lv} (h : PDG w Bk U g) (hb : Below w.heap.size w w') : PDG w' Bk U g := h.keep fun _ _ _ _ k _ hk => hb.block k hk
theorem keepT_sub {α : Type} [Inhabited α] (l : List α) (m : List Bool) : (keepT l m l.length).Sublist l := by
 unfold keepT;have h1 : ((List.range l.length).filter fun j => m[j]!).Sublist (List.range l.length) := List.filter_sublist;have h2 := h1.map (fun j => l[j]!)
 have e : (List.range l.length).map (fun j => l[j]!) = l := by
  apply List.ext_getElem
  ·simp
  ·intro i h1 h2;simp only [List.getElem_map, List.getElem_range]
   exact getElem!_pos l i h2
 rw [e] at h2; exact h2
theorem PDG.filt {w w' : World} {Bk U : Nat} {v : Value} {g g' : List Lv} {k : Nat} {m : List Bool} (h : PDG w Bk U g) (hg : GO w Bk v g) (hk : k < g.length) (hs : GStep w Bk v g w' g') (hf : FiltR w w' g g' k m) (hB : Bk <= w.heap.size) : PDG w' Bk U g' := by
 have key : ∀ (j : Nat) (hj : j < g'.length), ∀ x ∈ (g'[j]).vs, ∃ y ∈ (g[j]'(by rw [<- hf.len]; exact hj)).vs, x.u = y.u /\ ((x = y /\ j ≠ k + 1) \/ (j = k + 1 /\ Slc.Own w' w.heap.size 3 1 encI x.q.val x.n.par)) := by
  intro j hj x hx;have hj' : j < g.length := by rw [<- hf.len]; exact hj
  by_cases e1 : j = k + 1
  ·subst e1;obtain ⟨h1, h2⟩ := hf.nx hj' hj;obtain ⟨r, hr, rfl⟩ := List.getElem_of_mem hx;have hr' : r < (g[k + 1]).vs.length := by rw [<- h1]; exact hr
   have u1 := h2.u r hr';have o1 := h2.own r hr';rw [getElem!_pos _ r hr, getElem!_pos _ r hr'] at u1;rw [getElem!_pos _ r hr] at o1;exact ⟨_, zM hr', u1, .inr ⟨rfl, o1⟩⟩
  ·by_cases e2 : j = k
   ·subst e2;rw [hf.mid hj' hj] at hx;exact ⟨x, (keepT_sub _ _).subset hx, rfl, .inl ⟨rfl, e1⟩⟩
   ·rw [hf.lo j hj' hj e2 e1] at hx;exact ⟨x, hx, rfl, .inl ⟨rfl, e1⟩⟩
 have hgl : ∀ {j : Nat} (hj : j < g'.length), j < g.length := fun hj => by rw [<- hf.len]; exact hj
 have hlt : ∀ L ∈ g, ∀ y ∈ L.vs, ∀ q, y.q.val.ownBlock = some q -> q < w.heap.size := fun L hL y hy q hq => ((h.own L hL y hy).lt q hq).2
 refine ⟨fun L hL x hx => ?_, fun L hL => ?_, fun i j hi hj hij x hx y hy => ?_, fun L hL x hx L' hL' y hy q hq => ?_, fun L hL x hx q hq => ?_⟩
 ·obtain ⟨j, hj, rfl⟩ := List.getElem_of_mem hL;obtain ⟨y, hy, -, ⟨rfl, -⟩ | ⟨-, ho⟩⟩ := key j hj x hx
  ·have ho := h.own _ (zM (hgl hj)) x hy;refine ho.keep fun q hq hql => hs.fr.block q hql fun hn => ?_
   rcases hn with hn | ⟨L0, h0, hn⟩
   ·exact own_type ho hg.own (by decide) q hq hn
   ·exact own_type ho (hg.lv L0 h0) (by decide) q hq hn
  ·exact ho.mono hB
 ·obtain ⟨j, hj, rfl⟩ := List.getElem_of_mem hL;by_cases e1 : j = k + 1
  ·subst e1;obtain ⟨h1, h2⟩ := hf.nx (hgl hj) hj;refine List.pairwise_iff_getElem.2 fun a b ha hb hab => ?_
   have := h2.ap a b hab (by rw [<- h1]; exact hb);rwa [getElem!_pos _ a ha, getElem!_pos _ b hb] at this
  ·by_cases e2 : j = k
   ·subst e2;rw [hf.mid (hgl hj) hj];exact (h.ap _ (zM (hgl hj))).sublist (keepT_sub _ _)
   ·rw [hf.lo j (hgl hj) hj e2 e1];exact h.ap _ (zM (hgl hj))
 ·obtain ⟨x', hx', -, hxx⟩ := key i hi x hx;obtain ⟨y', hy', -, hyy⟩ := key j hj y hy;rcases hxx with ⟨rfl, -⟩ | ⟨ei, ho⟩ <;> rcases hyy with ⟨rfl, -⟩ | ⟨ej, ho'⟩
  ·exact h.ab i j (hgl hi) (hgl hj) hij x hx' y hy'
  ·intro q hq hq';have := hlt _ (zM (hgl hi)) x hx' q hq;have := (ho'.lt q hq').1;omega
  ·intro q hq hq';have := hlt _ (zM (hgl hj)) y hy' q hq';have := (ho.lt q hq).1;omega
  ·omega
 ·obtain ⟨i, hi, rfl⟩ := List.getElem_of_mem hL;obtain ⟨j, hj, rfl⟩ := List.getElem_of_mem hL';obtain ⟨x', hx', -, hxx⟩ := key i hi x hx;obtain ⟨y', hy', hu, -⟩ := key j hj y hy;rw [hu];rcases hxx with ⟨rfl, -⟩ | ⟨-, ho⟩
  ·exact h.ex _ (zM (hgl hi)) x hx' _ (zM (hgl hj)) y' hy' q hq
  ·intro hq';have h1 := (ho.lt q hq).1;have h2 := (hg.nm _ (zM (hgl hj)) y' hy').1.1.lt q hq';omega
 ·obtain ⟨i, hi, rfl⟩ := List.getElem_of_mem hL;obtain ⟨x', hx', hu, -⟩ := key i hi x hx;rw [hu] at hq;exact h.ul _ (zM (hgl hi)) x' hx' q hq
theorem VtIn.keep2 {w w' : World} {S : Nat -> Prop} {x : Vt} (h : VtIn w S x) (hs : w.heap.size <= w'.heap.size) (hb : ∀ k, k < w.heap.size -> (x.u.val.ownBlock = some k \/ x.q.val.ownBlock = some k) -> w'.heap[k]? = w.heap[k]?) : VtIn w' S x := by
 obtain ⟨h1, h2, h3⟩ := h;have u1 : RdIn w (fun k => x.u.val.ownBlock = some k) encS x.u.val x.n.ex := ⟨h1.1, fun k hk => hk⟩;have u2 := u1.keep hs fun k hk hlt => hb k hlt (.inl hk)
 refine ⟨⟨u2.1, h1.2⟩, ?_, h3⟩;rcases h2 with h2 | h2
 ·exact .inl h2
 ·have q1 : RdIn w (fun k => x.q.val.ownBlock = some k) encI x.q.val x.n.par := ⟨h2.1, fun k hk => hk⟩;have q2 := q1.keep hs fun k hk hlt => hb k hlt (.inr hk)
  exact .inr ⟨q2.1, h2.2⟩
theorem GO.setQ2 {w0 w : World} {Bk U : Nat} {v : Value} {g : List Lv} (h : GO w0 Bk v g) (hd : PDG w0 Bk U g) (i : Nat) (hi : i < g.length) (j : Nat) (hj : j < (g[i]).vs.length) (hsz : w0.heap.size <= w.heap.size)
  (hk : ∀ k, k < w0.heap.size -> (GB v g k \/ ∃ L ∈ g, ∃ x ∈ L.vs, x.u.val.ownBlock = some k \/ x.q.val.ownBlock = some k) -> ((g[i]).vs[j]).q.val.ownBlock ≠ some k -> w.heap[k]? = w0.heap[k]?)
  (q' : Sl) (p' : List Int) (hq : Slc.Own w Bk 3 1 encI q'.val p') (hb : ∀ k, q'.val.ownBlock = some k -> ((g[i]).vs[j]).q.val.ownBlock = some k \/ w0.heap.size <= k) (hok : Vx.Ok ⟨((g[i]).vs[j]).n.pol, ((g[i]).vs[j]).n.ex, p'⟩) :
  ∃ nb cap, (g[i]).s.val = .slice (some ⟨nb, 0, none⟩) (g[i]).vs.length cap /\ (∀ r, w.frozen? ⟨nb, r, none⟩ = false) /\ w.cell? ⟨nb, j * 3 + 2, none⟩ = some ((g[i]).vs[j]).q.val /\
   GO (w.setCell ⟨nb, j * 3 + 2, none⟩ q'.val) Bk v (g.set i ⟨(g[i]).vs.set j ⟨⟨((g[i]).vs[j]).n.pol, ((g[i]).vs[j]).n.ex, p'⟩, ((g[i]).vs[j]).u, q'⟩, (g[i]).s⟩) /\
   PDG (w.setCell ⟨nb, j * 3 + 2, none⟩ q'.val) Bk U (g.set i ⟨(g[i]).vs.set j ⟨⟨((g[i]).vs[j]).n.pol, ((g[i]).vs[j]).n.ex, p'⟩, ((g[i]).vs[j]).u, q'⟩, (g[i]).s⟩) /\ w.grownBy (w.setCell ⟨nb, j * 3 + 2, none⟩ q'.val) (some nb) /\ GB v g nb := by
 have hmem := zM hi;have hvmem := zM hj;have hox := hd.own _ hmem _ hvmem
 have hGB : ∀ k, GB v g k -> ((g[i]).vs[j]).q.val.ownBlock ≠ some k := fun k hn e => by
  rcases hn with hn | ⟨L, hL, hn⟩
  ·exact own_type hox h.own (by decide) k e hn
  ·exact own_type hox (h.lv L hL) (by decide) k e hn
 have hgb : ∀ k, GB v g k -> k < w0.heap.size -> w.heap[k]? = w0.heap[k]? := fun k hn hkl => hk k hkl (.inl hn) (hGB k hn)
 have hown : Slc.Own w Bk 63 1 encL v g := h.own.keep fun k hkb hkl => hgb k (.inl hkb) hkl
 have hlv : ∀ L ∈ g, Slc.Own w Bk 65 3 encV L.s.val L.vs := fun L hL => (h.lv L hL).keep fun k hkb hkl => hgb k (.inr ⟨L, hL, hkb⟩) hkl
 obtain ⟨x, hx⟩ : ∃ x, x = (g[i]).vs[j] := ⟨_, rfl⟩
 rw [<- hx] at hox hGB hk hb hok |-;obtain ⟨x', hx'⟩ : ∃ x' : Vt, x' = ⟨⟨x.n.pol, x.n.ex, p'⟩, x.u, q'⟩ := ⟨_, rfl⟩
 have hxn : x'.q = q' /\ x'.u = x.u /\ x'.n = ⟨x.n.pol, x.n.ex, p'⟩ := by rw [hx']; exact ⟨rfl, rfl, rfl⟩
 rw [<- hx'];have henc : encV x' = (encV (g[i]).vs[j]).set 2 q'.val := by rw [<- hx, hx']; rfl
 have hcell : ∀ nb cap, (g[i]).s.val = .slice (some ⟨nb, 0, none⟩) (g[i]).vs.length cap -> w.cell? ⟨nb, j * 3 + 2, none⟩ = some x.q.val := fun nb cap hv => by
  have h1 := hlv _ hmem;rw [hv] at h1;exact h1.cell encV_ok j hj 2 (by omega) _ (by rw [<- hx]; rfl)
 obtain ⟨nb, cap, hv, hB, hlt, hfr, hown2, hgr2⟩ := (hlv _ hmem).set1 encV_ok j 2 hj (by omega) q'.val x' henc;have hnb : (g[i]).s.val.ownBlock = some nb := by rw [hv]; rfl
 have hGBn : GB v g nb := .inr ⟨_, hmem, hnb⟩
 -- the others
 have hoth : ∀ (a b : Nat) (ha : a < g.length) (hb' : b < (g[a]).vs.length), (a ≠ i \/ b ≠ j) -> ∀ k, x.q.val.ownBlock = some k -> ((g[a]).vs[b]).q.val.ownBlock ≠ some k := fun a b ha hb' hne k e => by
  by_cases ea : a = i
  ·subst ea;have hbj : b ≠ j := by rcases hne with q | q <;> simp_all
   have h2 := List.pairwise_iff_getElem.1 (hd.ap _ hmem);rw [hx] at e;rcases Nat.lt_or_gt_of_ne hbj with q | q
   ·exact fun e2 => h2 b j hb' hj q k e2 e
   ·exact h2 j b hj hb' q k e
  ·exact hd.ab i a hi ha (fun e => ea e.symm) x (by rw [hx]; exact hvmem) _ (zM hb') k e
 have hkx : ∀ (a b : Nat) (ha : a < g.length) (hb' : b < (g[a]).vs.length), (a ≠ i \/ b ≠ j) -> ∀ k, k < w0.heap.size -> (((g[a]).vs[b]).u.val.ownBlock = some k \/ ((g[a]).vs[b]).q.val.ownBlock = some k) -> w.heap[k]? = w0.heap[k]? := fun a b ha hb' hne k hkl hk' =>
  hk k hkl (.inr ⟨_, zM ha, _, zM hb', hk'⟩) fun e => by
   rcases hk' with q | q
   ·exact hd.ex _ hmem x (by rw [hx]; exact hvmem) _ (zM ha) _ (zM hb') k e q
   ·exact hoth a b ha hb' hne k e q
 have hstep : ∀ y, VtIn w (fun k => ¬ GB v g k) y -> VtIn (w.setCell ⟨nb, j * 3 + 2, none⟩ q'.val) (fun k => ¬ GB v (g.set i ⟨(g[i]).vs.set j x', (g[i]).s⟩) k) y := fun y hy =>
  (hy.keep hgr2.size fun k hkk hkl => hgr2.block k hkl (by simp only [ne_eq, zO]; rintro rfl; exact hkk hGBn)).mono fun k _ hkk hn => hkk ((GB.same hi _).1 hn)
 have hxv : VtIn w (fun k => ¬ GB v g k) x' := by
  have h1 := h.nm _ hmem x (by rw [hx]; exact hvmem);have u1 : RdIn w0 (fun k => x.u.val.ownBlock = some k) encS x.u.val x.n.ex := ⟨h1.1.1, fun k hk => hk⟩;have u2 := u1.keep (w' := w) hsz fun k hkk hlt' => hk k hlt' (.inr ⟨_, hmem, x, (by rw [hx]; exact hvmem), .inl hkk⟩) fun e => hd.ex _ hmem x (by rw [hx]; exact hvmem) _ hmem x (by rw [hx]; exact hvmem) k e hkk
  refine ⟨?_, ?_, ?_⟩
  ·rw [hxn.2.1, hxn.2.2]; exact ⟨u2.1, h1.1.2⟩
  ·rw [hxn.1, hxn.2.2]
   exact .inr ⟨hq.rd, fun k hkk hn => by
    rcases hb k hkk with q | q
    ·exact hGB k hn q
    ·have := (h.lt hn).2; omega⟩
  ·rw [hxn.2.2]; exact hok
 have hcase : ∀ (a : Nat) (ha : a < g.length) (y : Vt), y ∈ ((g.set i ⟨(g[i]).vs.set j x', (g[i]).s⟩)[a]'(by simpa using ha)).vs -> (y = x' /\ a = i) \/ ∃ b, ∃ hb' : b < (g[a]).vs.length, y = (g[a]).vs[b] /\ (a ≠ i \/ b ≠ j) := by
  intro a ha y hy;rw [List.getElem_set] at hy;by_cases e : i = a
  ·subst e;rw [if_pos rfl] at hy;obtain ⟨b, hb', rfl⟩ := List.getElem_of_mem hy;rw [List.getElem_set];by_cases e2 : j = b
   ·rw [if_pos e2]; exact .inl ⟨rfl, rfl⟩
   ·rw [if_neg e2];exact .inr ⟨b, by simpa using hb', rfl, .inr fun q => e2 q.symm⟩
  ·rw [if_neg e] at hy;obtain ⟨b, hb', rfl⟩ := List.getElem_of_mem hy;exact .inr ⟨b, hb', rfl, .inl fun q => e q.symm⟩
 have hxo : ∀ (a b : Nat) (ha : a < g.length) (hb' : b < (g[a]).vs.length), (a ≠ i \/ b ≠ j) -> QA x' (g[a]).vs[b] := fun a b ha hb' hne k h1 h2 => by
  rw [hxn.1] at h1;rcases hb k h1 with q | q
  ·exact hoth a b ha hb' hne k q h2
  ·have := ((hd.own _ (zM ha) _ (zM hb')).lt k h2).2; omega
 refine ⟨nb, cap, hv, hfr, hcell nb cap hv, ⟨?_, fun L hL' => ?_, ?_, ?_, ?_⟩, ⟨fun L hL' y hy => ?_, fun L hL' => ?_, fun a b ha hb' hab y hy z hz => ?_, fun L hL' y hy L2 hL2 z hz k e => ?_, fun L hL' y hy k e => ?_⟩, hgr2, hGBn⟩
 ·have h1 := hown.keep (w' := w.setCell ⟨nb, j * 3 + 2, none⟩ q'.val) fun k hkk hkl => hgr2.block k hkl (by simp only [ne_eq, zO]; rintro rfl; exact h.ao _ hmem k hnb hkk)
  have e : (g.set i ⟨(g[i]).vs.set j x', (g[i]).s⟩).flatMap encL = g.flatMap encL := by
   have := flat_set encL_ok (⟨(g[i]).vs.set j x', (g[i]).s⟩ : Lv) (g[i]).s.val 0 (by omega) g i hi rfl;rw [this, Nat.mul_one, Nat.add_zero];apply List.ext_getElem?
   intro q;rw [List.getElem?_set];by_cases eq : i = q
   ·subst eq;have hl : i < (g.flatMap encL).length := (by rw [flat_len encL_ok]; omega);rw [if_pos rfl, if_pos hl];have := flat_at encL_ok g i 0 hi (by omega);rw [Nat.mul_one, Nat.add_zero] at this;rw [this]; rfl
   ·rw [if_neg eq]
  unfold Slc.Own at h1 |-;rw [zL, e]; exact h1
 ·obtain ⟨q, hq', rfl⟩ := List.getElem_of_mem hL';rw [zL] at hq';rw [List.getElem_set];by_cases e : i = q
  ·subst e; rw [if_pos rfl]; exact hown2
  ·rw [if_neg e];exact (hlv _ (zM hq')).keep fun k hkk hkl => hgr2.block k hkl (by simp only [ne_eq, zO]; rintro rfl; exact h.ap i q hi hq' e k hnb hkk)
 ·intro a b ha hb' hab k hkk;rw [zL] at ha hb'
  have e1 : ∀ (q : Nat) (hq : q < g.length), ((g.set i ⟨(g[i]).vs.set j x', (g[i]).s⟩)[q]'(by simpa using hq)).s = (g[q]).s := by
   intro q hq;rw [List.getElem_set];split
   ·rename_i e; subst e; rfl
   ·rfl
  rw [e1 a ha] at hkk;rw [e1 b hb'];exact h.ap a b ha hb' hab k hkk
 ·intro L hL' k hkk;rcases List.mem_or_eq_of_mem_set hL' with q | rfl
  ·exact h.ao L q k hkk
  ·exact h.ao _ hmem k hkk
 ·intro L hL' y hy;apply hstep
  obtain ⟨a, ha, rfl⟩ := List.getElem_of_mem hL';rw [zL] at ha;rw [List.getElem_set] at hy;by_cases e : i = a
  ·rw [if_pos e] at hy;obtain ⟨b, hb', rfl⟩ := List.getElem_of_mem hy;rw [List.getElem_set];by_cases e2 : j = b
   ·rw [if_pos e2]; exact hxv
   ·rw [if_neg e2];have hb2 : b < (g[i]).vs.length := (by simpa using hb');exact (h.nm _ hmem _ (zM hb2)).keep2 hsz fun k hkl hk' => hkx i b hi hb2 (.inr fun q => e2 q.symm) k hkl hk'
  ·rw [if_neg e] at hy;obtain ⟨b, hb', rfl⟩ := List.getElem_of_mem hy;exact (h.nm _ (zM ha) _ (zM hb')).keep2 hsz fun k hkl hk' => hkx a b ha hb' (.inl fun q => e q.symm) k hkl hk'
 ·obtain ⟨a, ha, rfl⟩ := List.getElem_of_mem hL';rw [zL] at ha;have hset : ∀ {l : List Int} {z : Value}, Slc.Own w Bk 3 1 encI z l -> Slc.Own (w.setCell ⟨nb, j * 3 + 2, none⟩ q'.val) Bk 3 1 encI z l := fun {l z} ho => ho.keep fun k hkk hkl => hgr2.block k hkl (by simp only [ne_eq, zO]; rintro rfl; exact own_type ho (hlv _ hmem) (by decide) k hkk hnb)
  rcases hcase a ha y hy with ⟨rfl, -⟩ | ⟨b, hb', rfl, hne⟩
  ·rw [hxn.1, hxn.2.2]; exact hset hq
  ·exact hset ((hd.own _ (zM ha) _ (zM hb')).keep fun k hkk hkl => hkx a b ha hb' hne k hkl (.inr hkk))
 ·obtain ⟨a, ha, rfl⟩ := List.getElem_of_mem hL';rw [zL] at ha;rw [List.getElem_set];by_cases e : i = a
  ·rw [if_pos e];have h2 := List.pairwise_iff_getElem.1 (hd.ap _ hmem);refine List.pairwise_iff_getElem.2 fun r1 r2 h1 h3 hlt' => ?_
   have h1' : r1 < (g[i]).vs.length := by simpa using h1
   have h3' : r2 < (g[i]).vs.length := by simpa using h3
   rw [List.getElem_set, List.getElem_set];by_cases e1 : j = r1
   ·rw [if_pos e1, if_neg (by omega)];exact hxo i r2 hi h3' (.inr (by omega))
   ·rw [if_neg e1];by_cases e2 : j = r2
    ·rw [if_pos e2];exact QA.symm (hxo i r1 hi h1' (.inr (by omega)))
    ·rw [if_neg e2]; exact h2 r1 r2 h1' h3' hlt'
  ·rw [if_neg e]; exact hd.ap _ (zM ha)
 ·have ha1 : a < g.length := by simpa using ha
  have hb1 : b < g.length := by simpa using hb'
  rcases hcase a ha1 y hy with ⟨ey, ea⟩ | ⟨r, hr, ey, -⟩
  ·rcases hcase b hb1 z hz with ⟨ez, eb⟩ | ⟨r', hr', ez, hne'⟩
   ·omega
   ·rw [ey, ez]; exact hxo b r' hb1 hr' hne'
  ·rcases hcase b hb1 z hz with ⟨ez, eb⟩ | ⟨r', hr', ez, hne'⟩
   ·rw [ey, ez]; exact QA.symm (hxo a r ha1 hr (.inl (by omega)))
   ·rw [ey, ez]; exact hd.ab a b ha1 hb1 hab _ (zM hr) _ (zM hr')
 ·obtain ⟨a, ha, rfl⟩ := List.getElem_of_mem hL';obtain ⟨b, hb', rfl⟩ := List.getElem_of_mem hL2;rw [zL] at ha hb';have hxm : x ∈ (g[i]).vs := by rw [hx]; exact hvmem
  have key : ∀ (b : Nat) (hb' : b < g.length) (z0 : Vt), z0 ∈ (g[b]).vs -> y.q.val.ownBlock = some k -> z0.u.val.ownBlock ≠ some k := by
   intro b hb' z0 hz0 e;rcases hcase a ha y hy with ⟨ey, ea⟩ | ⟨r, hr, ey, -⟩
   ·rw [ey, hxn.1] at e;rcases hb k e with q | q
    ·exact hd.ex _ hmem x hxm _ (zM hb') z0 hz0 k q
    ·intro e2;have := (h.nm _ (zM hb') z0 hz0).1.1.lt k e2;omega
   ·rw [ey] at e;exact hd.ex _ (zM ha) _ (zM hr) _ (zM hb') z0 hz0 k e
  rcases hcase b hb' z hz with ⟨ez, -⟩ | ⟨r', hr', ez, -⟩
  ·rw [ez, hxn.2.1]; exact key i hi x hxm e
  ·rw [ez]; exact key b hb' _ (zM hr') e
 ·obtain ⟨a, ha, rfl⟩ := List.getElem_of_mem hL';rw [zL] at ha;have hxm : x ∈ (g[i]).vs := by rw [hx]; exact hvmem
  rcases hcase a ha y hy with ⟨ey, -⟩ | ⟨r, hr, ey, -⟩
  ·rw [ey, hxn.2.1] at e; exact hd.ul _ hmem x hxm k e
  ·rw [ey] at e; exact hd.ul _ (zM ha) _ (zM hr) k e
theorem GO.setQ {w0 w : World} {Bk U : Nat} {v : Value} {g : List Lv} (h : GO w0 Bk v g) (hd : PDG w0 Bk U g) (i : Nat) (hi : i < g.length) (j : Nat) (hj : j < (g[i]).vs.length) (hsz : w0.heap.size <= w.heap.size)
  (hk : ∀ k, k < w0.heap.size -> (GB v g k \/ ∃ L ∈ g, ∃ x ∈ L.vs, x.u.val.ownBlock = some k \/ x.q.val.ownBlock = some k) -> ((g[i]).vs[j]).q.val.ownBlock ≠ some k -> w.heap[k]? = w0.heap[k]?)
  (q' : Sl) (p' : List Int) (hq : Slc.Own w Bk 3 1 encI q'.val p') (hb : q'.val.ownBlock = ((g[i]).vs[j]).q.val.ownBlock) (hok : Vx.Ok ⟨((g[i]).vs[j]).n.pol, ((g[i]).vs[j]).n.ex, p'⟩) :
  ∃ nb cap, (g[i]).s.val = .slice (some ⟨nb, 0, none⟩) (g[i]).vs.length cap /\ (∀ r, w.frozen? ⟨nb, r, none⟩ = false) /\ w.cell? ⟨nb, j * 3 + 2, none⟩ = some ((g[i]).vs[j]).q.val /\
   GO (w.setCell ⟨nb, j * 3 + 2, none⟩ q'.val) Bk v (g.set i ⟨(g[i]).vs.set j ⟨⟨((g[i]).vs[j]).n.pol, ((g[i]).vs[j]).n.ex, p'⟩, ((g[i]).vs[j]).u, q'⟩, (g[i]).s⟩) /\
   PDG (w.setCell ⟨nb, j * 3 + 2, none⟩ q'.val) Bk U (g.set i ⟨(g[i]).vs.set j ⟨⟨((g[i]).vs[j]).n.pol, ((g[i]).vs[j]).n.ex, p'⟩, ((g[i]).vs[j]).u, q'⟩, (g[i]).s⟩) /\ w.grownBy (w.setCell ⟨nb, j * 3 + 2, none⟩ q'.val) (some nb) /\ GB v g nb :=
 h.setQ2 hd i hi j hj hsz hk q' p' hq (fun k hk => .inl (hb ▸ hk)) hok
structure WS (W : World) (Bk U Z : Nat) (v : Value) (g : List Lv) : Prop where
 go : GO W Bk v g
 pd : PDG W Bk U g
 uz : U <= Z
 gz : ∀ k, GB v g k -> k < Z
 qz : ∀ L ∈ g, ∀ x ∈ L.vs, ∀ k, x.q.val.ownBlock = some k -> k < Z
section
variable {W w' : World} {Bk U Z : Nat} {v : Value} {g : List Lv}
theorem WS.made (h : GO W Bk v g) (hd : PDG W Bk U g) (hU : U <= W.heap.size) : WS W Bk U W.heap.size v g :=
 ⟨h, hd, hU, fun k hk => (h.lt hk).2, fun L hL x hx k hk => ((hd.own L hL x hx).lt k hk).2⟩
theorem WS.keep (h : WS W Bk U Z v g) (hs : W.heap.size <= w'.heap.size) (hb : ∀ k, k < Z -> k < W.heap.size -> (GB v g k \/ ∃ L ∈ g, ∃ x ∈ L.vs, x.u.val.ownBlock = some k \/ x.q.val.ownBlock = some k) -> w'.heap[k]? = W.heap[k]?) : WS w' Bk U Z v g :=
 ⟨h.go.keep hs fun k hk hn => hb k (by
   rcases hn with q | ⟨L, hL, x, hx, q | q⟩
   ·exact h.gz k q
   ·exact Nat.lt_of_lt_of_le (h.pd.ul L hL x hx k q) h.uz
   ·exact h.qz L hL x hx k q) hk hn,
  h.pd.keep fun L hL x hx k hk hkl => hb k (h.qz L hL x hx k hk) hkl (.inr ⟨L, hL, x, hx, .inr hk⟩), h.uz, h.gz, h.qz⟩
theorem WS.below (h : WS W Bk U Z v g) (hb : Below W.heap.size W w') : WS w' Bk U Z v g := h.keep hb.size fun k _ hk _ => hb.block k hk
theorem WS.other (h : WS W Bk U Z v g) {z : Nat} (hg : W.grownBy w' (some z)) (hz : Z <= z) : WS w' Bk U Z v g := h.keep hg.size fun k hkz hk _ => hg.block k hk (by simp only [ne_eq, zO]; omega)
theorem ownF_obj {n b : Nat} {f : B -> Option Bool} (h : OwnF W kS rdB edB b n f) : ∃ es c, W.heap[b]? = some (.map es c) := by
 obtain ⟨D, ⟨es, clock, hh, r⟩, hm⟩ := h;exact ⟨es, clock, hh⟩
theorem own_cellsQ {α : Type} {z : Nat} {t : TypeId} {enc : α -> List Value} {u : Value} {l : List α} (h : Slc.Own W Bk t z enc u l) (k : Nat) (hk : u.ownBlock = some k) : ∃ cur, W.heap[k]? = some (.cells cur t (0, 0)) := by
 rcases h.2 with ⟨rfl, -⟩ | ⟨g', cap', cur', rfl, -, hb, -⟩
 ·cases hk
 ·simp only [Value.ownBlock, zO] at hk
  subst hk;exact ⟨_, hb⟩
theorem WS.nomap (h : WS W Bk U Z v g) {b : Nat} (hU : U <= b) {es : Array MapEntry} {c : Nat} (hm : W.heap[b]? = some (.map es c)) : ¬ (GB v g b \/ ∃ L ∈ g, ∃ x ∈ L.vs, x.u.val.ownBlock = some b \/ x.q.val.ownBlock = some b) := by
 rintro (hn | ⟨L, hL, x, hx, hn | hn⟩)
 ·rcases hn with hn | ⟨L, hL, hn⟩
  ·obtain ⟨cur, hc⟩ := own_cellsQ h.go.own b hn;rw [hm] at hc; cases hc
  ·obtain ⟨cur, hc⟩ := own_cellsQ (h.go.lv L hL) b hn;rw [hm] at hc; cases hc
 ·have := h.pd.ul L hL x hx b hn; omega
 ·obtain ⟨cur, hc⟩ := own_cellsQ (h.pd.own L hL x hx) b hn;rw [hm] at hc; cases hc
end
end Go.Proofs.YtmagjdocondmhaaGreat.Tr.Gr
