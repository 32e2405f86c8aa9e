/- packed -/
import Derived.Test.YtmagjdocondmhaaGreatPkAn16
set_option linter.unusedVariables false
set_option linter.unusedSimpArgs false
set_option maxRecDepth 100000
set_option maxHeartbeats 64000000
namespace Go.Proofs.YtmagjdocondmhaaGreat.Tr.Gr
open Go Go.RowKit Slc St Mp Tr Rg
attribute [local go_sem] Oper.semAt_some
def MaF (v lv sv pv : Value) (n gb i sb so : Nat) : Nat -> Value -> World -> Prop
 | 0, x, _ => x = v
 | 1, x, _ => x = .int .i64 n
 | 2, x, _ => x = .pointer (some ⟨gb, n, none⟩)
 | 3, x, _ => x = .pointer (some ⟨gb, n, none⟩)
 | 4, x, _ => x = lv
 | 5, x, _ => x = sv
 | 6, x, _ => x = .int .i64 i
 | 7, x, _ => x = .pointer (some ⟨sb, so + i, none⟩)
 | 8, x, _ => x = pv
 | _, _, _ => True
theorem MaF.stable (v lv sv pv : Value) (n gb i sb so : Nat) (j : Nat) (x : Value) (w w' : World) (h : MaF v lv sv pv n gb i sb so j x w) (hb : Below w.heap.size w w') : MaF v lv sv pv n gb i sb so j x w' := by
 match j with
 | 0 | 1 | 2 | 3 | 4 | 5 | 6 | 7 | 8 => exact h
 | _ + 9 => exact trivial
def MbF (W0 : World) (v lv sv pv mv : Value) (n gb i sb so k lb : Nat) (sub : List B) (u : Unit) : Nat -> Value -> World -> Prop
 | 0, x, _ => x = v
 | 1, x, _ => x = .int .i64 n
 | 2, x, _ => x = .pointer (some ⟨gb, n, none⟩)
 | 3, x, _ => x = .pointer (some ⟨gb, n, none⟩)
 | 4, x, _ => x = lv
 | 5, x, _ => x = .int .i64 k
 | 6, x, _ => x = mv
 | 7, x, _ => x = sv
 | 8, x, _ => x = .int .i64 i
 | 9, x, _ => x = .pointer (some ⟨sb, so + i, none⟩)
 | 10, x, _ => x = pv
 | 11, x, w => ∃ s : Sl, x = .slice s.ad s.n s.c /\ Slc.Own w W0.heap.size 9 1 encS s.val sub
 | 12, x, _ => x = .pointer (some ⟨lb, k * 3, none⟩)
 | 13, x, _ => x = .pointer (some ⟨lb, k * 3 + 1, none⟩)
 | _, _, _ => True
theorem MbF.stable (W0 : World) (v lv sv pv mv : Value) (n gb i sb so k lb : Nat) (sub : List B) (u : Unit) (j : Nat) (x : Value) (w w' : World) (h : MbF W0 v lv sv pv mv n gb i sb so k lb sub u j x w) (hb : Below w.heap.size w w') : MbF W0 v lv sv pv mv n gb i sb so k lb sub u j x w' := by
 match j with
 | 0 | 1 | 2 | 3 | 4 | 5 | 6 | 7 | 8 | 9 | 10 | 12 | 13 => exact h
 | 11 => obtain ⟨s, h1, h2⟩ := h; exact ⟨s, h1, h2.below hb⟩
 | _ + 14 => exact trivial
def McF (W0 : World) (v lv sv pv mv av : Value) (n n0 gb i sb so : Nat) (A : Int) (vs : List Vt) (nn : Vx) (u : Unit) (u' : Unit) : Nat -> Value -> World -> Prop
 | 0, x, _ => x = v
 | 1, x, _ => x = .int .i64 n
 | 2, x, _ => x = v
 | 3, x, _ => x = .int .i64 n
 | 4, x, _ => x = .pointer (some ⟨gb, n, none⟩)
 | 5, x, _ => x = .pointer (some ⟨gb, n, none⟩)
 | 6, x, _ => x = lv
 | 7, x, _ => x = sv
 | 8, x, _ => x = .int .i64 i
 | 9, x, _ => x = .pointer (some ⟨sb, so + i, none⟩)
 | 10, x, _ => x = pv
 | 11, x, _ => x = mv
 | 12, x, _ => x = sv
 | 13, x, _ => x = .int .i64 i
 | 14, x, _ => x = .pointer (some ⟨sb, so + i, none⟩)
 | 15, x, _ => x = pv
 | 16, x, w => ∃ s : Sl, x = .slice s.ad s.n s.c /\ Slc.Own w W0.heap.size 9 1 encS s.val nn.ex
 | 17, x, _ => x = v
 | 18, x, _ => x = .int .i64 n
 | 19, x, _ => x = .int .i64 n0
 | 20, x, _ => x = .pointer (some ⟨gb, n0, none⟩)
 | 21, x, _ => x = .pointer (some ⟨gb, n0, none⟩)
 | 22, x, _ => x = av
 | 23, x, _ => x = .int .i64 A
 | 24, x, w => ∃ s : Sl, x = .slice s.ad s.n s.c /\ Slc.Own w W0.heap.size 3 1 encI s.val [A]
 | 25, x, w => ∃ s q : Sl, x = .agg #[pv, .slice s.ad s.n s.c, .slice q.ad q.n q.c] /\ Slc.Own w W0.heap.size 9 1 encS s.val nn.ex /\ Slc.Own w W0.heap.size 3 1 encI q.val [A]
 | 26, x, w => ∃ t s q : Sl, x = .slice t.ad t.n t.c /\ Slc.Own w W0.heap.size 65 3 encV t.val (insT vs ⟨nn, s, q⟩) /\ Slc.Own w W0.heap.size 9 1 encS s.val nn.ex /\ Slc.Own w W0.heap.size 3 1 encI q.val nn.par
 | 27, x, _ => x = .pointer (some ⟨gb, n, none⟩)
 | 28, x, _ => x = .pointer (some ⟨gb, n, none⟩)
 | _, _, _ => True
theorem McF.stable (W0 : World) (v lv sv pv mv av : Value) (n n0 gb i sb so : Nat) (A : Int) (vs : List Vt) (nn : Vx) (u : Unit) (u' : Unit) (j : Nat) (x : Value) (w w' : World) (h : McF W0 v lv sv pv mv av n n0 gb i sb so A vs nn u u' j x w) (hb : Below w.heap.size w w') : McF W0 v lv sv pv mv av n n0 gb i sb so A vs nn u u' j x w' := by
 match j with
 | 0 | 1 | 2 | 3 | 4 | 5 | 6 | 7 | 8 | 9 | 10 | 11 | 12 | 13 | 14 | 15 | 17 | 18 | 19 | 20 | 21 | 22 | 23 | 27 | 28 => exact h
 | 16 => obtain ⟨s, h1, h2⟩ := h; exact ⟨s, h1, h2.below hb⟩
 | 24 => obtain ⟨s, h1, h2⟩ := h; exact ⟨s, h1, h2.below hb⟩
 | 25 => obtain ⟨s, q, h1, h2, h3⟩ := h; exact ⟨s, q, h1, h2.below hb, h3.below hb⟩
 | 26 => obtain ⟨t, s, q, h1, h2, h3, h4⟩ := h; exact ⟨t, s, q, h1, h2.below hb, h3.below hb, h4.below hb⟩
 | _ + 29 => exact trivial
theorem rmL_any {ms : List (B × B)} {ok : Bool} {above : Int} : ∀ {ks : List B} {l : List Vx}, anyP ∉ ks -> 0 <= fndP (rmL ms ok above l ks) anyP -> 0 <= fndP l anyP
 | [], _, _, h => h
 | p :: ks, l, ha, h => rmS_any (fun e => ha (e ▸ List.mem_cons_self)) (rmL_any (ks := ks) (l := rmS ms ok above l p) (fun q => ha (List.mem_cons_of_mem _ q)) h)
theorem srcL_few {ms : List (B × B)} (h : ∀ m ∈ ms, m.1.length <= 1000000 /\ m.2.length <= 1000000) : ∀ p ∈ srcL ms, p.length <= 1000000 := fun p hp => by
 unfold srcL at hp;rw [setB_mem] at hp;obtain ⟨m, hm, rfl⟩ := List.mem_map.1 hp;exact (h m (List.mem_filter.1 hm).1).1
theorem rgmap_any (w : World) (v lv : Value) (g : List Lv) (ms : List (B × B)) (h : GQ w v g) (hm : Rd w encP lv ms) (hn : g.length <= 90000) (hln : ∀ L ∈ g, L.vs.length <= 40000) (hml : ms.length <= 40000) (hmx : ∀ m ∈ ms, m.1.length <= 1000000 /\ m.2.length <= 1000000) (ok : Bool) :
  Calls Tryz.prog 27 #[v, lv, .bool ok] w fun e w' => GrN w (gmapP (gxs g) ms ok) e w' := by
 have mixed : Tryz.prog.follows .mixedOrders = true := by kernel_rfl
 have hval := rgvalid_q w v g h (by omega) (fun L hL => by have := hln L hL; omega);obtain ⟨R, hR⟩ : ∃ R, R = gmapP (gxs g) ms ok := ⟨_, rfl⟩
 rw [<- hR];unfold gmapP at hR;obtain ⟨ad, c, rfl, -⟩ := h.rd.form;obtain ⟨ma, mc, rfl, -⟩ := hm.form;have HQ := Bx.mk h;have HM := Bx.mk hm;have HLN := Bx.mk hln;have HMX := Bx.mk hmx;obtain ⟨N, hN⟩ : ∃ N, N = g.length := ⟨_, rfl⟩
 have HN := Bx.mk hN;obtain ⟨MN, hMN⟩ : ∃ N, N = ms.length := ⟨_, rfl⟩
 have HMN := Bx.mk hMN;have HML := Bx.mk hml;obtain ⟨V, hV⟩ : ∃ V, V = gvalidB (gxs g) := ⟨_, rfl⟩
 rw [<- hV] at hval hR;have HV := Bx.mk hV;rw [gxs_len, <- hN] at hR;have HRR := Bx.mk hR;rw [<- hN] at hn hval |-;rw [<- hMN] at hml |-;clear h hm hln hmx hN hMN hV hR;unfold GrN;go_enter Tryz.func27, Tryz.ntmps27;go_wp2_with fail
 go_at_call 16;refine hval.mono ?_;rintro e w1 ⟨rfl, hb1⟩;clear hval
 cases V with
 | false =>
  have HF := Bx.mk (show R = ([], 7) by rw [HRR.out]; rfl);go_wp2_with fail
  go_ret2
  exact ⟨_, [], by rw [HF.out]; rfl, GO.nil _ _, by rw [HF.out]; rfl, hb1, NQ.nil _⟩
 | true =>
 rw [Bool.true_and] at HRR;by_cases hN1 : N = 1
 ·have HF := Bx.mk (show R = ([], 7) by rw [HRR.out, zT hN1]; rfl);subst hN1;go_wp2_with fail
  go_ret2;exact ⟨_, [], by rw [HF.out]; rfl, GO.nil _ _, by rw [HF.out]; rfl, hb1, NQ.nil _⟩
 have t1 : ((N : Int) == 1) = false := by simp; omega
 have t1' : ¬ (N : Int) = 1 := by omega
 have HRR2 := Bx.mk (show R = if N = 0 then ([], 0) else (pruneG ((gxs g).set (N - 1) (gmapL (gxs g) ms ok)), 0) by rw [HRR.out, zF hN1]; rfl);clear HRR;rcases Nat.eq_zero_or_pos N with e | hN0
 ·have HF := Bx.mk (show R = ([], 0) by rw [HRR2.out, if_pos e]);have t5 : ((N : Int) == 0) = true := by simp; omega
  have e' : (N : Int) = 0 := by omega
  go_wp2_with fail
  go_ret2;exact ⟨_, [], by rw [HF.out]; rfl, GO.nil _ _, by rw [HF.out]; rfl, hb1, NQ.nil _⟩
 ·have t5 : ((N : Int) == 0) = false := by simp; omega
  have t5' : ¬ (N : Int) = 0 := by omega
  have HGL := Bx.mk (HQ.out.gl HV.out.symm (fun L hL => by have := HLN.out L hL; omega));obtain ⟨n0, hn0⟩ : ∃ n0, n0 + 2 = N := ⟨N - 2, by omega⟩
  obtain ⟨n1, hn1⟩ : ∃ n1, n1 = n0 + 1 := ⟨_, rfl⟩
  have HN0 := Bx.mk hn0;have HN1 := Bx.mk hn1;have HPR := Bx.mk (show gvalidB (gxs g) = true from HV.out.symm);have HGN := Bx.mk (show (gxs g).length = N by rw [gxs_len, HN.out])
  have HRF := Bx.mk (show R = (pruneG ((gxs g).set n1 (rmL ms ok (fndP (gxs g)[n0]! anyP) (gxs g)[n1]! (srcL ms))), 0) by
   have e := rmL_eq HPR.out (by rw [HGN.out]; omega) ms ok;rw [HGN.out, show N - 2 = n0 by omega, show N - 1 = n1 by omega] at e
   rw [HRR2.out, if_neg (by omega), e, show N - 1 = n1 by omega])
  have HGB := Bx.mk (show ∀ l ∈ gxs g, l.length <= 40000 from fun l hl => by
   obtain ⟨L0, h0, rfl⟩ := List.mem_map.1 hl
   rw [vxs_len]; exact HLN.out L0 h0)
  have HPGK := Bx.mk (show ∀ ks : List B, ks.length <= 40000 -> anyP ∉ ks -> PG ((gxs g).set n1 (rmL ms ok (fndP (gxs g)[n0]! anyP) (gxs g)[n1]! ks)) from fun ks hk ha => by
   rw [HN1.out]
   exact rm_pg HPR.out (by rw [HGN.out]; exact HN0.out) (fun l hl => by have := HGB.out l hl; omega) ms ok (by omega) ha)
  have HOK := Bx.mk (show ∀ ks, OrdP (rmL ms ok (fndP (gxs g)[n0]! anyP) (gxs g)[n1]! ks) from fun ks => rmL_ord ks ((valid_pv HPR.out).ord _))
  have HST := Bx.mk (show 0 <= fndP (gxs g)[n1]! anyP -> 0 <= fndP (gxs g)[n0]! anyP by
   rw [HN1.out]; exact fun q => gvalid_star HPR.out (by rw [HGN.out]; have := HN0.out; omega) q)
  have HLB := Bx.mk (show ∀ k : Nat, ((gxs g)[k]!).length <= 40000 from fun k => by
   by_cases hk : k < (gxs g).length
   ·rw [getElem!_pos (gxs g) k hk]; exact HGB.out _ (zM _)
   ·rw [getElem!_neg (gxs g) k hk]; show 0 <= 40000; omega)
  obtain ⟨G0, hG0⟩ : ∃ G0, G0 = gxs g := ⟨_, rfl⟩
  have HG0 := Bx.mk hG0;rw [<- hG0] at HGN HRF HPGK HOK HST HLB;have hcp := rcopy_ov w1 (.slice ad N c) g (by rw [HN.out]; exact HGL.out.below hb1) (by rw [<- HN.out]; omega) (fun L hL => by have := HLN.out L hL; omega);have wn : IntKind.i64.wrap ((N : Int) - 1) = (n1 : Int) := by rw [IntWalk.i64_in _ (by omega)]; omega
  have HB1 := Bx.mk hb1;clear hN0 hN1 hG0 hb1 hn0 hn1;go_wp2_with fail
  go_at_call 59;refine hcp.mono ?_;rintro e w5 ⟨v5, g5, rfl, hgo, hgx, hb5, hov5⟩;have HNQ5 := Bx.mk (show NQ w.heap.size g5 from (NQ.of_ov hov5).mono HB1.out.size);have HB5 := Bx.mk (HB1.out.trans (hb5.mono HB1.out.size));have HGO5 := Bx.mk (hgo.mono HB1.out.size);have HGX5 := Bx.mk (hgx.trans HG0.out.symm);have HNL5 := Bx.mk (show g5.length = N by rw [gx_len HGX5.out, HGN.out]);have HLT5 := Bx.mk (show ∀ k, GB v5 g5 k -> k < w5.heap.size from fun k hk => (hgo.lt hk).2);obtain ⟨ga, gc, hv5, -⟩ := hgo.own.rd.form;have hv5' : v5 = .slice ga N gc := by rw [hv5, HNL5.out]
  clear hcp hgo hgx hb5 hv5 hov5;have HV5 := Bx.mk hv5';rw [hv5'];have hsrc := sources_any w5 (.slice ma MN mc) ms (by rw [HMN.out]; exact HM.out.below HB5.out) (by have := HML.out; omega);clear hv5';go_wp2_with fail
  go_at_call 66;refine hsrc.mono ?_;rintro e w6 ⟨sv, rfl, hso, hb6⟩;obtain ⟨S, hS⟩ : ∃ S, S = srcL ms := ⟨_, rfl⟩
  have HS := Bx.mk hS;rw [<- hS] at hso HRF;have HSO := Bx.mk hso;have HSL := Bx.mk (show S.length <= 40000 by rw [hS]; have := srcL_len ms; have := HML.out; omega);have HSA := Bx.mk (show anyP ∉ S by rw [hS]; exact srcL_any ms);have HSF := Bx.mk (show ∀ p ∈ S, p.length <= 1000000 by rw [hS]; exact srcL_few HMX.out);obtain ⟨sa, sc, hsv, -⟩ := hso.rd.form;obtain ⟨SN, hSN⟩ : ∃ SN, SN = S.length := ⟨_, rfl⟩
  have HSN := Bx.mk hSN;rw [<- hSN] at hsv;subst hsv;have hSNb : SN <= 40000 := by rw [hSN]; exact HSL.out
  have HB6 := Bx.mk (HB5.out.trans (hb6.mono HB5.out.size));have HS6 := Bx.mk (show GStep w6 w.heap.size v5 g5 w6 g5 from GStep.refl (HGO5.out.below hb6))
  have HF6 := Bx.mk (show ∀ k, GB v5 g5 k -> (Value.slice sa SN sc).ownBlock ≠ some k from fun k hk e => by
   have h1 := HLT5.out k hk;have h2 := (hso.lt k e).1
   omega)
  have HX6 := Bx.mk (show gxs g5 = G0.set n1 (rmL ms ok (fndP G0[n0]! anyP) G0[n1]! (S.take 0)) by
   rw [HGX5.out, List.take_zero]
   show G0 = G0.set n1 G0[n1]!
   exact (set_self_get (by rw [HGN.out]; have := HN0.out; have := HN1.out; omega)).symm)
  have HGO6 := Bx.mk (HGO5.out.below hb6);have hn1N : n1 < N := by have := HN0.out; have := HN1.out; omega
  clear hsrc hso hb6 hS hSN;go_wp2_with fail
  clear wn t1 t1' t5 t5';go_loopw [11] (fun iv wr => ∃ (i : Nat) (g2 : List Lv), i <= SN /\ iv = .int .i64 i /\ Bx (GStep w6 w.heap.size v5 g5 wr g2) /\ Bx (gxs g2 = G0.set n1 (rmL ms ok (fndP G0[n0]! anyP) G0[n1]! (S.take i))) /\ Bx (NQ w.heap.size g2)) (fun iv _ => SN - (intOf iv).toNat)
  case atStart => exact ⟨0, g5, by omega, rfl, HS6, HX6, HNQ5⟩
  case round =>
   clear HS6 HX6 HNQ5;obtain ⟨i, g2, hi, rfl, hS2, hX2, hQ2⟩ := hrel;have HBW := Bx.mk (show Below w.heap.size w wr from HB6.out.trans (hS2.out.bel HGO6.out HB6.out.size));have HNL2 := Bx.mk (show g2.length = N by rw [gx_len hX2.out, zL, HGN.out]);have hgo2 := hS2.out.go;rw [HV5.out] at hgo2;by_cases hlt : i < SN
   ·obtain ⟨l, hl⟩ : ∃ l, l = rmL ms ok (fndP G0[n0]! anyP) G0[n1]! (S.take i) := ⟨_, rfl⟩
    have HL := Bx.mk hl;have HN2 := Bx.mk (show n1 < g2.length by rw [HNL2.out]; exact hn1N);have HN02 := Bx.mk (show n0 < g2.length by rw [HNL2.out]; have := HN1.out; omega)
    have HVX := Bx.mk (show vxs (g2[n1]'HN2.out).vs = l by
     rw [<- gxs_at' g2 n1 HN2.out, hX2.out, hl, set_at2 (by rw [HGN.out]; exact hn1N), if_pos rfl])
    have HVA := Bx.mk (show vxs (g2[n0]'HN02.out).vs = G0[n0]! by
     rw [<- gxs_at' g2 n0 HN02.out, hX2.out, set_at2 (by rw [HGN.out]; exact hn1N), if_neg (by have := HN1.out; omega)])
    have hil : i < S.length := (by rw [<- HSN.out]; exact hlt);have HTK := Bx.mk (show rmL ms ok (fndP G0[n0]! anyP) G0[n1]! (S.take (i + 1)) = rmS ms ok (fndP G0[n0]! anyP) l S[i] by rw [rmL_take hil, hl]);have HTA := Bx.mk (show anyP ∉ S.take i /\ (S.take i).length <= 40000 from ⟨fun q => HSA.out (List.mem_of_mem_take q), by rw [List.length_take]; omega⟩);have HPG2 := Bx.mk (show PG (gxs g2) by rw [hX2.out]; exact HPGK.out _ HTA.out.2 HTA.out.1);have HLO := Bx.mk (show OrdP l by rw [hl]; exact HOK.out _);have HLA := Bx.mk (show 0 <= fndP l anyP -> 0 <= fndP G0[n0]! anyP by rw [hl]; exact fun q => HST.out (rmL_any HTA.out.1 q));have HPM := Bx.mk (HSF.out _ (zM hil));obtain ⟨gb, rfl, l0, hgfr⟩ := hgo2.cellL n1 HN2.out;obtain ⟨gb', heq, l1, -⟩ := hgo2.cellL n0 HN02.out;simp only [zO, Addr.mk.injEq, and_true] at heq
    subst heq;have HSO2 := Bx.mk (HSO.out.keep (w' := wr) fun k hk hkl => hS2.out.fr.block k hkl fun hn => HF6.out k hn hk);obtain ⟨sb, so, rfl, -, c0⟩ := (strs_cells (show Rd wr encS (.slice sa S.length sc) S by have := HSO2.out.rd; rw [HSN.out] at this; exact this)).2 wr (Below.refl _ _) i hil;obtain ⟨p, hp⟩ : ∃ p, p = S[i] := ⟨_, rfl⟩
    rw [<- hp] at c0 HTK HPM;have hvl := (hgo2.gl.lv _ (zM HN2.out));have hva := (hgo2.gl.lv _ (zM HN02.out));obtain ⟨sL, hsL⟩ : ∃ sL, sL = (g2[n1]'HN2.out).s := ⟨_, rfl⟩
    obtain ⟨sA, hsA⟩ : ∃ sA, sA = (g2[n0]'HN02.out).s := ⟨_, rfl⟩
    have HSLV := Bx.mk (show (g2[n1]'HN2.out).s.val = sL.val by rw [hsL]);have HSAV := Bx.mk (show (g2[n0]'HN02.out).s.val = sA.val by rw [hsA]);rw [<- hsL] at l0 hvl;rw [<- hsA] at l1 hva;simp only [Sl.val] at l0 l1 hvl hva
    obtain ⟨vs2, hvs2⟩ : ∃ vs2, vs2 = (g2[n1]'HN2.out).vs := ⟨_, rfl⟩
    obtain ⟨vsA, hvsA⟩ : ∃ vsA, vsA = (g2[n0]'HN02.out).vs := ⟨_, rfl⟩
    have HVS := Bx.mk hvs2;have HVSA := Bx.mk hvsA;have HLL := Bx.mk (pg_len HPG2.out _ (zM HN2.out));have HLLA := Bx.mk (pg_len HPG2.out _ (zM HN02.out));rw [<- hvs2] at hvl HVX HLL;rw [<- hvsA] at hva HVA HLLA;have HVL := Bx.mk hvl;have HVLA := Bx.mk hva
    have HCL := Bx.mk (show ∀ W, Below wr.heap.size wr W -> W.cell? ⟨gb, n1, none⟩ = some (.slice sL.ad sL.n sL.c) /\ W.cell? ⟨gb, n0, none⟩ = some (.slice sA.ad sA.n sA.c) /\ W.cell? ⟨sb, so + i, none⟩ = some (.string (bstr p)) from fun W hW =>
     ⟨(hW.cell (p := ⟨gb, n1, none⟩) (World.block_lt_of_cell? wr _ l0)).trans l0, (hW.cell (p := ⟨gb, n0, none⟩) (World.block_lt_of_cell? wr _ l1)).trans l1, (hW.cell (p := ⟨sb, so + i, none⟩) (World.block_lt_of_cell? wr _ c0)).trans c0⟩)
    have HFR := Bx.mk hgfr;obtain ⟨PB, hPB⟩ : ∃ PB, PB = bstr p := ⟨_, rfl⟩
    have HPB := Bx.mk hPB;rw [<- hPB] at HCL c0;obtain ⟨z, hz⟩ : ∃ z, z = fndP l p := ⟨_, rfl⟩
    have HZ := Bx.mk hz;have HPA := Bx.mk (show p ≠ anyP from fun e => HSA.out (by rw [<- e, hp]; exact zM hil));have hi40 : i <= 40000 := by omega
    have HVT := Bx.mk (show ∀ W, Below wr.heap.size wr W -> ∀ q, Calls Tryz.prog 56 #[.slice sL.ad sL.n sL.c, .string (bstr q)] W fun e w' => e = .returned (.int .i64 (fndP l q)) /\ Below W.heap.size W w' from fun W hW q => by
     have := rvert_any W _ vs2 (HVL.out.q.below hW) HLL.out q;rw [HVX.out] at this
     exact this)
    have HB0 := Bx.mk (Below.refl wr.heap.size wr);clear hl hil hp hsL hsA hvl hva hvs2 hvsA hgfr hPB hz hgo2 l0 l1 c0;go_wp2_with fail
    go_cut [12] (fun s wx => s = .int .i64 z /\ Bx (Below wr.heap.size wr wx))
    case first =>
     refine wp_region_facts 9 (MaF (.slice (some ⟨gb, 0, none⟩) N gc) (.slice sL.ad sL.n sL.c) (.slice (some ⟨sb, so, none⟩) SN sc) (.string PB) n1 gb i sb so) (by kernel_rfl) (by kernel_rfl) (by rfl) (MaF.stable _ _ _ _ _ _ _ _ _) ?_ ?_
     ·intro i' oo hi ho xs w7 hb hd;have hcs : i' = 0 \/ i' = 1 \/ i' = 2 \/ i' = 3 \/ i' = 4 \/ i' = 5 \/ i' = 6 \/ i' = 7 \/ i' = 8 := (by omega);simp only [List.take_succ_cons, List.take_zero, putFrom, Act.put, List.setIfInBounds_toArray, List.set_cons_succ, List.set_cons_zero, Nat.zero_add, Nat.reduceAdd]
      have HB7 := Bx.mk hb;obtain ⟨q0, q1, q2⟩ := HCL.out w7 hb;clear hb;rcases hcs with rfl | rfl | rfl | rfl | rfl | rfl | rfl | rfl | rfl
      all_goals
       simp only [List.getElem?_cons_succ, List.getElem?_cons_zero, zO] at ho
       subst ho;simp [Needs, Region.binds, MaF] at hd
      all_goals clear hi
      all_goals
       go_wp2_with fail
       exact ⟨rfl, rfl, rfl, Below.refl _ _⟩
     ·intro xs w7 hb hf;have f4 := hf 4 (by omega);have f8 := hf 8 (by omega);simp only [MaF] at f4 f8
      have HB7 := Bx.mk hb;have hvt := HVT.out w7 hb p;rw [<- HPB.out, <- HZ.out] at hvt;clear hf hb;simp only [List.take_succ_cons, List.take_zero, List.drop_succ_cons, List.drop_zero, putFrom, Act.put, List.setIfInBounds_toArray, List.set_cons_succ, List.set_cons_zero, Nat.zero_add, Nat.reduceAdd, f4, f8]
      clear f4 f8;go_wp2_with fail
      go_at_call 56;refine hvt.mono ?_;rintro e w8 ⟨rfl, hb8⟩;have HB8 := Bx.mk (HB7.out.trans (hb8.mono HB7.out.size));clear hvt hb8;go_wp2_with fail
      go_meet;exact ⟨rfl, HB8⟩
    case rest =>
     obtain ⟨rfl, hbc⟩ := hcut;obtain ⟨c0, c1, c2⟩ := HCL.out wc hbc.out;have HSC := Bx.mk (show GStep w6 w.heap.size v5 g5 wc g2 from hS2.out.below hbc.out);by_cases hz0 : 0 <= z
     ·have tz : decide (z >= 0) = true := zT hz0;obtain ⟨k, hk⟩ : ∃ k : Nat, z = (k : Int) := ⟨z.toNat, by omega⟩
      subst hk
      have HKL := Bx.mk (show k < vs2.length /\ (l[k]!).pol = p /\ fndP l p = (k : Int) by
       obtain ⟨k', h1, h2, h3, -⟩ := fndP_some (l := l) (p := p) (by rw [<- HZ.out]; exact hz0);have : k' = k := (by have := HZ.out; omega);subst this
       exact ⟨by rw [<- HVX.out, vxs_len] at h1; exact h1, h3, h2⟩)
      clear hz0
      cases ok with
      | true =>
       have HRS := Bx.mk (show rmL ms true (fndP G0[n0]! anyP) G0[n1]! (S.take (i + 1)) = l.set k ⟨(l[k]!).pol, subL ms p, (l[k]!).par⟩ by
        rw [HTK.out];unfold rmS;rw [HKL.out.2.2, if_pos (by omega), Int.toNat_natCast]
        rfl)
       have HSUB := Bx.mk (show ∀ W, Below wc.heap.size wc W -> Calls Tryz.prog 67 #[.slice ma MN mc, .string PB] W fun e w' => ∃ v', e = .returned v' /\ Slc.Own w' W.heap.size 9 1 encS v' (subL ms p) /\ Below W.heap.size W w' from fun W hW => by
        have := subjects_any W (.slice ma ms.length mc) ms p (HM.out.below (HBW.out.trans ((hbc.out.trans (hW.mono hbc.out.size)).mono HBW.out.size))) (by have := HML.out; omega);rw [<- HMN.out, <- HPB.out] at this
        exact this)
       have HB0C := hbc;have hgoc := HSC.out.go;have hlvc := hgoc.lv _ (zM HN2.out);rw [HSLV.out] at hlvc;obtain ⟨lb, cap, hsb, -, -, -, -, -⟩ := hlvc.set1 encV_ok k 1 (by rw [<- HVS.out]; exact HKL.out.1) (by omega) ((g2[n1]'HN2.out).vs[k]'(by rw [<- HVS.out]; exact HKL.out.1)).u.val ((g2[n1]'HN2.out).vs[k]'(by rw [<- HVS.out]; exact HKL.out.1)) (by simp [encV]);have hsn : (g2[n1]'HN2.out).vs.length = vs2.length := (by rw [<- HVS.out]);rw [hsn] at hsb;obtain ⟨KN, hKN⟩ : ∃ KN, KN = vs2.length := ⟨_, rfl⟩
       rw [<- hKN] at hsb;have HSB := Bx.mk hsb;have hkK : k < KN := (by rw [hKN]; exact HKL.out.1);have hKNb : KN <= 100000 := (by rw [hKN]; exact HLL.out);simp only [Sl.val, Value.slice.injEq] at hsb
       obtain ⟨hsb1, hsb2, hsb3⟩ := hsb;rw [hsb1, hsb2, hsb3] at c0 HCL;clear hgoc hlvc hsn hKN hsb1 hsb2 hsb3;go_upto_region 13 with fail
       clear tz c0 c1 c2;refine wp_region_facts 14 (MbF wc (.slice (some ⟨gb, 0, none⟩) N gc) (.slice (some ⟨lb, 0, none⟩) KN cap) (.slice (some ⟨sb, so, none⟩) SN sc) (.string PB) (.slice ma MN mc) n1 gb i sb so k lb (subL ms p) ()) (by kernel_rfl) (by kernel_rfl) (by rfl) (MbF.stable _ _ _ _ _ _ _ _ _ _ _ _ _ _ _) ?_ ?_
       ·intro i' oo hi ho xs w7 hb hd;have hcs : i' = 0 \/ i' = 1 \/ i' = 2 \/ i' = 3 \/ i' = 4 \/ i' = 5 \/ i' = 6 \/ i' = 7 \/ i' = 8 \/ i' = 9 \/ i' = 10 \/ i' = 11 \/ i' = 12 \/ i' = 13 := (by omega);simp only [List.take_succ_cons, List.take_zero, putFrom, Act.put, List.setIfInBounds_toArray, List.set_cons_succ, List.set_cons_zero, Nat.zero_add, Nat.reduceAdd]
        have HB7 := Bx.mk hb;obtain ⟨q0, q1, q2⟩ := HCL.out w7 (HB0C.out.trans (hb.mono HB0C.out.size));clear hb;rcases hcs with rfl | rfl | rfl | rfl | rfl | rfl | rfl | rfl | rfl | rfl | rfl | rfl | rfl | rfl
        all_goals
         simp only [List.getElem?_cons_succ, List.getElem?_cons_zero, zO] at ho
         subst ho;simp [Needs, Region.binds, MbF] at hd
        all_goals clear hi
        case inr.inr.inr.inr.inr.inr.inr.inr.inr.inr.inr.inl =>
         have hsub := HSUB.out w7 HB7.out;clear q0 q1 q2;go_wp2_with (go_at_call 67; refine hsub.mono ?_; rintro e w8 ⟨v8, rfl, ho8, hb8⟩)
         obtain ⟨s8, hs8⟩ := sl_of ho8;subst hs8;have HO8 := Bx.mk (ho8.mono HB7.out.size);have HB8 := Bx.mk hb8;clear ho8 hb8 hsub;simp only [Sl.val]
         exact ⟨rfl, rfl, ⟨s8, rfl, HO8.out⟩, HB8.out⟩
        all_goals
         go_wp2_with fail
         exact ⟨rfl, rfl, rfl, Below.refl _ _⟩
       ·intro xs w7 hb hf;have f11 := hf 11 (by omega);have f13 := hf 13 (by omega);simp only [MbF] at f11 f13
        obtain ⟨s8, f11, ho8⟩ := f11;have HO8 := Bx.mk ho8;have hS7 := HSC.out.below hb;have hkv : k < (g2[n1]'HN2.out).vs.length := (by rw [<- HVS.out]; exact HKL.out.1);have hnm := hS7.go.nm _ (zM HN2.out) _ (zM hkv)
        obtain ⟨nb, cap', hsb', -, hfr, hgo', hgr'⟩ := hS7.go.setV n1 HN2.out k hkv 1 (by omega) (.slice s8.ad s8.n s8.c) ⟨⟨((g2[n1]'HN2.out).vs[k]).n.pol, subL ms p, ((g2[n1]'HN2.out).vs[k]).n.par⟩, s8, ((g2[n1]'HN2.out).vs[k]).q⟩ rfl
         ⟨⟨ho8.rd, fun q hq hn => by have h1 := (ho8.lt q hq).1; have h2 := (HSC.out.go.lt hn).2; omega⟩, hnm.2.1, ⟨subL_few (by have := HML.out; omega) HMX.out p, hnm.2.2.2.1, hnm.2.2.2.2⟩⟩
        have hnb : nb = lb := by
         rw [HSLV.out, HSB.out] at hsb';simp only [Value.slice.injEq, zO, Addr.mk.injEq, and_true] at hsb'
         exact hsb'.1.symm
        subst hnb;have hGBn : GB v5 g2 nb := .inr ⟨_, zM HN2.out, by rw [hsb']; rfl⟩;obtain ⟨W8, hW8⟩ : ∃ W8, W8 = w7.setCell ⟨nb, k * 3 + 1, none⟩ (.slice s8.ad s8.n s8.c) := ⟨_, rfl⟩
        rw [<- hW8] at hgo' hgr';have HS8 := Bx.mk (show GStep w6 w.heap.size v5 g5 W8 _ from hS7.trans ⟨hgo', Fr.of_grown (S := GB v5 g2) hgr' fun q hq => (by simp only [zO] at hq; subst hq; exact hGBn), fun q hq => .inl ((GB.same HN2.out _).1 hq)⟩)
        have HX8 := Bx.mk (show gxs (g2.set n1 ⟨(g2[n1]'HN2.out).vs.set k ⟨⟨((g2[n1]'HN2.out).vs[k]).n.pol, subL ms p, ((g2[n1]'HN2.out).vs[k]).n.par⟩, s8, ((g2[n1]'HN2.out).vs[k]).q⟩, (g2[n1]'HN2.out).s⟩) = G0.set n1 (rmL ms true (fndP G0[n0]! anyP) G0[n1]! (S.take (i + 1))) by
         have e1 : ∀ L', gxs (g2.set n1 L') = (gxs g2).set n1 (vxs L'.vs) := fun L' => List.map_set
         rw [e1, hX2.out, List.set_set, HRS.out, <- HVX.out, vxs_at vs2 k HKL.out.1];congr 1
         simp only [HVS.out]
         exact List.map_set)
        have HQ8 := Bx.mk (show NQ w.heap.size (g2.set n1 ⟨(g2[n1]'HN2.out).vs.set k ⟨⟨((g2[n1]'HN2.out).vs[k]).n.pol, subL ms p, ((g2[n1]'HN2.out).vs[k]).n.par⟩, s8, ((g2[n1]'HN2.out).vs[k]).q⟩, (g2[n1]'HN2.out).s⟩) from hQ2.out.set n1 fun y hy kb hkb => by
         rcases List.mem_or_eq_of_mem_set hy with e | rfl
         ·exact hQ2.out _ (zM HN2.out) y e kb hkb
         ·rcases hkb with e | e
          ·have h1 := (ho8.lt kb e).1;have h2 := HBW.out.size;have h3 := hbc.out.size;omega
          ·exact hQ2.out _ (zM HN2.out) _ (zM hkv) kb (.inr e))
        have z9 := hfr (k * 3 + 1);have cc := hS7.go.lv _ (zM HN2.out);rw [hsb'] at cc;have cu := cc.cell encV_ok k hkv 1 (by omega) ((g2[n1]'HN2.out).vs[k]).u.val rfl;simp only [Sl.val] at cu
        have HW8 := Bx.mk hW8;clear hf hb ho8 hS7 hnm hgo' hgr' hGBn cc hsb' hfr hW8;simp only [List.take_succ_cons, List.take_zero, List.drop_succ_cons, List.drop_zero, putFrom, Act.put, List.setIfInBounds_toArray, List.set_cons_succ, List.set_cons_zero, Nat.zero_add, Nat.reduceAdd, f11, f13]
        clear f11 f13;go_wp2_with fail
        rw [<- HW8.out];go_roundw
        case rel => exact ⟨i + 1, _, by omega, by go_num, HS8, HX8, HQ8⟩
        case measure => simp [intOf]; omega
      | false =>
       have hd := rdrop_any wc w.heap.size v5 g2 HSC.out.go HPG2.out (by rw [HNL2.out]; omega) n1 HN2.out k (by rw [<- HVS.out]; exact HKL.out.1);rw [HV5.out] at hd;go_wp2_with fail
       go_at_call 68;refine hd.mono ?_;rintro e w8 ⟨⟨u, rfl⟩, g3, hs3, hg3, hk3⟩;have HQ3 := Bx.mk (hk3 w.heap.size (Nat.le_trans HBW.out.size hbc.out.size) hQ2.out);have HS3 := Bx.mk (show GStep w6 w.heap.size v5 g5 w8 g3 from HSC.out.trans (by rw [HV5.out]; exact hs3))
       have HX3 := Bx.mk (show gxs g3 = G0.set n1 (rmL ms false (fndP G0[n0]! anyP) G0[n1]! (S.take (i + 1))) by
        rw [hg3, hX2.out, <- HL.out, HTK.out];unfold dropG rmS;rw [zL, HGN.out, if_neg (by have := HN0.out; have := HN1.out; omega), set_at2 (by rw [HGN.out]; exact hn1N), if_pos rfl, List.set_set, HKL.out.2.2, if_pos (by omega), Int.toNat_natCast]
        rfl)
       clear hd hs3 hg3 hk3 tz c0 c1 c2;go_wp2_with fail
       go_roundw
       case rel => exact ⟨i + 1, g3, by omega, by go_num, HS3, HX3, HQ3⟩
       case measure => simp [intOf]; omega
     ·have tz : decide (z >= 0) = false := zF hz0;have HFN := Bx.mk (show fndP l p < 0 by rw [<- HZ.out]; omega)
      cases ok with
      | false =>
       have HX3 := Bx.mk (show gxs g2 = G0.set n1 (rmL ms false (fndP G0[n0]! anyP) G0[n1]! (S.take (i + 1))) by
        rw [hX2.out, <- HL.out, HTK.out];unfold rmS;rw [if_neg (show ¬ 0 <= fndP l p by have := HFN.out; omega)]
        rfl)
       clear hz0;go_wp2_with fail
       go_roundw
       case rel => exact ⟨i + 1, g2, by omega, by go_num, HSC, HX3, hQ2⟩
       case measure => simp [intOf]; omega
      | true =>
       have hvt := HVT.out wc hbc.out anyP;rw [anyP_str] at hvt;obtain ⟨z2, hz2'⟩ : ∃ z2, z2 = fndP l anyP := ⟨_, rfl⟩
       have HZ2 := Bx.mk hz2';rw [<- hz2'] at hvt;clear hz2';go_wp2_with fail
       go_at_call 56;refine hvt.mono ?_;rintro e w8 ⟨rfl, hb8⟩;have HB8 := Bx.mk (hbc.out.trans (hb8.mono hbc.out.size));have HS8 := Bx.mk (HSC.out.below hb8);clear hvt hb8 c0 c1 c2;by_cases hs0 : 0 <= z2
       ·have t2 : decide (z2 >= 0) = true := zT hs0;have HAB := Bx.mk (HLA.out (by rw [<- HZ2.out]; exact hs0));obtain ⟨AB, hAB⟩ : ∃ AB, AB = fndP G0[n0]! anyP := ⟨_, rfl⟩
        have HABE := Bx.mk hAB
        have HRS := Bx.mk (show rmL ms true (fndP G0[n0]! anyP) G0[n1]! (S.take (i + 1)) = insV l ⟨p, subL ms p, [AB]⟩ by
         rw [HTK.out, hAB];unfold rmS
         rw [if_neg (show ¬ 0 <= fndP l p by have := HFN.out; omega), if_pos (by rw [Bool.true_and, decide_eq_true_eq, <- HZ2.out]; exact hs0)])
        have HOKN := Bx.mk (show Vx.Ok ⟨p, subL ms p, [AB]⟩ from ⟨subL_few (by have := HML.out; omega) HMX.out p, HPM.out, by simp, fun q hq => by
         rw [zS] at hq;subst hq;have h1 := fndP_lt HAB.out;have h2 := HLB.out n0;have h3 := HAB.out;rw [<- hAB] at h1 h3
         omega⟩)
        clear hs0 hz0 hAB
        have HSUB := Bx.mk (show ∀ W, Below w8.heap.size w8 W -> Calls Tryz.prog 67 #[.slice ma MN mc, .string PB] W fun e w' => ∃ v', e = .returned v' /\ Slc.Own w' W.heap.size 9 1 encS v' (subL ms p) /\ Below W.heap.size W w' from fun W hW => by
         have := subjects_any W (.slice ma ms.length mc) ms p (HM.out.below (HBW.out.trans ((HB8.out.trans (hW.mono HB8.out.size)).mono HBW.out.size))) (by have := HML.out; omega);rw [<- HMN.out, <- HPB.out] at this
         exact this)
        have HVTA := Bx.mk (show ∀ W, Below w8.heap.size w8 W -> Calls Tryz.prog 56 #[.slice sA.ad sA.n sA.c, .string ⟨#[50, 46, 53, 46, 50, 57, 46, 51, 50, 46, 48]⟩] W fun e w' => e = .returned (.int .i64 AB) /\ Below W.heap.size W w' from fun W hW => by
         have := rvert_any W _ vsA (HVLA.out.q.below (HB8.out.trans (hW.mono HB8.out.size))) HLLA.out anyP;rw [HVA.out, <- HABE.out, anyP_str] at this
         exact this)
        have HPUT := Bx.mk (show ∀ W, Below w8.heap.size w8 W -> ∀ s q : Sl, Slc.Own W w8.heap.size 9 1 encS s.val (subL ms p) -> Slc.Own W w8.heap.size 3 1 encI q.val [AB] -> Calls Tryz.prog 57 #[.slice sL.ad sL.n sL.c, .agg #[.string PB, .slice s.ad s.n s.c, .slice q.ad q.n q.c]] W fun e w' => ∃ v', e = .returned v' /\ Slc.Own w' W.heap.size 65 3 encV v' (insT vs2 ⟨⟨p, subL ms p, [AB]⟩, s, q⟩) /\ Below W.heap.size W w' from fun W hW s q hs hq => by
         have hov : OV W w8.heap.size ⟨⟨p, subL ms p, [AB]⟩, s, q⟩ := ⟨hs, hq⟩;have := rput_any W _ vs2 ⟨⟨p, subL ms p, [AB]⟩, s, q⟩ (HVL.out.below (HB8.out.trans (hW.mono HB8.out.size))) (hov.vt (S := fun k => k < W.heap.size) HOKN.out (fun k hk => (hs.lt k hk).2) (fun k hk => (hq.lt k hk).2)) HLL.out (by rw [HVX.out]; exact HLO.out) (by rw [HVX.out]; exact fun y hy => fndP_neg HFN.out y hy);unfold verV at this;rw [<- HPB.out] at this
         exact this)
        have HB0C := HB8;have hnN0 : n0 < N := (by have := HN1.out; omega);have HWN := Bx.mk (show IntKind.i64.wrap ((n1 : Int) - 1) = (n0 : Int) by have := HN1.out; rw [IntWalk.i64_in _ (by omega)]; omega);go_upto_region 17 with fail
        clear t2 tz;refine wp_region_facts 29 (McF w8 (.slice (some ⟨gb, 0, none⟩) N gc) (.slice sL.ad sL.n sL.c) (.slice (some ⟨sb, so, none⟩) SN sc) (.string PB) (.slice ma MN mc) (.slice sA.ad sA.n sA.c) n1 n0 gb i sb so AB vs2 ⟨p, subL ms p, [AB]⟩ () ()) (by kernel_rfl) (by kernel_rfl) (by rfl) (McF.stable _ _ _ _ _ _ _ _ _ _ _ _ _ _ _ _ _ _) ?_ ?_
        ·intro i' oo hi ho xs w7 hb hd;have hcs : i' = 0 \/ i' = 1 \/ i' = 2 \/ i' = 3 \/ i' = 4 \/ i' = 5 \/ i' = 6 \/ i' = 7 \/ i' = 8 \/ i' = 9 \/ i' = 10 \/ i' = 11 \/ i' = 12 \/ i' = 13 \/ i' = 14 \/ i' = 15 \/ i' = 16 \/ i' = 17 \/ i' = 18 \/ i' = 19 \/ i' = 20 \/ i' = 21 \/ i' = 22 \/ i' = 23 \/ i' = 24 \/ i' = 25 \/ i' = 26 \/ i' = 27 \/ i' = 28 := (by omega);simp only [List.take_succ_cons, List.take_zero, putFrom, Act.put, List.setIfInBounds_toArray, List.set_cons_succ, List.set_cons_zero, Nat.zero_add, Nat.reduceAdd]
         have HB7 := Bx.mk hb;obtain ⟨q0, q1, q2⟩ := HCL.out w7 (HB0C.out.trans (hb.mono HB0C.out.size));clear hb;rcases hcs with rfl | rfl | rfl | rfl | rfl | rfl | rfl | rfl | rfl | rfl | rfl | rfl | rfl | rfl | rfl | rfl | rfl | rfl | rfl | rfl | rfl | rfl | rfl | rfl | rfl | rfl | rfl | rfl | rfl
         all_goals
          simp only [List.getElem?_cons_succ, List.getElem?_cons_zero, zO] at ho
          subst ho;simp [Needs, Region.binds, McF] at hd
         all_goals clear hi
         case inr.inr.inr.inr.inr.inr.inr.inr.inr.inr.inr.inr.inr.inr.inr.inr.inl =>
          have hsub := HSUB.out w7 HB7.out;clear q0 q1 q2;go_wp2_with (go_at_call 67; refine hsub.mono ?_; rintro e w8 ⟨v8, rfl, ho8, hb8⟩)
          obtain ⟨s8, hs8⟩ := sl_of ho8;subst hs8;have HO8 := Bx.mk (ho8.mono HB7.out.size);have HB8 := Bx.mk hb8;clear ho8 hb8 hsub;simp only [Sl.val]
          exact ⟨rfl, rfl, ⟨s8, rfl, HO8.out⟩, HB8.out⟩
         case inr.inr.inr.inr.inr.inr.inr.inr.inr.inr.inr.inr.inr.inr.inr.inr.inr.inr.inr.inl =>
          have wn := HWN.out;clear q0 q1 q2;go_wp2_with fail
          exact ⟨rfl, rfl, rfl, Below.refl _ _⟩
         case inr.inr.inr.inr.inr.inr.inr.inr.inr.inr.inr.inr.inr.inr.inr.inr.inr.inr.inr.inr.inr.inr.inr.inl =>
          have hvt := HVTA.out w7 HB7.out;clear q0 q1 q2;go_wp2_with (go_at_call 56; refine hvt.mono ?_; rintro e w8' ⟨rfl, hb8'⟩)
          have HB8' := Bx.mk hb8';clear hvt hb8';exact ⟨rfl, rfl, rfl, HB8'.out⟩
         case inr.inr.inr.inr.inr.inr.inr.inr.inr.inr.inr.inr.inr.inr.inr.inr.inr.inr.inr.inr.inr.inr.inr.inr.inl =>
          have HS7 := Bx.mk HB7.out.size;clear q0 q1 q2;go_wp2_with fail
          have hA : Below w7.heap.size w7 (w7.alloc (.cells #[.int .i64 AB] 3)) := (Below.refl _ _).alloc (zR _) _;exact ⟨rfl, rfl, ⟨⟨some ⟨w7.heap.size, 0, none⟩, 1, 1⟩, rfl, own_alloc encI_ok w7 [AB] _ rfl HS7.out (by unfold maxLen; simp)⟩, hA⟩
         case inr.inr.inr.inr.inr.inr.inr.inr.inr.inr.inr.inr.inr.inr.inr.inr.inr.inr.inr.inr.inr.inr.inr.inr.inr.inl =>
          obtain ⟨h10, ⟨s, h16, ho16⟩, ⟨q, h24, ho24⟩⟩ := hd;have HO16 := Bx.mk ho16;have HO24 := Bx.mk ho24;clear ho16 ho24 q0 q1 q2;go_wp2_with fail
          exact ⟨rfl, rfl, ⟨s, q, rfl, HO16.out, HO24.out⟩, Below.refl _ _⟩
         case inr.inr.inr.inr.inr.inr.inr.inr.inr.inr.inr.inr.inr.inr.inr.inr.inr.inr.inr.inr.inr.inr.inr.inr.inr.inr.inl =>
          obtain ⟨h6, ⟨s, q, h25, ho16, ho24⟩, -⟩ := hd;have hput := HPUT.out w7 HB7.out s q ho16 ho24;have HO16 := Bx.mk ho16;have HO24 := Bx.mk ho24;clear ho16 ho24 q0 q1 q2;go_wp2_with (go_at_call 57; refine hput.mono ?_; rintro e w9 ⟨v9, rfl, ho9, hb9⟩)
          obtain ⟨t9, ht9⟩ := sl_of ho9;subst ht9;have HO9 := Bx.mk (ho9.mono HB7.out.size);have HB9 := Bx.mk hb9;clear ho9 hb9 hput;simp only [Sl.val]
          exact ⟨rfl, rfl, ⟨t9, s, q, rfl, HO9.out, HO16.out.below HB9.out, HO24.out.below HB9.out⟩, HB9.out⟩
         all_goals
          go_wp2_with fail
          exact ⟨rfl, rfl, rfl, Below.refl _ _⟩
        ·intro xs w7 hb hf;have f26 := hf 26 (by omega);have f28 := hf 28 (by omega);simp only [McF] at f26 f28
         obtain ⟨t9, s, q, f26, ho9, hs9, hq9⟩ := f26
         have hx9 : ∀ x ∈ insT vs2 ⟨⟨p, subL ms p, [AB]⟩, s, q⟩, VtIn w7 (fun k => ¬ GB v5 g2 k /\ (Sl.val t9).ownBlock ≠ some k) x := fun x hx => by
          rcases insT_mem hx with e | rfl
          ·have hold := HS8.out.go.nm _ (zM HN2.out) x (by rw [<- HVS.out]; exact e);refine (VtIn.below (VtIn.and hold hold.at_) hb).mono fun k _ hk => ⟨hk.1, fun e => ?_⟩
           have h1 := (ho9.lt k e).1;have h2 := hk.2;omega
          ·have hov : OV w7 w8.heap.size ⟨⟨p, subL ms p, [AB]⟩, s, q⟩ := ⟨hs9, hq9⟩;exact hov.vt HOKN.out (fun k hk => ⟨fun hn => by have h1 := (hs9.lt k hk).1; have h2 := (HS8.out.go.lt hn).2; omega, fun e => own_type hs9 ho9 (by decide) k hk e⟩) (fun k hk => ⟨fun hn => by have h1 := (hq9.lt k hk).1; have h2 := (HS8.out.go.lt hn).2; omega, fun e => own_type hq9 ho9 (by decide) k hk e⟩)
         obtain ⟨gb9, cap9, hv9, hfr9, hc9, hS9⟩ := HS8.out.go.setL3 (Nat.le_trans HBW.out.size HB8.out.size) n1 HN2.out hb ⟨insT vs2 ⟨⟨p, subL ms p, [AB]⟩, s, q⟩, t9⟩ ho9 hx9;rw [HV5.out] at hv9;simp only [Value.slice.injEq, zO, Addr.mk.injEq, and_true] at hv9
         obtain ⟨hgb9, -, -⟩ := hv9;subst hgb9;obtain ⟨W9, hW9⟩ : ∃ W9, W9 = w7.setCell ⟨gb, n1, none⟩ (.slice t9.ad t9.n t9.c) := ⟨_, rfl⟩
         simp only [Sl.val] at hS9
         rw [<- hW9] at hS9;have HS9 := Bx.mk (HS8.out.trans hS9)
         have HX9 := Bx.mk (show gxs (g2.set n1 ⟨insT vs2 ⟨⟨p, subL ms p, [AB]⟩, s, q⟩, t9⟩) = G0.set n1 (rmL ms true (fndP G0[n0]! anyP) G0[n1]! (S.take (i + 1))) by
          have e1 : ∀ L', gxs (g2.set n1 L') = (gxs g2).set n1 (vxs L'.vs) := fun L' => List.map_set
          rw [e1, hX2.out, List.set_set, HRS.out]
          show G0.set n1 (vxs (insT vs2 _)) = _
          rw [insT_vxs, HVX.out])
         have HQ9 := Bx.mk (show NQ w.heap.size (g2.set n1 ⟨insT vs2 ⟨⟨p, subL ms p, [AB]⟩, s, q⟩, t9⟩) from hQ2.out.set n1 fun y hy kb hkb => by
          rcases insT_mem hy with e | rfl
          ·exact hQ2.out _ (zM HN2.out) y (by rw [<- HVS.out]; exact e) kb hkb
          ·have h2 := HBW.out.size;have h3 := HB8.out.size;rcases hkb with e | e
           ·have h1 := (hs9.lt kb e).1; omega
           ·have h1 := (hq9.lt kb e).1; omega)
         have z9 := hfr9 n1;rw [HSLV.out] at hc9;simp only [Sl.val] at hc9
         have HW9 := Bx.mk hW9;clear hf hb ho9 hs9 hq9 hx9 hS9 hfr9 hW9;simp only [List.take_succ_cons, List.take_zero, List.drop_succ_cons, List.drop_zero, putFrom, Act.put, List.setIfInBounds_toArray, List.set_cons_succ, List.set_cons_zero, Nat.zero_add, Nat.reduceAdd, f26, f28]
         clear f26 f28;go_wp2_with fail
         rw [<- HW9.out];go_roundw
         case rel => exact ⟨i + 1, _, by omega, by go_num, HS9, HX9, HQ9⟩
         case measure => simp [intOf]; omega
       ·have t2 : decide (z2 >= 0) = false := zF hs0
        have HX3 := Bx.mk (show gxs g2 = G0.set n1 (rmL ms true (fndP G0[n0]! anyP) G0[n1]! (S.take (i + 1))) by
         rw [hX2.out, <- HL.out, HTK.out];unfold rmS
         rw [if_neg (show ¬ 0 <= fndP l p by have := HFN.out; omega), if_neg (by rw [Bool.true_and, decide_eq_true_eq, <- HZ2.out]; exact hs0)])
        clear hs0 hz0;go_wp2_with fail
        go_roundw
        case rel => exact ⟨i + 1, g2, by omega, by go_num, HS8, HX3, hQ2⟩
        case measure => simp [intOf]; omega
   ·obtain rfl : i = SN := by omega
    have HXF := Bx.mk (show gxs g2 = G0.set n1 (rmL ms ok (fndP G0[n0]! anyP) G0[n1]! S) by rw [hX2.out, HSN.out, List.take_length]);have hprn := rprune_any wr w.heap.size v5 g2 hS2.out.go (by rw [HXF.out]; exact HPGK.out S HSL.out HSA.out) (by rw [HNL2.out]; omega);rw [HV5.out] at hprn;have HGLT := Bx.mk (fun k => hS2.out.go.lt (k := k));clear hgo2;go_wp2_with fail
    go_at_call 58;refine hprn.mono ?_;rintro e w12 ⟨v12, g12, rfl, hgo12, hgx12, hfr12, -, hnk12⟩;have HNQ12 := Bx.mk (hnk12 w.heap.size HBW.out.size hQ2.out);have hb12 : Below w.heap.size wr w12 := hfr12.below (fun j hj => (HGLT.out j (by rw [HV5.out]; exact hj)).1) HBW.out.size;have HB12 := Bx.mk (HBW.out.trans hb12);have HG12 := Bx.mk hgo12;have HX12 := Bx.mk (show gxs g12 = R.1 by rw [hgx12, HXF.out, HRF.out]);obtain ⟨xa, xc, rfl, -⟩ := hgo12.own.rd.form;clear hprn hgo12 hgx12 hfr12 hb12 hnk12;go_wp2_with fail
    go_ret2;exact ⟨_, g12, by rw [HRF.out]; rfl, HG12.out, HX12.out, HB12.out, HNQ12.out⟩
end Go.Proofs.YtmagjdocondmhaaGreat.Tr.Gr
namespace Go.Proofs.YtmagjdocondmhaaGreat.Tr.Gr
open Go Go.RowKit Slc St Mp Tr Rg
theorem wan_keep (ps : List B) (g : List (List Vx)) : ∀ n, n < g.length -> ∀ d, d <= n -> (wanG ps g n)[d]! = (wanG ps g d)[d]!
 | 0, _, d, hd => by
  obtain rfl : d = 0 := by omega
  rfl
 | n + 1, hn, d, hd => by
  by_cases e : d = n + 1
  ·rw [e]
  ·rw [wanG, wanK_at (by rw [wanG_len]; omega), if_neg e, if_neg (by omega)];exact wan_keep ps g n (by omega) d (by omega)
theorem wan_ord {g : List (List Vx)} (hO : ∀ (k : Nat), OrdP g[k]!) (ps : List B) : ∀ n, n < g.length -> ∀ (j : Nat), OrdP (wanG ps g n)[j]!
 | 0, _, j => hO j
 | n + 1, hn, j => by
  have ih := wan_ord hO ps n (by omega);rw [wanG, wanK_at (by rw [wanG_len]; omega)];split
  ·exact keepT_ord (ord_pols (wanL_pols _ _ _) (ih _)) _
  ·split
   ·exact renL_ord (ih _) _
   ·exact ih _
theorem has_iff (ps : List B) (g : List (List Vx)) (s : B) : ∀ n, s ∈ hasG ps g n ↔ ∃ d, d < n /\ s ∈ hasL ps (fndP (wanG ps g d)[d]! anyP) (wanG ps g d)[d + 1]!
 | 0 => by simp [hasG]
 | n + 1 => by
  rw [hasG, List.mem_append, has_iff ps g s n];constructor
  ·rintro (⟨d, hd, h⟩ | h)
   ·exact ⟨d, by omega, h⟩
   ·exact ⟨n, by omega, h⟩
  ·rintro ⟨d, hd, h⟩;by_cases e : d = n
   ·subst e; exact .inr h
   ·exact .inl ⟨d, by omega, h⟩
theorem hasL_iff (ps : List B) (st : Int) (l : List Vx) (s : B) : s ∈ hasL ps st l ↔ ∃ v ∈ l, (specV v = false /\ st ∈ v.par) /\ s ∈ ps /\ v.pol = s := by
 unfold hasL hitV;rw [List.mem_map];constructor
 ·rintro ⟨v, hv, rfl⟩;rw [List.mem_filter, Bool.and_eq_true, Bool.and_eq_true, decide_eq_true_eq, decide_eq_true_eq, Bool.not_eq_true'] at hv;exact ⟨v, hv.1, ⟨hv.2.1.1, hv.2.1.2⟩, hv.2.2, rfl⟩
 ·rintro ⟨v, hv, ⟨h1, h2⟩, h3, rfl⟩;refine ⟨v, List.mem_filter.2 ⟨hv, ?_⟩, rfl⟩;rw [Bool.and_eq_true, Bool.and_eq_true, decide_eq_true_eq, decide_eq_true_eq, Bool.not_eq_true'];exact ⟨⟨h1, h2⟩, h3⟩
def thB (G : List (List Vx)) (s : B) (d : Nat) : Bool := decide (0 <= fndP G[d + 1]! s) && belV G[d]! (G[d + 1]!)[(fndP G[d + 1]! s).toNat]!
def thN (G : List (List Vx)) (s : B) (n : Nat) : Bool := (List.range n).any fun d => thB G s d
theorem thN_succ (G : List (List Vx)) (s : B) (n : Nat) : thN G s (n + 1) = (thN G s n || thB G s n) := by
 unfold thN;rw [List.range_succ, List.any_append];simp
theorem fndP_mem {l : List Vx} (ho : OrdP l) {v : Vx} (hv : v ∈ l) : 0 <= fndP l v.pol /\ (l[(fndP l v.pol).toNat]!) = v := by
 obtain ⟨k, hk, rfl⟩ := List.getElem_of_mem hv;have := fndP_at ho hk;rw [getElem!_pos l k hk] at this;rw [this, Int.toNat_natCast, getElem!_pos l k hk];exact ⟨by omega, rfl⟩
theorem keepT_iff {l : List Vx} {v : Vx} : v ∈ keepT l (marksA l) l.length ↔ v ∈ l /\ v.par ≠ [] := by
 unfold keepT;rw [List.mem_map];constructor
 ·rintro ⟨j, hj, rfl⟩;rw [List.mem_filter, List.mem_range] at hj;have h2 := hj.2;rw [marksA_at _ _ hj.1, decide_eq_true_eq] at h2;refine ⟨by rw [getElem!_pos l j hj.1]; exact zM _, fun e => ?_⟩;rw [e] at h2; simp at h2
 ·rintro ⟨hv, hp⟩;obtain ⟨j, hj, rfl⟩ := List.getElem_of_mem hv;refine ⟨j, List.mem_filter.2 ⟨List.mem_range.2 hj, ?_⟩, getElem!_pos l j hj⟩;rw [marksA_at _ _ hj, getElem!_pos l j hj, decide_eq_true_eq];exact List.length_pos_iff.2 hp
theorem there_one {g : List (List Vx)} (hP : PG g) (hO : ∀ (k : Nat), OrdP g[k]!) {ps : List B} {s : B} (hs : s ∈ ps) (ha : s ≠ anyP) {d : Nat} (hd : d + 1 < g.length) :
  thB (wanG ps g (g.length - 1)) s d = decide (s ∈ hasL ps (fndP (wanG ps g d)[d]! anyP) (wanG ps g d)[d + 1]!) := by
 unfold thB;rw [wan_keep ps g (g.length - 1) (by omega) d (by omega), wan_keep ps g (g.length - 1) (by omega) (d + 1) (by omega)]
 have hL : (wanG ps g (d + 1))[d + 1]! = keepT (wanL ps (fndP (wanG ps g d)[d]! anyP) (wanG ps g d)[d + 1]!) (marksA (wanL ps (fndP (wanG ps g d)[d]! anyP) (wanG ps g d)[d + 1]!)) (wanL ps (fndP (wanG ps g d)[d]! anyP) (wanG ps g d)[d + 1]!).length := by
  rw [wanG, wanK_at (by rw [wanG_len]; omega), if_pos rfl, Nat.add_sub_cancel]
 have hO1 : OrdP (wanG ps g (d + 1))[d + 1]! := wan_ord hO ps (d + 1) hd _;have hO0 : OrdP (wanG ps g d)[d]! := wan_ord hO ps d (by omega) _;have hPA : PG (wanG ps g d) := wanG_pg hP ps d (by omega);have hAl := wanG_len ps g d;generalize hA : wanG ps g d = A at *;have hR : ∀ v ∈ A[d + 1]!, ∀ p ∈ v.par, 0 <= p /\ p < ((A[d]!).length : Int) := fun v hv p hp => hPA.par d (by omega) v hv p hp
 generalize hM : (wanG ps g (d + 1))[d + 1]! = M at *;generalize hst : fndP A[d]! anyP = st at *
 have hmem : ∀ v, v ∈ M ↔ (∃ u ∈ A[d + 1]!, wanV ps st u = v) /\ v.par ≠ [] := fun v => by
  rw [hL, keepT_iff];unfold wanL;rw [List.mem_map]
 have hbel : ∀ v ∈ M, belV A[d]! v = (decide (0 <= st) && decide (st ∈ v.par)) := fun v hv => by
  rw [<- hst];refine bel_fnd hO0 fun q hq => ?_
  obtain ⟨⟨u, hu, rfl⟩, -⟩ := (hmem v).1 hv;exact hR u hu q (wanV_par hq)
 rw [Bool.eq_iff_iff, Bool.and_eq_true, decide_eq_true_eq, decide_eq_true_eq, hasL_iff];constructor
 ·rintro ⟨h0, hb⟩;obtain ⟨k, hk, he, hp, -⟩ := fndP_some h0;rw [he, Int.toNat_natCast] at hb;have hv : M[k]! ∈ M := by rw [getElem!_pos M k hk]; exact zM hk
  rw [hbel _ hv, Bool.and_eq_true, decide_eq_true_eq, decide_eq_true_eq] at hb;obtain ⟨⟨u, hu, e⟩, -⟩ := (hmem _).1 hv;have hup : u.pol = s := by rw [<- hp, <- e, wanV_pol]
  have hue : M[k]! = u := by
   rw [<- e, wanV_eq, hup, zT hs, Bool.or_true, if_pos rfl]
  refine ⟨u, hu, ⟨?_, by rw [<- hue]; exact hb.2⟩, hs, hup⟩;unfold specV;rw [hup]; exact zF ha
 ·rintro ⟨u, hu, ⟨h1, h2⟩, -, rfl⟩;have hue : wanV ps st u = u := by rw [wanV_eq, zT hs, Bool.or_true, if_pos rfl]
  have hv : u ∈ M := (hmem u).2 ⟨⟨u, hu, hue⟩, fun e => by rw [e] at h2; cases h2⟩;obtain ⟨a1, a2⟩ := fndP_mem hO1 hv;refine ⟨a1, ?_⟩;rw [a2, hbel u hv, Bool.and_eq_true, decide_eq_true_eq, decide_eq_true_eq];exact ⟨(hR u hu st h2).1, h2⟩
theorem there_has {g : List (List Vx)} (hP : PG g) (hO : ∀ (k : Nat), OrdP g[k]!) {ps : List B} {s : B} (hs : s ∈ ps) (ha : s ≠ anyP) :
  thN (wanG ps g (g.length - 1)) s (g.length - 1) = decide (s ∈ hasG ps g (g.length - 1)) := by
 unfold thN;rw [Bool.eq_iff_iff, List.any_eq_true, decide_eq_true_eq, has_iff];constructor
 ·rintro ⟨d, hd, h⟩;rw [List.mem_range] at hd;rw [there_one hP hO hs ha (by omega), decide_eq_true_eq] at h;exact ⟨d, hd, h⟩
 ·rintro ⟨d, hd, h⟩;refine ⟨d, List.mem_range.2 hd, ?_⟩;rw [there_one hP hO hs ha (by omega), decide_eq_true_eq];exact h
def moreP (G : List (List Vx)) (n : Nat) (ks : List B) : List B := ks.filter fun s => !thN G s n
theorem moreP_snoc (G : List (List Vx)) (n : Nat) (ks : List B) (p : B) : moreP G n (ks ++ [p]) = moreP G n ks ++ if thN G p n then [] else [p] := by
 unfold moreP;rw [List.filter_append]
 cases h : thN G p n <;> simp [List.filter_cons, h]
theorem resL_skip (has : List B) (ab : Int) : ∀ (ks : List B) (l : List Vx), resL has ab l ks = resL [] ab l (ks.filter fun p => !decide (p ∈ has))
 | [], l => rfl
 | p :: ks, l => by
  show resL has ab (resS has ab l p) ks = _
  rw [resL_skip has ab ks, List.filter_cons];by_cases h : p ∈ has
  ·rw [zT h];have : resS has ab l p = l := by unfold resS; rw [if_pos h]
   rw [this]; rfl
  ·rw [zF h];have : resS has ab l p = resS [] ab l p := by unfold resS; simp only [if_neg h, List.not_mem_nil, if_false]
   rw [this]; rfl
theorem set_iff {l : List Vx} (ho : OrdP l) {k : Nat} (hk : k < l.length) {x v : Vx} : v ∈ l.set k x ↔ v = x \/ (v ∈ l /\ v.pol ≠ (l[k]!).pol) := by
 rw [List.mem_iff_getElem];constructor
 ·rintro ⟨j, hj, rfl⟩;rw [zL] at hj;rw [List.getElem_set];by_cases e : k = j
  ·rw [if_pos e]; exact .inl rfl
  ·rw [if_neg e];refine .inr ⟨zM _, fun q => e ?_⟩;exact (ord_one ho hj hk (by rw [getElem!_pos l j hj]; exact q)).symm
 ·rintro (rfl | ⟨h, hne⟩)
  ·exact ⟨k, by rw [zL]; exact hk, by rw [List.getElem_set_self]⟩
  ·obtain ⟨j, hj, rfl⟩ := List.getElem_of_mem h;refine ⟨j, by rw [zL]; exact hj, ?_⟩;rw [List.getElem_set, if_neg];intro e;subst e;rw [getElem!_pos l k hk] at hne;exact hne rfl
def resX (ab : Int) (l : List Vx) (p : B) : Vx := if 0 <= fndP l p then ⟨p, (l[(fndP l p).toNat]!).ex, srtI ((l[(fndP l p).toNat]!).par ++ [ab])⟩ else ⟨p, [p], [ab]⟩
theorem resX_pol (ab : Int) (l : List Vx) (p : B) : (resX ab l p).pol = p := by unfold resX; split <;> rfl
theorem resS_iff {ab : Int} {l : List Vx} (ho : OrdP l) (p : B) : OrdP (resS [] ab l p) /\ ∀ v, v ∈ resS [] ab l p ↔ v = resX ab l p \/ (v ∈ l /\ v.pol ≠ p) := by
 unfold resS resX;rw [if_neg (by simp)];by_cases h : 0 <= fndP l p
 ·rw [if_pos h, if_pos h];obtain ⟨k, hk, he, hp, -⟩ := fndP_some h;rw [he, Int.toNat_natCast];refine ⟨ho.set k fun _ => rfl, fun v => ?_⟩;rw [set_iff ho hk, hp]
 ·rw [if_neg h, if_neg h];refine ⟨insV_ord ho fun v hv => fndP_neg (show fndP l p < 0 by omega) v hv, fun v => ?_⟩;rw [insV_iff];constructor
  ·rintro (q | q)
   ·exact .inr ⟨q, fndP_neg (show fndP l p < 0 by omega) v q⟩
   ·exact .inl q
  ·rintro (q | q)
   ·exact .inr q
   ·exact .inl q.1
theorem resL_ord {ab : Int} : ∀ (ks : List B) {l : List Vx}, OrdP l -> OrdP (resL [] ab l ks)
 | [], _, h => h
 | p :: ks, _, h => resL_ord ks (resS_iff h p).1
theorem resL_old {ab : Int} : ∀ (ks : List B) {l : List Vx} {v : Vx}, OrdP l -> v ∈ resL [] ab l ks -> v.pol ∉ ks -> v ∈ l
 | [], _, _, _, h, _ => h
 | p :: ks, l, v, ho, h, hn => by
  have h1 := resL_old ks (resS_iff (ab := ab) ho p).1 h fun q => hn (List.mem_cons_of_mem _ q)
  rcases ((resS_iff (ab := ab) ho p).2 v).1 h1 with q | q
  ·exact absurd (by rw [q, resX_pol]; exact List.mem_cons_self) hn
  ·exact q.1
theorem fndP_filt {l : List Vx} (ho : OrdP l) {p : B} (hp : p ≠ anyP) {v : Vx} : (v ∈ (l.filter fun u => !decide (u.pol = anyP)) /\ v.pol = p) ↔ (v ∈ l /\ v.pol = p) := by
 rw [List.mem_filter];constructor
 ·rintro ⟨⟨h1, -⟩, h2⟩; exact ⟨h1, h2⟩
 ·rintro ⟨h1, rfl⟩; exact ⟨⟨h1, by simp [hp]⟩, rfl⟩
theorem resX_filt (ab : Int) {l : List Vx} (ho : OrdP l) {p : B} (hp : p ≠ anyP) : resX ab (l.filter fun u => !decide (u.pol = anyP)) p = resX ab l p := by
 unfold resX;by_cases h : 0 <= fndP l p
 ·obtain ⟨v, hv, rfl⟩ := fndP_iff.1 h;have hv' := ((fndP_filt ho hp (v := v)).2 ⟨hv, rfl⟩).1;rw [if_pos h, if_pos (fndP_has hv' rfl), (fndP_mem ho hv).2, (fndP_mem (ho.filter _) hv').2]
 ·rw [if_neg h, if_neg];intro q;obtain ⟨v, hv, hvp⟩ := fndP_iff.1 q;exact h (fndP_has ((fndP_filt ho hp (v := v)).1 ⟨hv, hvp⟩).1 hvp)
theorem resL_filt (ab : Int) : ∀ (ks : List B) {l : List Vx}, OrdP l -> anyP ∉ ks -> (resL [] ab l ks).filter (fun u => !decide (u.pol = anyP)) = resL [] ab (l.filter fun u => !decide (u.pol = anyP)) ks
 | [], _, _, _ => rfl
 | p :: ks, l, ho, ha => by
  have hp : p ≠ anyP := fun e => ha (e ▸ List.mem_cons_self)
  show (resL [] ab (resS [] ab l p) ks).filter _ = resL [] ab (resS [] ab (l.filter _) p) ks
  rw [resL_filt ab ks (resS_iff ho p).1 fun q => ha (List.mem_cons_of_mem _ q)];congr 1
  have hf := ho.filter fun u => !decide (u.pol = anyP)
  refine ord_same ((resS_iff (ab := ab) ho p).1.filter _) (resS_iff (ab := ab) hf p).1 fun v => ?_
  rw [List.mem_filter, (resS_iff ho p).2, (resS_iff hf p).2, resX_filt ab ho hp, List.mem_filter];constructor
  ·rintro ⟨h1 | h1, h2⟩
   ·exact .inl h1
   ·exact .inr ⟨⟨h1.1, h2⟩, h1.2⟩
  ·rintro (h1 | h1)
   ·exact ⟨.inl h1, by rw [h1, resX_pol]; simp [hp]⟩
   ·exact ⟨.inr ⟨h1.1.1, h1.2⟩, h1.1.2⟩
theorem resL_any {ab : Int} : ∀ (ks : List B) {l : List Vx}, OrdP l -> anyP ∉ ks -> 0 <= fndP l anyP -> 0 <= fndP (resL [] ab l ks) anyP
 | [], _, _, _, h => h
 | p :: ks, l, ho, ha, h => by
  have hp : p ≠ anyP := fun e => ha (e ▸ List.mem_cons_self)
  refine resL_any ks (resS_iff ho p).1 (fun q => ha (List.mem_cons_of_mem _ q)) ?_;obtain ⟨v, hv, hva⟩ := fndP_iff.1 h;exact fndP_has (((resS_iff ho p).2 v).2 (.inr ⟨hv, fun e => hp (e.symm.trans hva)⟩)) hva
def rresL (F : List (List Vx)) (n : Nat) (ps : List B) : List Vx :=
 delL (resL [] (fndP F[n - 1]! anyP) F[n]! (moreP F n (setB ps))) (fndP (resL [] (fndP F[n - 1]! anyP) F[n]! (moreP F n (setB ps))) anyP).toNat
def rresG (g : List (List Vx)) (ps : List B) : List (List Vx) :=
 if ps.length = 0 \/ anyP ∈ ps then g
 else if g.length = 0 then pruneG g
 else
  let F := fwdG (r1G ps g (g.length - 1)) (g.length - 1)
  if g.length = 1 \/ fndP F[g.length - 1]! anyP < 0 then pruneG F
  else pruneG (F.set (g.length - 1) (rresL F (g.length - 1) ps))
theorem filt_cong {α : Type} {p q : α -> Bool} : ∀ {l : List α}, (∀ x ∈ l, p x = q x) -> l.filter p = l.filter q
 | [], _ => rfl
 | x :: l, h => by
  rw [List.filter_cons, List.filter_cons, h x List.mem_cons_self, filt_cong fun y hy => h y (List.mem_cons_of_mem _ hy)]
theorem rres_eq {g : List (List Vx)} (h : gvalidB g = true) (hP : PG g) (ps : List B) : rresG g ps = pruneG (gresG g ps) := by
 have hO : ∀ (k : Nat), OrdP g[k]! := (valid_pv h).ord
 unfold rresG gresG;by_cases h0 : ps.length = 0 \/ anyP ∈ ps
 ·rw [if_pos h0, if_pos (.inr h0), prune_self h hP]
 ·rw [if_neg h0];by_cases h1 : g.length = 0
  ·rw [if_pos h1, if_pos (.inl h1)]
  ·have hg : ¬ (g.length = 0 \/ ps.length = 0 \/ anyP ∈ ps) := fun q => q.elim h1 h0
   rw [if_neg h1];simp only [if_neg hg]
   have he := wan_eq hP hO (by omega) ps;simp only [<- he]
   by_cases h2 : g.length = 1 \/ fndP (wanG ps g (g.length - 1))[g.length - 1]! anyP < 0
   ·rw [if_pos h2, if_pos h2]
   ·rw [if_neg h2, if_neg h2];congr 2
    have ha : anyP ∉ setB ps := fun q => h0 (.inr (setB_mem.1 q))
    have hOw := wan_ord hO ps (g.length - 1) (by omega)
    have hm : moreP (wanG ps g (g.length - 1)) (g.length - 1) (setB ps) = (setB ps).filter fun p => !decide (p ∈ hasG ps g (g.length - 1)) := by
     unfold moreP;refine filt_cong fun s hs => ?_
     rw [there_has hP hO (setB_mem.1 hs) fun e => ha (e ▸ hs)]
    have ha' : anyP ∉ (setB ps).filter fun p => !decide (p ∈ hasG ps g (g.length - 1)) := fun q => ha (List.mem_filter.1 q).1
    have hst : 0 <= fndP (wanG ps g (g.length - 1))[g.length - 1]! anyP := (by omega);unfold rresL;rw [hm, resL_skip (hasG ps g (g.length - 1)), show g.length - 1 - 1 = g.length - 2 by omega, delL_filt (resL_ord _ (hOw _)) (resL_any _ (hOw _) ha' hst), delL_filt (hOw _) hst];exact resL_filt _ _ (hOw _) ha'
theorem PDG.mono {w : World} {Bk U U' : Nat} {g : List Lv} (h : PDG w Bk U g) (hU : U <= U') : PDG w Bk U' g := ⟨h.own, h.ap, h.ab, h.ex, fun L hL x hx k hk => Nat.lt_of_lt_of_le (h.ul L hL x hx k hk) hU⟩
theorem PDG.fr {w w' : World} {Bk U : Nat} {v : Value} {g : List Lv} (h : PDG w Bk U g) (hg : GO w Bk v g) (hf : Fr (GB v g) w w') : PDG w' Bk U g := h.keep fun L hL x hx k hk hkl => hf.block k hkl fun hn => by
 have ho := h.own L hL x hx;rcases hn with hn | ⟨L0, h0, hn⟩
 ·exact own_type ho hg.own (by decide) k hk hn
 ·exact own_type ho (hg.lv L0 h0) (by decide) k hk hn
theorem PDG.sub {w : World} {Bk U : Nat} {g : List Lv} (h : PDG w Bk U g) (n : Nat) (hn : n < g.length) (L' : Lv) (hL : L'.vs.Sublist (g[n]).vs) : PDG w Bk U (g.set n L') := by
 have key : ∀ (j : Nat) (hj : j < (g.set n L').length), ∃ hj' : j < g.length, ((g.set n L')[j]).vs.Sublist (g[j]).vs := by
  intro j hj;have hj' : j < g.length := by simpa using hj
  refine ⟨hj', ?_⟩;rw [List.getElem_set];by_cases e : n = j
  ·rw [if_pos e]; subst e; exact hL
  ·rw [if_neg e]; exact List.Sublist.refl _
 have kl : ∀ L ∈ g.set n L', ∃ L0 ∈ g, L.vs.Sublist L0.vs := fun L hLm => by
  obtain ⟨j, hj, rfl⟩ := List.getElem_of_mem hLm;obtain ⟨hj', hs⟩ := key j hj;exact ⟨g[j], zM hj', hs⟩
 refine ⟨fun L hLm x hx => ?_, fun L hLm => ?_, fun i j hi hj hij x hx y hy => ?_, fun L hLm x hx L2 hL2 y hy => ?_, fun L hLm x hx => ?_⟩
 ·obtain ⟨L0, h0, hs⟩ := kl L hLm;exact h.own L0 h0 x (hs.subset hx)
 ·obtain ⟨L0, h0, hs⟩ := kl L hLm;exact (h.ap L0 h0).sublist hs
 ·obtain ⟨hi', hs⟩ := key i hi;obtain ⟨hj', hs'⟩ := key j hj;exact h.ab i j hi' hj' hij x (hs.subset hx) y (hs'.subset hy)
 ·obtain ⟨L0, h0, hs⟩ := kl L hLm;obtain ⟨L1, h1, hs'⟩ := kl L2 hL2;exact h.ex L0 h0 x (hs.subset hx) L1 h1 y (hs'.subset hy)
 ·obtain ⟨L0, h0, hs⟩ := kl L hLm;exact h.ul L0 h0 x (hs.subset hx)
theorem insT_pair {R : Vt -> Vt -> Prop} {l : List Vt} {x : Vt} (h : l.Pairwise R) (h1 : ∀ y ∈ l, R y x) (h2 : ∀ y ∈ l, R x y) : (insT l x).Pairwise R := by
 unfold insT;have hp : (l.take (plc (vxs l) x.n.pol) ++ l.drop (plc (vxs l) x.n.pol)).Pairwise R := by rw [List.take_append_drop]; exact h
 rw [List.pairwise_append] at hp;obtain ⟨a1, a2, a3⟩ := hp;refine List.pairwise_append.2 ⟨a1, List.pairwise_cons.2 ⟨fun y hy => h2 y (List.mem_of_mem_drop hy), a2⟩, fun a ha b hb => ?_⟩;rcases List.mem_cons.1 hb with rfl | hb
 ·exact h1 a (List.mem_of_mem_take ha)
 ·exact a3 a ha b hb
theorem PDG.ins {w0 w : World} {Bk U : Nat} {g : List Lv} (h : PDG w Bk U g) (hlt : ∀ L ∈ g, ∀ y ∈ L.vs, (∀ k, y.q.val.ownBlock = some k -> k < w0.heap.size) /\ ∀ k, y.u.val.ownBlock = some k -> k < w0.heap.size) (n : Nat) (hn : n < g.length) (L' : Lv) (x : Vt) (hL : L'.vs = insT (g[n]).vs x)
  (hxq : Slc.Own w Bk 3 1 encI x.q.val x.n.par) (hxb : ∀ k, x.q.val.ownBlock = some k -> w0.heap.size <= k) (hxu : ∀ k, x.u.val.ownBlock = some k -> w0.heap.size <= k /\ k < w.heap.size) (hxx : ∀ k, x.q.val.ownBlock = some k -> x.u.val.ownBlock ≠ some k) (hU : U <= w.heap.size) : PDG w Bk w.heap.size (g.set n L') := by
 have key : ∀ (j : Nat) (hj : j < (g.set n L').length), ∃ hj' : j < g.length, ∀ y ∈ ((g.set n L')[j]).vs, y ∈ (g[j]).vs \/ (y = x /\ j = n) := by
  intro j hj;have hj' : j < g.length := by simpa using hj
  refine ⟨hj', fun y hy => ?_⟩;rw [List.getElem_set] at hy;by_cases e : n = j
  ·rw [if_pos e, hL] at hy;subst e;exact (insT_mem hy).imp id fun q => ⟨q, rfl⟩
  ·rw [if_neg e] at hy; exact .inl hy
 have hnew : ∀ L ∈ g, ∀ y ∈ L.vs, QA x y /\ QA y x := fun L hLm y hy =>
  ⟨fun k h1 h2 => by have := hxb k h1; have := (hlt L hLm y hy).1 k h2; omega, fun k h1 h2 => by have := hxb k h2; have := (hlt L hLm y hy).1 k h1; omega⟩
 refine ⟨fun L hLm y hy => ?_, fun L hLm => ?_, fun i j hi hj hij y hy z hz => ?_, fun L hLm y hy L2 hL2 z hz k hk => ?_, fun L hLm y hy k hk => ?_⟩
 ·obtain ⟨j, hj, rfl⟩ := List.getElem_of_mem hLm;obtain ⟨hj', hk⟩ := key j hj;rcases hk y hy with q | ⟨rfl, -⟩
  ·exact h.own _ (zM hj') y q
  ·exact hxq
 ·obtain ⟨j, hj, rfl⟩ := List.getElem_of_mem hLm;obtain ⟨hj', -⟩ := key j hj;rw [List.getElem_set];by_cases e : n = j
  ·rw [if_pos e, hL];exact insT_pair (h.ap _ (zM hn)) (fun y hy => (hnew _ (zM hn) y hy).2) (fun y hy => (hnew _ (zM hn) y hy).1)
  ·rw [if_neg e]; exact h.ap _ (zM hj')
 ·obtain ⟨hi', ki⟩ := key i hi;obtain ⟨hj', kj⟩ := key j hj;rcases ki y hy with q | ⟨ey, ei⟩
  ·rcases kj z hz with r | ⟨ez, ej⟩
   ·exact h.ab i j hi' hj' hij y q z r
   ·rw [ez]; exact (hnew _ (zM hi') y q).2
  ·rcases kj z hz with r | ⟨ez, ej⟩
   ·rw [ey]; exact (hnew _ (zM hj') z r).1
   ·omega
 ·obtain ⟨i, hi, rfl⟩ := List.getElem_of_mem hLm;obtain ⟨j, hj, rfl⟩ := List.getElem_of_mem hL2;obtain ⟨hi', ki⟩ := key i hi;obtain ⟨hj', kj⟩ := key j hj;rcases ki y hy with q | ⟨ey, -⟩
  ·rcases kj z hz with r | ⟨ez, -⟩
   ·exact h.ex _ (zM hi') y q _ (zM hj') z r k hk
   ·rw [ez];intro h2;have := (hlt _ (zM hi') y q).1 k hk;have := (hxu k h2).1;omega
  ·rw [ey] at hk;rcases kj z hz with r | ⟨ez, -⟩
   ·intro h2;have := (hlt _ (zM hj') z r).2 k h2;have := hxb k hk;omega
   ·rw [ez]; exact hxx k hk
 ·obtain ⟨j, hj, rfl⟩ := List.getElem_of_mem hLm;obtain ⟨hj', kj⟩ := key j hj;rcases kj y hy with q | ⟨ey, -⟩
  ·exact Nat.lt_of_lt_of_le (h.ul _ (zM hj') y q k hk) hU
  ·rw [ey] at hk; exact (hxu k hk).2
def RsF (W : World) (Bk gb n nb RN rc i : Nat) (qa : Option Addr) (QN qc : Nat) (par : List Int) (AB : Int) : Nat -> Value -> World -> Prop
 | 0, v, _ => v = .pointer (some ⟨gb, n, none⟩)
 | 1, v, _ => v = .pointer (some ⟨gb, n, none⟩)
 | 2, v, _ => v = .pointer (some ⟨gb, n, none⟩)
 | 3, v, _ => v = .slice (some ⟨nb, 0, none⟩) RN rc
 | 4, v, _ => v = .int .i64 (i : Nat)
 | 5, v, _ => v = .pointer (some ⟨gb, n, none⟩)
 | 6, v, _ => v = .pointer (some ⟨gb, n, none⟩)
 | 7, v, _ => v = .pointer (some ⟨gb, n, none⟩)
 | 8, v, _ => v = .slice (some ⟨nb, 0, none⟩) RN rc
 | 9, v, _ => v = .int .i64 (i : Nat)
 | 10, v, _ => v = .pointer (some ⟨nb, i * 3, none⟩)
 | 11, v, _ => v = .pointer (some ⟨nb, i * 3 + 2, none⟩)
 | 12, v, _ => v = .slice qa QN qc
 | 13, v, _ => v = .int .i64 AB
 | 14, v, w => ∃ b, v = .slice (some ⟨b, 0, none⟩) 1 1 /\ W.heap.size <= b /\ w.heap[b]? = some (.cells #[.int .i64 AB] 3 (0, 0))
 | 15, v, w => (∃ a n c, v = .slice a n c) /\ Slc.Own w Bk 3 1 encI v (par ++ [AB])
 | 16, v, w => ∃ b u, v = .func (.func 112) #[] #[.pointer (some ⟨b, 0, none⟩)] /\ W.heap.size <= b /\ w.heap[b]? = some (.cells #[u] 22 (0, 0)) /\ Slc.Own w Bk 3 1 encI u (par ++ [AB])
 | 17, v, w => (∃ a n c, v = .slice a n c) /\ Slc.Own w W.heap.size 3 1 encI v (srtI (par ++ [AB]))
 | 18, v, _ => v = .pointer (some ⟨nb, i * 3, none⟩)
 | 19, v, _ => v = .pointer (some ⟨nb, i * 3 + 2, none⟩)
 | _, _, _ => True
theorem RsF.below {W : World} {Bk gb n nb RN rc i : Nat} {qa : Option Addr} {QN qc : Nat} {par : List Int} {AB : Int} (j : Nat) (v : Value) (w w' : World) (h : RsF W Bk gb n nb RN rc i qa QN qc par AB j v w) (hb : Below w.heap.size w w') : RsF W Bk gb n nb RN rc i qa QN qc par AB j v w' := by
 match j with
 | 0 | 1 | 2 | 3 | 4 | 5 | 6 | 7 | 8 | 9 | 10 | 11 | 12 | 13 | 18 | 19 => exact h
 | 14 => obtain ⟨b, h1, h2, h3⟩ := h; exact ⟨b, h1, h2, (hb.block b (lt_of_some h3)).trans h3⟩
 | 15 => exact ⟨h.1, h.2.below hb⟩
 | 16 => obtain ⟨b, u, h1, h2, h3, h4⟩ := h; exact ⟨b, u, h1, h2, (hb.block b (lt_of_some h3)).trans h3, h4.below hb⟩
 | 17 => exact ⟨h.1, h.2.below hb⟩
 | _ + 20 => exact trivial
theorem RsF.big {W : World} {Bk gb n nb RN rc i : Nat} {qa : Option Addr} {QN qc : Nat} {par : List Int} {AB : Int} (j : Nat) (v : Value) (w w' : World) (h : RsF W Bk gb n nb RN rc i qa QN qc par AB j v w) (h15 : j ≠ 15) (h16 : j ≠ 16) (ob : Option Nat) (hob : ∀ k, ob = some k -> k < W.heap.size) (hg : w.grownBy w' ob) : RsF W Bk gb n nb RN rc i qa QN qc par AB j v w' := by
 match j with
 | 0 | 1 | 2 | 3 | 4 | 5 | 6 | 7 | 8 | 9 | 10 | 11 | 12 | 13 | 18 | 19 => exact h
 | 14 => obtain ⟨b, h1, h2, h3⟩ := h; exact ⟨b, h1, h2, (hg.block b (lt_of_some h3) (fun e => by have := hob b e.symm; omega)).trans h3⟩
 | 15 => exact absurd rfl h15
 | 16 => exact absurd rfl h16
 | 17 => exact ⟨h.1, h.2.keep fun k hk hkl => hg.block k hkl (fun e => by have := hob k e.symm; have := (h.2.lt k hk).1; omega)⟩
 | _ + 20 => exact trivial
structure RsC (W : World) (ob : Option Nat) (d : Nat -> Bool) (w : World) : Prop where
 gr : W.grownBy w ob
 be : d 15 = false -> Below W.heap.size W w
end Go.Proofs.YtmagjdocondmhaaGreat.Tr.Gr
