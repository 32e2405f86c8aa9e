/- packed -/
import Derived.Test.YtmagjdocondmhaaGreatPkAn18
set_option linter.unusedVariables false
set_option linter.unusedSimpArgs false
set_option maxRecDepth 100000
set_option maxHeartbeats 64000000
namespace Go.Proofs.YtmagjdocondmhaaGreat.Tr.Gr
open Go Go.RowKit Slc St Mp Tr Rg
attribute [local go_sem] Oper.semAt_some
def cutP (st : Int) (l : List Int) : List Int := l.filter fun y => !decide (y = st)
theorem cutP_snoc (st : Int) (l : List Int) (p : Int) : cutP st (l ++ [p]) = cutP st l ++ if p = st then [] else [p] := by
 unfold cutP;rw [List.filter_append];by_cases h : p = st <;> simp [h]
theorem cutP_len (st : Int) (l : List Int) : (cutP st l).length <= l.length := List.length_filter_le _ _
theorem r1G_pg {ps : List B} {g : List (List Vx)} (h : PG g) (n : Nat) : PG (r1G ps g n) := by
 have hll : ∀ k, k < g.length -> ((r1G ps g n)[k]!).length = (g[k]!).length := fun k hk => len_pols (r1G_pols ps g n hk)
 refine ⟨fun k hk v hv p hp => ?_, fun l hl => ?_⟩
 ·rw [r1G_len] at hk;rw [hll k (by omega)];rw [r1G_at ps g n hk] at hv;split at hv
  ·unfold wanL at hv;obtain ⟨u, hu, rfl⟩ := List.mem_map.1 hv;exact h.par k hk u hu p (wanV_par hp)
  ·exact h.par k hk v hv p hp
 ·obtain ⟨k, hk, rfl⟩ := List.getElem_of_mem hl;have hk' := hk;rw [r1G_len] at hk';have := hll k hk';rw [getElem!_pos _ k hk, getElem!_pos g k hk'] at this;rw [this];exact h.len _ (zM _)
def RcF (W0 : World) (v lv sv pv : Value) (n gb i sb so : Nat) (A : Int) (vs : List Vt) (nn : Vx) (u : Unit) : Nat -> Value -> World -> Prop
 | 0, x, _ => x = v
 | 1, x, _ => x = .int .i64 n
 | 2, x, _ => x = v
 | 3, x, _ => x = .int .i64 n
 | 4, x, _ => x = .pointer (some ⟨gb, n, none⟩)
 | 5, x, _ => x = .pointer (some ⟨gb, n, none⟩)
 | 6, x, _ => x = lv
 | 7, x, _ => x = sv
 | 8, x, _ => x = .int .i64 i
 | 9, x, _ => x = .pointer (some ⟨sb, so + i, none⟩)
 | 10, x, _ => x = pv
 | 11, x, _ => x = sv
 | 12, x, _ => x = .int .i64 i
 | 13, x, _ => x = .pointer (some ⟨sb, so + i, none⟩)
 | 14, x, _ => x = pv
 | 15, x, w => ∃ s : Sl, x = .slice s.ad s.n s.c /\ Slc.Own w W0.heap.size 9 1 encS s.val nn.ex
 | 16, x, _ => x = .int .i64 A
 | 17, x, w => ∃ s : Sl, x = .slice s.ad s.n s.c /\ Slc.Own w W0.heap.size 3 1 encI s.val [A]
 | 18, x, w => ∃ s q : Sl, x = .agg #[pv, .slice s.ad s.n s.c, .slice q.ad q.n q.c] /\ Slc.Own w W0.heap.size 9 1 encS s.val nn.ex /\ Slc.Own w W0.heap.size 3 1 encI q.val [A]
 | 19, x, w => ∃ t s q : Sl, x = .slice t.ad t.n t.c /\ Slc.Own w W0.heap.size 65 3 encV t.val (insT vs ⟨nn, s, q⟩) /\ Slc.Own w W0.heap.size 9 1 encS s.val nn.ex /\ Slc.Own w W0.heap.size 3 1 encI q.val nn.par
 | 20, x, _ => x = .pointer (some ⟨gb, n, none⟩)
 | 21, x, _ => x = .pointer (some ⟨gb, n, none⟩)
 | _, _, _ => True
theorem RcF.stable (W0 : World) (v lv sv pv : Value) (n gb i sb so : Nat) (A : Int) (vs : List Vt) (nn : Vx) (u : Unit) (j : Nat) (x : Value) (w w' : World) (h : RcF W0 v lv sv pv n gb i sb so A vs nn u j x w) (hb : Below w.heap.size w w') : RcF W0 v lv sv pv n gb i sb so A vs nn u j x w' := by
 match j with
 | 0 | 1 | 2 | 3 | 4 | 5 | 6 | 7 | 8 | 9 | 10 | 11 | 12 | 13 | 14 | 16 | 20 | 21 => exact h
 | 15 => obtain ⟨s, h1, h2⟩ := h; exact ⟨s, h1, h2.below hb⟩
 | 17 => obtain ⟨s, h1, h2⟩ := h; exact ⟨s, h1, h2.below hb⟩
 | 18 => obtain ⟨s, q, h1, h2, h3⟩ := h; exact ⟨s, q, h1, h2.below hb, h3.below hb⟩
 | 19 => obtain ⟨t, s, q, h1, h2, h3, h4⟩ := h; exact ⟨t, s, q, h1, h2.below hb, h3.below hb, h4.below hb⟩
 | _ + 22 => exact trivial
def RdF (W0 : World) (v lv qv : Value) (n gb k lb : Nat) (A : Int) (out : List Int) : Nat -> Value -> World -> Prop
 | 0, x, _ => x = v
 | 1, x, _ => x = .int .i64 n
 | 2, x, _ => x = .pointer (some ⟨gb, n, none⟩)
 | 3, x, _ => x = .pointer (some ⟨gb, n, none⟩)
 | 4, x, _ => x = lv
 | 5, x, _ => x = .int .i64 k
 | 6, x, _ => x = v
 | 7, x, _ => x = .int .i64 n
 | 8, x, _ => x = .pointer (some ⟨gb, n, none⟩)
 | 9, x, _ => x = .pointer (some ⟨gb, n, none⟩)
 | 10, x, _ => x = lv
 | 11, x, _ => x = .int .i64 k
 | 12, x, _ => x = .pointer (some ⟨lb, k * 3, none⟩)
 | 13, x, _ => x = .pointer (some ⟨lb, k * 3 + 2, none⟩)
 | 14, x, _ => x = qv
 | 15, x, _ => x = .int .i64 A
 | 16, x, w => ∃ s : Sl, x = .slice s.ad s.n s.c /\ Slc.Own w W0.heap.size 3 1 encI s.val out
 | 17, x, _ => x = .pointer (some ⟨lb, k * 3, none⟩)
 | 18, x, _ => x = .pointer (some ⟨lb, k * 3 + 2, none⟩)
 | _, _, _ => True
theorem RdF.stable (W0 : World) (v lv qv : Value) (n gb k lb : Nat) (A : Int) (out : List Int) (j : Nat) (x : Value) (w w' : World) (h : RdF W0 v lv qv n gb k lb A out j x w) (hb : Below w.heap.size w w') : RdF W0 v lv qv n gb k lb A out j x w' := by
 match j with
 | 0 | 1 | 2 | 3 | 4 | 5 | 6 | 7 | 8 | 9 | 10 | 11 | 12 | 13 | 14 | 15 | 17 | 18 => exact h
 | 16 => obtain ⟨s, h1, h2⟩ := h; exact ⟨s, h1, h2.below hb⟩
 | _ + 19 => exact trivial
theorem asc_fresh {l : List B} (h : l.Pairwise (· < ·)) {i : Nat} (hi : i < l.length) : l[i] ∉ l.take i := fun q => by
 obtain ⟨j, hj, e⟩ := List.getElem_of_mem q;rw [List.length_take] at hj;rw [List.getElem_take] at e;have := List.pairwise_iff_getElem.1 h j i (by omega) hi (by omega);rw [e] at this;exact List.lt_irrefl _ this
theorem wanG_ne {g : List (List Vx)} (ps : List B) {n : Nat} (hn : n + 1 < g.length) : ∀ v ∈ (wanG ps g (n + 1))[n + 1]!, v.par ≠ [] := fun v hv => by
 rw [wanG, wanK_at (by rw [wanG_len]; omega), if_pos rfl] at hv;exact (keepT_iff.1 hv).2
theorem res_pg {F : List (List Vx)} (hP : PG F) {n0 : Nat} (hn : n0 + 2 = F.length) (hl : (F[n0 + 1]!).length <= 40000) (hb : PB 40000 F) {AB : Int} (ha : 0 <= AB /\ AB < ((F[n0]!).length : Int)) (ks : List B) (hk : ks.length <= 40000) : PG (F.set (n0 + 1) (resL [] AB F[n0 + 1]! ks)) /\ ∀ v ∈ resL [] AB F[n0 + 1]! ks, v.par.length <= 80000 := by
 have h1 := resL_par (has := []) ha ks F[n0 + 1]! 40000 (fun v hv => ⟨hb _ (by rw [getElem!_pos F (n0 + 1) (by omega)]; exact zM _) v hv, fun p hp => hP.par n0 (by omega) v hv p hp⟩);exact ⟨hP.setLast hn (by have := resL_len [] AB ks F[n0 + 1]!; omega) fun v hv p hp => (h1 v hv).2 p hp, fun v hv => by have := (h1 v hv).1; omega⟩
theorem rgrestr_any (w : World) (v pv : Value) (g : List Lv) (ps : List B) (h : GQ w v g) (hp : Rd w encS pv ps) (hn : g.length <= 90000) (hln : ∀ L ∈ g, L.vs.length <= 40000) (hpb : PB 40000 (gxs g)) (hpl : ps.length <= 40000) (hpx : ∀ p ∈ ps, p.length <= 1000000) :
  Calls Tryz.prog 29 #[v, pv] w fun e w' => GrN w (gresP (gxs g) ps) e w' := by
 obtain ⟨ib, hib, hib0, hib1, hib2⟩ := info_parts info_int;obtain ⟨is, his, his0, his1, his2⟩ := info_parts info_str;have mixed : Tryz.prog.follows .mixedOrders = true := by kernel_rfl
 have hval := rgvalid_q w v g h (by omega) (fun L hL => by have := hln L hL; omega);obtain ⟨R, hR⟩ : ∃ R, R = gresP (gxs g) ps := ⟨_, rfl⟩
 rw [<- hR];unfold gresP at hR;obtain ⟨ad, c, rfl, -⟩ := h.rd.form;obtain ⟨pa, pc, rfl, -⟩ := hp.form;have HQ := Bx.mk h;have HP := Bx.mk hp;have HLN := Bx.mk hln;have HPX := Bx.mk hpx;have HPB := Bx.mk hpb;obtain ⟨N, hN⟩ : ∃ N, N = g.length := ⟨_, rfl⟩
 have HN := Bx.mk hN;obtain ⟨PN, hPN⟩ : ∃ N, N = ps.length := ⟨_, rfl⟩
 have HPN := Bx.mk hPN;obtain ⟨V, hV⟩ : ∃ V, V = gvalidB (gxs g) := ⟨_, rfl⟩
 rw [<- hV] at hval hR;have HV := Bx.mk hV;have HRR := Bx.mk hR;rw [<- hN] at hn hval |-;rw [<- hPN] at hpl |-;clear h hp hln hpx hpb hN hPN hV hR;unfold GrN;go_enter Tryz.func29, Tryz.ntmps29;go_wp2_with fail
 go_at_call 16;refine hval.mono ?_;rintro e w1 ⟨rfl, hb1⟩;clear hval
 cases V with
 | false =>
  have HF := Bx.mk (show R = ([], 7) by rw [HRR.out]; rfl);go_wp2_with fail
  go_ret2
  exact ⟨_, [], by rw [HF.out]; rfl, GO.nil _ _, by rw [HF.out]; rfl, hb1, NQ.nil _⟩
 | true =>
 have HGL := Bx.mk (HQ.out.gl HV.out.symm (fun L hL => by have := HLN.out L hL; omega))
 have HPG := Bx.mk (gvalid_pg HV.out.symm (fun l hl => by
  obtain ⟨L0, h0, rfl⟩ := List.mem_map.1 hl
  rw [vxs_len]; have := HLN.out L0 h0; omega))
 have HOP := Bx.mk (show ∀ (k : Nat), OrdP (gxs g)[k]! from (valid_pv HV.out.symm).ord);have HRF := Bx.mk (show R = (rresG (gxs g) ps, 0) by rw [HRR.out, if_pos rfl, rres_eq HV.out.symm HPG.out])
 have HLB := Bx.mk (show ∀ k : Nat, ((gxs g)[k]!).length <= 40000 from fun k => by
  by_cases hk : k < (gxs g).length
  ·rw [getElem!_pos (gxs g) k hk];obtain ⟨L0, h0, e0⟩ := List.mem_map.1 (zM hk);rw [<- e0, vxs_len]; exact HLN.out L0 h0
  ·rw [getElem!_neg (gxs g) k hk]; show 0 <= 40000; omega)
 obtain ⟨G0, hG0⟩ : ∃ G0, G0 = gxs g := ⟨_, rfl⟩
 have HG0 := Bx.mk hG0;rw [<- hG0] at HPG HOP HRF HPB HLB;have HVAL := Bx.mk (show gvalidB (gxs g) = true from HV.out.symm);have HGN := Bx.mk (show G0.length = N by rw [hG0, gxs_len, HN.out]);have hcp := rcopy_ov w1 (.slice ad N c) g (by rw [HN.out]; exact HGL.out.below hb1) (by rw [<- HN.out]; omega) (fun L hL => by have := HLN.out L hL; omega);have HB1 := Bx.mk hb1;clear hb1 hG0 HRR HV;go_wp2_with fail
 go_at_call 59;refine hcp.mono ?_;rintro e w5 ⟨v5, g5, rfl, hgo, hgx, hb5, hov5⟩;have HNQ5 := Bx.mk (show NQ w.heap.size g5 from (NQ.of_ov hov5).mono HB1.out.size);have HB5 := Bx.mk (HB1.out.trans (hb5.mono HB1.out.size));have HGO5 := Bx.mk (hgo.mono HB1.out.size);have HGX5 := Bx.mk (hgx.trans HG0.out.symm);have HNL5 := Bx.mk (show g5.length = N by rw [gx_len HGX5.out, HGN.out]);obtain ⟨ga, gc, hv5, -⟩ := hgo.own.rd.form;have hv5' : v5 = .slice ga N gc := by rw [hv5, HNL5.out]
 clear hcp hgo hgx hb5 hv5 hov5;have HV5 := Bx.mk hv5';rw [hv5'];have HPR := Bx.mk (show ∀ W, Below w.heap.size w W -> Rd W encS (.slice pa PN pc) ps from fun W hW => by rw [HPN.out]; exact HP.out.below hW);have HPLN := Bx.mk (show ps.length <= 100000 by rw [<- HPN.out]; omega);clear hv5';by_cases h1 : PN = 0
 ·have HF := Bx.mk (show R = (G0, 0) by rw [HRF.out]; unfold rresG; rw [if_pos (.inl (by rw [<- HPN.out]; exact h1))]);have t1 : ((PN : Int) == 0) = true := by simp; omega
  have t1' : (PN : Int) = 0 := by omega
  clear h1;go_wp2_with fail
  go_ret2;exact ⟨_, g5, by rw [HF.out]; rfl, by have := HGO5.out; rwa [HV5.out] at this, by rw [HF.out]; exact HGX5.out, HB5.out, HNQ5.out⟩
 have t1 : ((PN : Int) == 0) = false := by simp; omega
 have t1' : ¬ (PN : Int) = 0 := by omega
 have hin := in_any w5 (.slice pa PN pc) ps anyP (HPR.out w5 HB5.out) HPLN.out;rw [anyP_str] at hin;obtain ⟨A, hA⟩ : ∃ A, A = decide (anyP ∈ ps) := ⟨_, rfl⟩
 have HA := Bx.mk hA;rw [<- hA] at hin;have HP0 := Bx.mk h1;clear hA;go_wp2_with fail
 go_at_call 47;refine hin.mono ?_;rintro e w6 ⟨rfl, rfl⟩;clear hin
 cases A with
 | true =>
  have HF := Bx.mk (show R = (G0, 0) by rw [HRF.out]; unfold rresG; rw [if_pos (.inr (of_decide_eq_true HA.out.symm))]);go_wp2_with fail
  go_ret2
  exact ⟨_, g5, by rw [HF.out]; rfl, by have := HGO5.out; rwa [HV5.out] at this, by rw [HF.out]; exact HGX5.out, HB5.out, HNQ5.out⟩
 | false =>
 have HNA := Bx.mk (show anyP ∉ ps from of_decide_eq_false HA.out.symm)
 have HRG := Bx.mk (show R.2 = 0 /\ R.1 = if N <= 1 \/ fndP (fwdG (r1G ps G0 (N - 1)) (N - 1))[N - 1]! anyP < 0 then pruneG (fwdG (r1G ps G0 (N - 1)) (N - 1)) else pruneG ((fwdG (r1G ps G0 (N - 1)) (N - 1)).set (N - 1) (rresL (fwdG (r1G ps G0 (N - 1)) (N - 1)) (N - 1) ps)) by
  refine ⟨by rw [HRF.out], ?_⟩;rw [HRF.out]
  show rresG G0 ps = _
  unfold rresG;rw [if_neg (by rintro (q | q); exact HP0.out (by rw [HPN.out]; exact q); exact HNA.out q), HGN.out];by_cases hn0 : N = 0
  ·have e0 : G0 = [] := List.eq_nil_of_length_eq_zero (by rw [HGN.out]; exact hn0);rw [if_pos hn0, if_pos (.inl (by omega)), e0, hn0];rfl
  ·rw [if_neg hn0];by_cases hn1 : N = 1
   ·rw [if_pos (.inl hn1), if_pos (.inl (by omega))]
   ·by_cases hf : fndP (fwdG (r1G ps G0 (N - 1)) (N - 1))[N - 1]! anyP < 0
    ·rw [if_pos (.inr hf), if_pos (.inr hf)]
    ·rw [if_neg (by rintro (q | q); exact hn1 q; exact hf q), if_neg (by rintro (q | q); exact absurd q (by omega); exact hf q)])
 have HS5 := Bx.mk (show GStep w5 w.heap.size v5 g5 w5 g5 from GStep.refl HGO5.out);have HX5 := Bx.mk (show gxs g5 = r1G ps G0 (1 - 1) by rw [HGX5.out]; exact (r1G_zero ps G0).symm);clear HRF HA h1 t1 t1';go_wp2_with fail
 go_loopw [7] (fun iv wr => ∃ (j : Nat) (g2 : List Lv), Bx (1 <= j /\ (j <= N \/ j = 1)) /\ iv = .int .i64 (j : Nat) /\ Bx (GStep w5 w.heap.size v5 g5 wr g2) /\ Bx (gxs g2 = r1G ps G0 (j - 1)) /\ Bx (NQ w.heap.size g2)) (fun iv _ => N + 1 - (intOf iv).toNat)
 case atStart => exact ⟨1, g5, ⟨by omega⟩, rfl, HS5, HX5, HNQ5⟩
 case round =>
  clear HS5 HX5 HNQ5;obtain ⟨j, g2, HJ, rfl, hS2, hX2, hQ2⟩ := hrel;have hjb : j <= 90001 := by have := HJ.out; omega
  have HBW := Bx.mk (show Below w.heap.size w wr from HB5.out.trans (hS2.out.bel HGO5.out HB5.out.size));have HNL2 := Bx.mk (show g2.length = N by rw [gx_len hX2.out, r1G_len, HGN.out]);by_cases hlt : j < N
  ·obtain ⟨n, hn1⟩ : ∃ n, n + 1 = j := ⟨j - 1, by have := HJ.out; omega⟩
   subst hn1;have HJ2 := Bx.mk (show n + 1 < g2.length by rw [HNL2.out]; exact hlt);have HJ1 := Bx.mk (show n < g2.length by have := HJ2.out; omega);have hgo := hS2.out.go;rw [HV5.out] at hgo;obtain ⟨gb, rfl, l0, hgf⟩ := hgo.cellL n HJ1.out;obtain ⟨gb', e', x9, -⟩ := hgo.cellL (n + 1) HJ2.out;simp only [zO, Addr.mk.injEq, and_true] at e'
   subst e';have HVA := Bx.mk (hgo.gl.lv _ (zM HJ1.out)).q
   have HLA := Bx.mk (show (g2[n]'HJ1.out).vs.length <= 40000 by
    have h1 := gxs_at' g2 n HJ1.out;have h2 : n < G0.length := (by rw [HGN.out]; omega);rw [<- vxs_len, <- h1, hX2.out, len_pols (r1G_pols ps G0 (n + 1 - 1) h2)]
    exact HLB.out n)
   have HLX := Bx.mk (show (g2[n + 1]'HJ2.out).vs.length <= 40000 by
    have h1 := gxs_at' g2 (n + 1) HJ2.out;have h2 : n + 1 < G0.length := (by rw [HGN.out]; omega);rw [<- vxs_len, <- h1, hX2.out, len_pols (r1G_pols ps G0 (n + 1 - 1) h2)]
    exact HLB.out (n + 1))
   obtain ⟨aa, ac, has, -⟩ := HVA.out.rd.form;rw [has] at l0 HVA;have hvt := rvert_any wr _ _ HVA.out (by have := HLA.out; omega) anyP;rw [anyP_str] at hvt;obtain ⟨ST, hST⟩ : ∃ ST, ST = fndP (vxs (g2[n]'HJ1.out).vs) anyP := ⟨_, rfl⟩
   have HST := Bx.mk hST;rw [<- hST] at hvt;obtain ⟨AN, hAN⟩ : ∃ AN, AN = (g2[n]'HJ1.out).vs.length := ⟨_, rfl⟩
   have HAN := Bx.mk hAN;rw [<- hAN] at hvt l0;have hANb : AN <= 40000 := by rw [hAN]; exact HLA.out
   have wn : IntKind.i64.wrap (((n + 1 : Nat) : Int) - 1) = (n : Int) := by rw [IntWalk.i64_in _ (by omega)]; omega
   have HGF := Bx.mk hgf;have hnN : n < N := by omega
   obtain ⟨J, hJ⟩ : ∃ J, J = n + 1 := ⟨_, rfl⟩
   have HJD := Bx.mk hJ;rw [<- hJ] at wn hlt |-;have HX9 := Bx.mk x9;clear hST hAN has hgo hgf hJ x9;go_wp2_with fail
   go_at_call 56;refine hvt.mono ?_;rintro e w8 ⟨rfl, hb8⟩;have HS8 := Bx.mk (hS2.out.below hb8);have HB8 := Bx.mk (HBW.out.trans (hb8.mono HBW.out.size));clear hvt hb8 l0 wn;obtain ⟨X, hX⟩ : ∃ X, X = g2[n + 1]'HJ2.out := ⟨_, rfl⟩
   have HXG := Bx.mk hX;rw [<- hX] at HLX HX9;obtain ⟨NX, hNX⟩ : ∃ NX, NX = X.vs.length := ⟨_, rfl⟩
   have HNX := Bx.mk hNX;have hXl : NX <= 40000 := by rw [hNX]; exact HLX.out
   obtain ⟨xa, xc, hxs⟩ : ∃ a c, X.s.val = .slice a NX c := by
    obtain ⟨a, c, h1, -⟩ := (HS8.out.go.gl.lv _ (zM HJ2.out)).rd.form;rw [<- hX] at h1;exact ⟨a, c, by rw [hNX]; exact h1⟩
   have HXS := Bx.mk hxs
   have HPX := Bx.mk (show ∀ x ∈ X.vs, x.n.par.length <= 40000 from fun x hx => by
    have h1 := gxs_at' g2 (n + 1) HJ2.out;have h2 : n + 1 < G0.length := (by rw [HGN.out]; have := HJD.out; omega);rw [hX2.out, r1G_at ps G0 _ h2, if_neg (by omega), <- hX] at h1;have h3 : x.n ∈ G0[n + 1]! := (by rw [h1]; exact List.mem_map.2 ⟨x, hx, rfl⟩);rw [getElem!_pos G0 (n + 1) h2] at h3
    exact HPB.out _ (zM h2) _ h3)
   have hse : g2.set (n + 1) ⟨X.vs, X.s⟩ = g2 := by
    apply List.ext_getElem
    ·simp
    ·intro q h1 h2;rw [List.getElem_set];split
     ·rename_i e; subst e; exact hX
     ·rfl
   have HS := Bx.mk (show GStep w5 w.heap.size v5 g5 w8 (g2.set (n + 1) ⟨X.vs, X.s⟩) by rw [hse]; exact HS8.out);have HNQ := Bx.mk (show NQ w.heap.size (g2.set (n + 1) ⟨X.vs, X.s⟩) by rw [hse]; exact hQ2.out);clear hX hNX hxs hse HS8;go_wp2_with fail
   go_loopw [9] (fun iv wr => ∃ (q : Nat) (vs2 : List Vt), q <= NX /\ iv = .int .i64 q /\ Bx (vs2.length = NX) /\ Bx (∀ r, r < NX -> (r < q -> (vs2[r]!).n = wanV ps ST (X.vs[r]!).n) /\ (q <= r -> vs2[r]! = X.vs[r]!)) /\ Bx (NQ w.heap.size (g2.set (n + 1) ⟨vs2, X.s⟩)) /\ Bx (GStep w5 w.heap.size v5 g5 wr (g2.set (n + 1) ⟨vs2, X.s⟩))) (fun iv _ => NX - (intOf iv).toNat)
   case atStart => exact ⟨0, X.vs, by omega, rfl, ⟨HNX.out.symm⟩, ⟨fun r hr => ⟨fun h => by omega, fun _ => rfl⟩⟩, HNQ, HS⟩
   case round =>
    clear HS HNQ;obtain ⟨q, vs2, hq, rfl, hvl, hvs, hvn, hS⟩ := hrel;obtain ⟨g3, hg3⟩ : ∃ g3, g3 = g2.set (n + 1) ⟨vs2, X.s⟩ := ⟨_, rfl⟩
    have HG3 := Bx.mk hg3;rw [<- hg3] at hS hvn;have HK2 := Bx.mk (show n + 1 < g3.length by rw [hg3, zL]; exact HJ2.out);have HX2 := Bx.mk (show g3[n + 1]'HK2.out = ⟨vs2, X.s⟩ by simp only [hg3]; rw [List.getElem_set, if_pos rfl]);clear hg3;have hgo3 := hS.out.go;rw [HV5.out] at hgo3;obtain ⟨gb3, he3, x9, -⟩ := hgo3.cellL (n + 1) HK2.out;simp only [zO, Addr.mk.injEq, and_true] at he3
    subst he3;rw [HX2.out] at x9;simp only [HXS.out] at x9
    rw [<- HJD.out] at x9;clear hgo3;by_cases hlt2 : q < NX
    ·have HQL := Bx.mk (show q < vs2.length by rw [hvl.out]; exact hlt2);have hql := HQL.out;have hqX : q < X.vs.length := (by rw [<- HNX.out]; exact hlt2);have hown := hS.out.go.lv _ (zM HK2.out);rw [HX2.out] at hown
     have hxe : vs2[q] = X.vs[q] := by
      have := (hvs.out q hlt2).2 (zR _);rwa [getElem!_pos vs2 q hql, getElem!_pos X.vs q hqX] at this
     have hxm := HPX.out _ (zM hqX);have hnm := hS.out.go.nm _ (zM HK2.out) (vs2[q]) (by rw [HX2.out]; exact zM hql);obtain ⟨x, hx⟩ : ∃ x, x = vs2[q]'HQL.out := ⟨_, rfl⟩
     rw [<- hxe, <- hx] at hxm;rw [<- hx] at hnm;have HXE := Bx.mk hx;have HNM := Bx.mk hnm;have hown' := hown;rw [HXS.out] at hown'
     obtain ⟨nb, hnb, c0, c1, c2, hfz⟩ : ∃ nb, xa = some ⟨nb, 0, none⟩ /\ wr.cell? ⟨nb, q * 3, none⟩ = some (.string (bstr x.n.pol)) /\ wr.cell? ⟨nb, q * 3 + 1, none⟩ = some x.u.val /\ wr.cell? ⟨nb, q * 3 + 2, none⟩ = some x.q.val /\ ∀ i, wr.frozen? ⟨nb, i, none⟩ = false := by
      obtain ⟨nb, cap, hv, -, -, hfr, -, -⟩ := hown'.set1 encV_ok q 0 hql (by omega) (.string (bstr (vs2[q]).n.pol)) vs2[q] rfl;simp only [Value.slice.injEq] at hv
      obtain ⟨rfl, -, -⟩ := hv;have hc := fun i u (hi : i < 3) (hu : (encV vs2[q])[i]? = some u) => hown'.cell encV_ok q hql i hi u hu
      rw [<- hx] at hc;exact ⟨nb, rfl, hc 0 _ (by omega) rfl, hc 1 _ (by omega) rfl, hc 2 _ (by omega) rfl, hfr⟩
     subst hnb;have HXX := Bx.mk (show (X.vs[q]!).n = x.n by rw [getElem!_pos X.vs q hqX, <- hxe, <- hx])
     have HSTAY := Bx.mk (show wanV ps ST x.n = x.n -> ∀ r, r < NX -> (r < q + 1 -> (vs2[r]!).n = wanV ps ST (X.vs[r]!).n) /\ (q + 1 <= r -> vs2[r]! = X.vs[r]!) from fun he r hr => by
      have h0 := hvs.out r hr;refine ⟨fun h => ?_, fun h => h0.2 (by omega)⟩;by_cases e : r = q
      ·subst e;rw [h0.2 (zR _), HXX.out, he]
      ·exact h0.1 (by omega))
     obtain ⟨pa2, pc2, hpq, -⟩ := RqIn.form hnm.2.1;have HPC := Bx.mk (Ri.cells (hpq ▸ hnm.2.1.all));obtain ⟨PL, hPL⟩ : ∃ PL, PL = x.n.par.length := ⟨_, rfl⟩
     have HPL := Bx.mk hPL;have hPLb : PL <= 40000 := (by rw [hPL]; exact hxm);rw [hpq, <- hPL] at c2;have HPQ := Bx.mk (show x.q.val = .slice pa2 PL pc2 by rw [hpq, hPL]);have l3 := same_any x.n.pol;obtain ⟨S, hS3⟩ : ∃ S, S = decide (x.n.pol = anyP) := ⟨_, rfl⟩
     have HSP := Bx.mk (show specV x.n = S from hS3.symm);rw [<- hS3] at l3;have hin := in_any wr (.slice pa PN pc) ps x.n.pol (HPR.out wr (HB5.out.trans (hS.out.bel HGO5.out HB5.out.size))) HPLN.out;obtain ⟨I, hI⟩ : ∃ I, I = decide (x.n.pol ∈ ps) := ⟨_, rfl⟩
     rw [<- hI] at hin;have HWV := Bx.mk (show wanV ps ST x.n = if S || I then x.n else ⟨x.n.pol, x.n.ex, cutP ST x.n.par⟩ by rw [wanV_eq, HSP.out, hI]; rfl);clear hown hown' hxe hxm hnm hx hpq hPL hql hqX hS3 hI c1
     cases S with
     | true =>
      have hrl := HSTAY.out (by rw [HWV.out]; rfl);have HRL := Bx.mk hrl;clear hrl hin hfz c2;go_wp2_with fail
      go_roundw
      case rel => exact ⟨q + 1, vs2, by omega, by go_num, hvl, HRL, (by rw [<- HG3.out]; exact hvn), (by rw [<- HG3.out]; exact hS)⟩
      case measure => simp [intOf]; omega
     | false =>
     go_wp2_with fail
     go_at_call 47;refine hin.mono ?_;rintro e w9 ⟨rfl, rfl⟩;clear hin
     cases I with
     | true =>
      have hrl := HSTAY.out (by rw [HWV.out]; rfl);have HRL := Bx.mk hrl;clear hrl hfz c2;go_wp2_with fail
      go_roundw
      case rel => exact ⟨q + 1, vs2, by omega, by go_num, hvl, HRL, (by rw [<- HG3.out]; exact hvn), (by rw [<- HG3.out]; exact hS)⟩
      case measure => simp [intOf]; omega
     | false =>
     have HWC := Bx.mk (show wanV ps ST x.n = ⟨x.n.pol, x.n.ex, cutP ST x.n.par⟩ by rw [HWV.out]; rfl);obtain ⟨W4, hW4⟩ : ∃ W4, W4 = wr := ⟨_, rfl⟩
     have HB0 := Bx.mk (show Below W4.heap.size W4 wr by rw [hW4]; exact Below.refl _ _);rw [<- hW4] at hS HNM HPC c2 hfz;have HS4 := Bx.mk hS.out;have HC2 := Bx.mk c2;have HFZ := Bx.mk hfz;clear hfz hS hW4 c0 l3 x9 c2 HSTAY HWV;have hnbl : nb < W4.heap.size := World.block_lt_of_cell? W4 _ HC2.out;have HNBL := Bx.mk hnbl;go_wp2_with fail
     go_loopw [11, 12] (fun pv iv wz => ∃ m : Nat, m <= PL /\ iv = .int .i64 m /\ Bx (Slc.Own wz W4.heap.size 3 1 encI pv (cutP ST (x.n.par.take m))) /\ Bx (Below W4.heap.size W4 wz)) (fun _ iv _ => PL - (intOf iv).toNat)
     case atStart => exact ⟨0, by omega, rfl, ⟨Slc.Own.nil _ _⟩, HB0⟩
     case round =>
      clear HB0;obtain ⟨m, hm', rfl, hO5, hB5⟩ := hrel;obtain ⟨ra, rc, rfl, -⟩ := hO5.out.rd.form;obtain ⟨RL, hRL⟩ : ∃ RL, RL = (cutP ST (x.n.par.take m)).length := ⟨_, rfl⟩
      have HRL := Bx.mk hRL;have hRLb : RL <= m := (by rw [hRL]; exact Nat.le_trans (cutP_len _ _) (by rw [List.length_take]; omega));have c2 := (hB5.out.cell (p := ⟨nb, q * 3 + 2, none⟩) hnbl).trans HC2.out;rw [<- hRL];clear hRL;by_cases hlt3 : m < PL
      ·have hnl : m < x.n.par.length := by rw [<- HPL.out]; exact hlt3
       obtain ⟨bp, op, rfl, hbp, d0⟩ := HPC.out wr hB5.out m hnl;have HTK := Bx.mk (zA hnl);obtain ⟨p, hp⟩ : ∃ p, p = x.n.par[m] := ⟨_, rfl⟩
       rw [<- hp] at d0 HTK;have HRS := Bx.mk (show cutP ST (x.n.par.take (m + 1)) = cutP ST (x.n.par.take m) ++ if p = ST then [] else [p] by rw [HTK.out, cutP_snoc]);clear hp hnl;by_cases hps : p = ST
       ·subst hps;have t1 : (p != p) = false := by simp
        have HO6 := Bx.mk (show Slc.Own wr W4.heap.size 3 1 encI (.slice ra RL rc) (cutP p (x.n.par.take (m + 1))) by
         rw [HRS.out, if_pos rfl, List.append_nil];have := hO5.out
         rwa [<- HRL.out] at this)
        go_wp2_with fail
        go_roundw
        case rel => exact ⟨m + 1, by omega, by go_num, HO6, hB5⟩
        case measure => simp [intOf]; omega
       ·have t1 : (p != ST) = true := by simp [hps]
        have t2 : ¬ p = ST := hps;have HSRC := Bx.mk (src_int wr p);have HE := Bx.mk (show cutP ST (x.n.par.take (m + 1)) = cutP ST (x.n.par.take m) ++ [p] by rw [HRS.out, if_neg hps]);have hba : Below wr.heap.size wr (wr.alloc (.cells #[.int .i64 p] 3)) := (Below.refl _ _).alloc (zR _) _;have HBA := Bx.mk hba;have ho := hO5.out.below hba;rw [<- HRL.out] at ho;have HOW := Bx.mk ho;unfold Slc.Own at ho;rw [<- HRL.out] at ho;have hm1 : RL + 1 <= maxLen := (by unfold maxLen; omega);have hm2 : (RL + 1) * 8 <= 140737488355328 := (by omega);have hbz : W4.heap.size <= (wr.alloc (.cells #[.int .i64 p] 3)).heap.size := (by have := hB5.out.size; simp; omega);have HOWR := Bx.mk ho;have HBZ := Bx.mk hbz;clear hps hba ho hbz;go_wp2_with (at_builtin; refine wpList_append_any rfl _ _ _ rfl W4.heap.size 3 ib _ 1 8 und_ints hib hib0 hib1 hib2 rfl (by decide) _ RL ((cutP ST (x.n.par.take m)).flatMap encI) rfl HOWR.out _ 1 ([p].flatMap encI) rfl HSRC.out hm1 hm2 HBZ.out ?_)
        intro v6 w6 hapd;have HO6 := Bx.mk (show Slc.Own w6 W4.heap.size 3 1 encI v6 (cutP ST (x.n.par.take (m + 1))) by rw [HE.out]; exact HOW.out.apd (m := [p]) rfl rfl HRL.out rfl hapd);have HB6 := Bx.mk (show Below W4.heap.size W4 w6 from (hB5.out.trans (HBA.out.mono hB5.out.size)).grown hapd.grown HBZ.out fun q hq => (HOW.out.lt q hq).1);clear hapd hm1 hm2 d0 c2 t1 t2;go_wp2_with fail
        go_roundw
        case rel => exact ⟨m + 1, by omega, by go_num, HO6, HB6⟩
        case measure => simp [intOf]; omega
      ·obtain rfl : m = PL := by omega
       have hRV : x.n.par.take m = x.n.par := (by rw [HPL.out, List.take_length]);have hgoz := HS4.out.go.below hB5.out;have hq2 : q < (g3[n + 1]'HK2.out).vs.length := (by rw [HX2.out]; exact HQL.out);have hgx : (g3[n + 1]'HK2.out).vs[q]'hq2 = x := (by rw [HXE.out]; congr 1; rw [HX2.out]);have hO6 := hO5.out;rw [hRV, <- show RL = (cutP ST x.n.par).length by rw [HRL.out, hRV]] at hO6
       have hpar : RqIn wr (fun j => ¬ GB v5 g3 j) encI (.slice ra RL rc) (cutP ST x.n.par) := .inr ⟨hO6.rd, fun r hr hn => by
        have h1 := (hO6.lt r hr).1;have h2 := (HS4.out.go.lt hn).2
        omega⟩
       have hxin : VtIn wr (fun j => ¬ GB v5 g3 j) ⟨⟨x.n.pol, x.n.ex, cutP ST x.n.par⟩, x.u, ⟨ra, RL, rc⟩⟩ :=
        ⟨(HNM.out.below hB5.out).1, hpar, wanV_ok HNM.out.2.2⟩
       obtain ⟨nb', cap', hv', hnl', hfr', hgo', hgr'⟩ := hgoz.setV (n + 1) HK2.out q hq2 2 (by omega) (.slice ra RL rc) ⟨⟨x.n.pol, x.n.ex, cutP ST x.n.par⟩, x.u, ⟨ra, RL, rc⟩⟩ (by rw [hgx]; rfl) hxin;have hv2 : (g3[n + 1]'HK2.out).s.val = .slice (some ⟨nb, 0, none⟩) NX xc := (by rw [HX2.out]; exact HXS.out);rw [hv2] at hv';simp only [Value.slice.injEq, zO, Addr.mk.injEq, and_true] at hv'
       obtain ⟨rfl, -, -⟩ := hv'
       have hset : g3.set (n + 1) ⟨(g3[n + 1]'HK2.out).vs.set q ⟨⟨x.n.pol, x.n.ex, cutP ST x.n.par⟩, x.u, ⟨ra, RL, rc⟩⟩, (g3[n + 1]'HK2.out).s⟩ = g2.set (n + 1) ⟨vs2.set q ⟨⟨x.n.pol, x.n.ex, cutP ST x.n.par⟩, x.u, ⟨ra, RL, rc⟩⟩, X.s⟩ := by
        rw [HX2.out, HG3.out, List.set_set]
       rw [hset] at hgo';have hnbG : GB v5 g5 nb \/ w5.heap.size <= nb := HS4.out.nb nb (.inr ⟨_, zM HK2.out, by rw [hv2]; rfl⟩);have z2 := hfr' (q * 3 + 2);obtain ⟨W8, hW8⟩ : ∃ W8, W8 = wr.setCell ⟨nb, q * 3 + 2, none⟩ (.slice ra RL rc) := ⟨_, rfl⟩
       have HW8 := Bx.mk hW8;rw [<- hW8] at hgo' hgr'
       have HS8 := Bx.mk (show GStep w5 w.heap.size v5 g5 W8 (g2.set (n + 1) ⟨vs2.set q ⟨⟨x.n.pol, x.n.ex, cutP ST x.n.par⟩, x.u, ⟨ra, RL, rc⟩⟩, X.s⟩) from
        (HS4.out.below hB5.out).trans ⟨hgo', Fr.of_grown (S := GB v5 g3) hgr' (fun r hr => by
          simp only [zO] at hr; subst hr; exact .inr ⟨_, zM HK2.out, by rw [hv2]; rfl⟩), fun r hr => by
         rw [<- hset] at hr
         exact .inl ((GB.same HK2.out _).1 hr)⟩)
       have HV8 := Bx.mk (show ∀ r, r < NX -> (r < q + 1 -> ((vs2.set q ⟨⟨x.n.pol, x.n.ex, cutP ST x.n.par⟩, x.u, ⟨ra, RL, rc⟩⟩)[r]!).n = wanV ps ST (X.vs[r]!).n) /\ (q + 1 <= r -> (vs2.set q ⟨⟨x.n.pol, x.n.ex, cutP ST x.n.par⟩, x.u, ⟨ra, RL, rc⟩⟩)[r]! = X.vs[r]!) from fun r hr => by
        have hr2 : r < vs2.length := (by rw [hvl.out]; exact hr);have h0 := hvs.out r hr;rw [getElem!_pos vs2 r hr2] at h0;rw [getElem!_pos (vs2.set q _) r (by simpa using hr2), List.getElem_set];by_cases e : q = r
        ·subst e;rw [if_pos rfl, HXX.out, HWC.out];exact ⟨fun _ => rfl, fun h => by omega⟩
        ·rw [if_neg e]
         exact ⟨fun h => h0.1 (by omega), fun h => h0.2 (by omega)⟩)
       have HVN8 := Bx.mk (show NQ w.heap.size (g2.set (n + 1) ⟨vs2.set q ⟨⟨x.n.pol, x.n.ex, cutP ST x.n.par⟩, x.u, ⟨ra, RL, rc⟩⟩, X.s⟩) by
        rw [<- hset];refine hvn.out.set (n + 1) fun y hy kb hkb => ?_
        rcases List.mem_or_eq_of_mem_set hy with e | rfl
        ·exact hvn.out _ (zM HK2.out) y e kb hkb
        ·rcases hkb with e | e
         ·exact hvn.out _ (zM HK2.out) x (by rw [<- hgx]; exact zM _) kb (.inl e)
         ·have h1 := (hO6.lt kb e).1;have h2 := HS4.out.fr.size;have h3 := HB5.out.size
          omega)
       have HVL8 := Bx.mk (show (vs2.set q ⟨⟨x.n.pol, x.n.ex, cutP ST x.n.par⟩, x.u, ⟨ra, RL, rc⟩⟩).length = NX by rw [zL]; exact hvl.out);clear hW8 hgo' hgr' hset hv2 hfr' hnbG hO6 hpar hxin hgoz hgx hRV hnl';go_wp2_with fail
       rw [<- HW8.out];go_roundw
       case rel => exact ⟨q + 1, _, by omega, by go_num, HVL8, HV8, HVN8, HS8⟩
       case measure => simp [intOf]; omega
    ·obtain rfl : q = NX := by omega
     have HXF := Bx.mk (show gxs g3 = r1G ps G0 (J + 1 - 1) by
      have hnG : n + 1 < G0.length := (by rw [HGN.out, <- HJD.out]; exact hlt);rw [HG3.out];have e1 : gxs (g2.set (n + 1) ⟨vs2, X.s⟩) = (gxs g2).set (n + 1) (vxs vs2) := List.map_set;rw [e1, show J + 1 - 1 = n + 1 by rw [HJD.out]; rfl, <- r1G_succ ps G0 hnG];have e2 : gxs g2 = r1G ps G0 n := hX2.out;rw [e2];congr 1
      have e3 : (r1G ps G0 n)[n]! = vxs (g2[n]'HJ1.out).vs := (by rw [<- e2]; exact gxs_at' g2 n HJ1.out);have e4 : (r1G ps G0 n)[n + 1]! = vxs X.vs := (by rw [<- e2, HXG.out]; exact gxs_at' g2 (n + 1) HJ2.out);rw [e3, e4, <- HST.out];unfold wanL;apply List.ext_getElem
      ·simp [vxs, hvl.out, HNX.out]
      ·intro r h1 h2;have hr1 : r < vs2.length := (by simpa [vxs] using h1);have hr2 : r < X.vs.length := (by rw [<- HNX.out, <- hvl.out]; exact hr1);have := (hvs.out r (by rw [<- hvl.out]; exact hr1)).1 (by rw [<- hvl.out]; exact hr1);rw [getElem!_pos vs2 r hr1, getElem!_pos X.vs r hr2] at this;simp only [vxs, List.getElem_map]
       exact this)
     go_wp2_with fail
     go_roundw
     case rel => exact ⟨J + 1, g3, ⟨by omega⟩, by go_num, hS, HXF, hvn⟩
     case measure => simp [intOf]; omega
  ·have HX2 := Bx.mk (show gxs g2 = r1G ps G0 (N - 1) by rw [hX2.out]; congr 1; have := HJ.out; omega);have HPGR := Bx.mk (show PG (gxs g2) by rw [HX2.out]; exact r1G_pg HPG.out _);have horp := rorph_any wr w.heap.size v5 g2 hS2.out.go HPGR.out (by rw [HNL2.out]; omega);rw [HV5.out] at horp;clear hX2;go_wp2_with fail
   go_at_call 75;refine horp.mono ?_;rintro e w10 ⟨⟨u0, rfl⟩, g4, hS4, hX4, hnk4⟩;rw [<- HV5.out] at hS4;obtain ⟨F, hF⟩ : ∃ F, F = fwdG (r1G ps G0 (N - 1)) (N - 1) := ⟨_, rfl⟩
   have HF := Bx.mk hF;have HXF := Bx.mk (show gxs g4 = F by rw [hX4, HX2.out, HNL2.out, hF]);rw [<- hF] at HRG;have HS4 := Bx.mk (hS2.out.trans hS4);have HGO4 := Bx.mk hS4.go;have HNQ4 := Bx.mk (hnk4 w.heap.size HBW.out.size hQ2.out);have HB10 := Bx.mk (show Below w.heap.size w w10 from HB5.out.trans (HS4.out.bel HGO5.out HB5.out.size));have HFL := Bx.mk (show F.length = N by rw [hF, fwdG_len, r1G_len, HGN.out]);have HNL4 := Bx.mk (show g4.length = N by rw [gx_len HXF.out, HFL.out]);have HPF := Bx.mk (show PG F by rw [hF]; exact fwdG_pg (r1G_pg HPG.out _) (N - 1) (by rw [r1G_len, HGN.out]; omega));have HPF4 := Bx.mk (show PG (gxs g4) by rw [HXF.out]; exact HPF.out);clear horp hS4 hX4 hnk4 hF hS2 hQ2;by_cases hN1 : N <= 1
   ·obtain ⟨z0, hz0⟩ : ∃ z0, z0 = (N : Int) - 1 := ⟨_, rfl⟩
    have wn : IntKind.i64.wrap ((N : Int) - 1) = z0 := (by rw [IntWalk.i64_in _ (by omega)]; omega);have t1 : decide (z0 < 1) = true := (by rw [decide_eq_true_eq]; omega);have HREQ := Bx.mk (show R.1 = pruneG F by rw [HRG.out.2, if_pos (.inl hN1)]);clear hz0 hN1;have hprn := rprune_any w10 w.heap.size v5 g4 HGO4.out HPF4.out (by rw [show g4.length = N from HNL4.out]; omega);rw [HV5.out] at hprn;have HGLT := Bx.mk (fun k => (HGO4.out : GO w10 w.heap.size v5 g4).lt (k := k));go_wp2_with fail
    go_at_call 58;refine hprn.mono ?_;rintro e w12 ⟨v12, g12, rfl, hgo12, hgx12, hfr12, -, hnk12⟩;have HNQ12 := Bx.mk (hnk12 w.heap.size HB10.out.size HNQ4.out);have hb12 : Below w.heap.size w10 w12 := hfr12.below (fun j hj => (HGLT.out j (by rw [HV5.out]; exact hj)).1) HB10.out.size;have HB12 := Bx.mk (HB10.out.trans hb12);have HG12 := Bx.mk hgo12;have HX12 := Bx.mk (show gxs g12 = R.1 by rw [hgx12]; rw [HXF.out, HREQ.out]);obtain ⟨xa, xc, rfl, -⟩ := hgo12.own.rd.form;clear hprn hgo12 hgx12 hfr12 hb12 hnk12;go_wp2_with fail
    go_ret2;exact ⟨_, g12, by rw [HRG.out.1]; rfl, HG12.out, HX12.out, HB12.out, HNQ12.out⟩
   obtain ⟨n0, hn0⟩ : ∃ n0, n0 + 2 = N := ⟨N - 2, by omega⟩
   obtain ⟨n1, hn1⟩ : ∃ n1, n1 = n0 + 1 := ⟨_, rfl⟩
   have HN0 := Bx.mk hn0;have HN1 := Bx.mk hn1;have hn1N : n1 < N := by omega
   have hNn : N - 1 = n1 := by omega
   have HNN := Bx.mk hNn;rw [hNn] at HRG HF
   have HFW := Bx.mk (show F = wanG ps G0 n1 by
    have := wan_eq HPG.out HOP.out (by rw [HGN.out]; omega) ps;rw [HGN.out, hNn] at this
    rw [HF.out, this])
   have wn : IntKind.i64.wrap ((N : Int) - 1) = (n1 : Int) := by rw [IntWalk.i64_in _ (by omega)]; omega
   have t1 : decide ((n1 : Int) < 1) = false := by rw [decide_eq_false_iff_not]; omega
   have HK1 := Bx.mk (show n1 < g4.length by rw [HNL4.out]; exact hn1N);have HK0 := Bx.mk (show n0 < g4.length by rw [HNL4.out]; omega);have hgo4 := HGO4.out;rw [HV5.out] at hgo4;obtain ⟨gb, rfl, l1, hgfr⟩ := hgo4.cellL n1 HK1.out;have HGF := Bx.mk hgfr;have HGBL := Bx.mk (World.block_lt_of_cell? w10 _ l1)
   have HCD := Bx.mk (show ∀ W, Below w10.heap.size w10 W -> ∀ d (hd : d < g4.length), W.cell? ⟨gb, d, none⟩ = some (g4[d]).s.val from fun W hW d hd => by
    obtain ⟨b', e, hc, -⟩ := hgo4.cellL d hd;simp only [zO, Addr.mk.injEq, and_true] at e
    subst e
    exact (hW.cell (p := ⟨_, d, none⟩) (World.block_lt_of_cell? w10 _ hc)).trans hc)
   have HVXD := Bx.mk (show ∀ d (hd : d < g4.length), vxs (g4[d]).vs = F[d]! from fun d hd => by rw [<- gxs_at' g4 d hd, HXF.out])
   have HVD := Bx.mk (show ∀ W, Below w10.heap.size w10 W -> ∀ d (hd : d < g4.length) (q : B), Calls Tryz.prog 56 #[(g4[d]).s.val, .string (bstr q)] W fun e w' => e = .returned (.int .i64 (fndP F[d]! q)) /\ Below W.heap.size W w' from fun W hW d hd q => by
    have := rvert_any W _ _ ((HGO4.out.gl.lv _ (zM hd)).q.below hW) (pg_len HPF4.out _ (zM hd)) q;rw [HVXD.out d hd] at this
    exact this)
   clear hgo4 hgfr l1 hn0 hn1 hNn;have hvt := HVD.out w10 (Below.refl _ _) n1 HK1.out anyP;have l1 := HCD.out w10 (Below.refl _ _) n1 HK1.out;obtain ⟨s1, hs1⟩ : ∃ s, s = (g4[n1]'HK1.out).s := ⟨_, rfl⟩
   obtain ⟨z, hz⟩ : ∃ z, z = fndP F[n1]! anyP := ⟨_, rfl⟩
   rw [<- hs1, <- hz, anyP_str] at hvt;rw [<- hs1] at l1;have HZ := Bx.mk hz;have HS1 := Bx.mk hs1;simp only [Sl.val] at hvt l1
   clear hs1 hz;go_wp2_with fail
   go_at_call 56;refine hvt.mono ?_;rintro e w11 ⟨rfl, hb11⟩;have HB11 := Bx.mk hb11;clear hvt hb11 l1 t1;by_cases hz0 : z < 0
   ·have t1 : decide (z < 0) = true := zT hz0;have HREQ := Bx.mk (show R.1 = pruneG F by rw [HRG.out.2, if_pos (.inr (by rw [<- HZ.out]; exact hz0))]);have HBX := Bx.mk (HB10.out.trans (HB11.out.mono HB10.out.size));clear hz0 wn;have hprn := rprune_any w11 w.heap.size v5 g4 (HGO4.out.below HB11.out) HPF4.out (by rw [show g4.length = N from HNL4.out]; omega);rw [HV5.out] at hprn;have HGLT := Bx.mk (fun k => ((HGO4.out.below HB11.out) : GO w11 w.heap.size v5 g4).lt (k := k));go_wp2_with fail
    go_at_call 58;refine hprn.mono ?_;rintro e w12 ⟨v12, g12, rfl, hgo12, hgx12, hfr12, -, hnk12⟩;have HNQ12 := Bx.mk (hnk12 w.heap.size HBX.out.size HNQ4.out);have hb12 : Below w.heap.size w11 w12 := hfr12.below (fun j hj => (HGLT.out j (by rw [HV5.out]; exact hj)).1) HBX.out.size;have HB12 := Bx.mk (HBX.out.trans hb12);have HG12 := Bx.mk hgo12;have HX12 := Bx.mk (show gxs g12 = R.1 by rw [hgx12]; rw [HXF.out, HREQ.out]);obtain ⟨xa, xc, rfl, -⟩ := hgo12.own.rd.form;clear hprn hgo12 hgx12 hfr12 hb12 hnk12;go_wp2_with fail
    go_ret2;exact ⟨_, g12, by rw [HRG.out.1]; rfl, HG12.out, HX12.out, HB12.out, HNQ12.out⟩
   have t1 : decide (z < 0) = false := zF hz0;have HZ0 := Bx.mk (show 0 <= z by omega)
   have HREQ := Bx.mk (show R.1 = pruneG (F.set n1 (rresL F n1 ps)) by
    rw [HRG.out.2, if_neg];rintro (q | q)
    ·have := HN0.out; omega
    ·rw [<- HZ.out] at q; exact hz0 q)
   obtain ⟨AB, hAB⟩ : ∃ AB, AB = fndP F[n0]! anyP := ⟨_, rfl⟩
   have HAB := Bx.mk hAB
   have HAB0 := Bx.mk (show 0 <= AB by
    have hsp : SPG F := (by rw [HFW.out]; exact wanG_spg (gvalid_spg (by rw [HG0.out]; exact HVAL.out)) ps n1 (.inl (by rw [HGN.out]; exact hn1N)));rw [hAB];refine hsp.star (k := n0) (by rw [HFL.out, <- HN1.out]; exact hn1N) ?_
    rw [<- HN1.out, <- HZ.out]; omega)
   have hvt := HVD.out w11 HB11.out n0 HK0.out anyP;have l0 := HCD.out w11 HB11.out n0 HK0.out;obtain ⟨s0, hs0⟩ : ∃ s, s = (g4[n0]'HK0.out).s := ⟨_, rfl⟩
   rw [<- hs0, <- hAB, anyP_str] at hvt;rw [<- hs0] at l0;simp only [Sl.val] at hvt l0
   have wn0 : IntKind.i64.wrap ((n1 : Int) - 1) = (n0 : Int) := by have := HN1.out; rw [IntWalk.i64_in _ (by omega)]; omega
   have hn0N : n0 < N := by have := HN0.out; omega
   clear hs0 hAB hz0;go_wp2_with fail
   go_at_call 56;refine hvt.mono ?_;rintro e w12 ⟨rfl, hb12⟩;have HB12 := Bx.mk (HB11.out.trans (hb12.mono HB11.out.size));clear hvt hb12 l0 wn0 t1 wn;have hset := rset_any w12 (.slice pa PN pc) ps (HPR.out w12 (HB10.out.trans (HB12.out.mono HB10.out.size))) HPLN.out;go_wp2_with fail
   go_at_call 54;refine hset.mono ?_;rintro e w13 ⟨sv, rfl, hso, hb13⟩;have HB13 := Bx.mk (HB12.out.trans (hb13.mono HB12.out.size));obtain ⟨S, hS⟩ : ∃ S, S = setB ps := ⟨_, rfl⟩
   have HS := Bx.mk hS;rw [<- hS] at hso;have HSO := Bx.mk hso;have HSM := Bx.mk (show ∀ p ∈ S, p ∈ ps from fun p hp => setB_mem.1 (by rw [<- hS]; exact hp));have HSL := Bx.mk (show S.length <= 40000 by rw [hS]; have := setB_length ps; rw [<- HPN.out] at this; omega);obtain ⟨sa, sc, hsv, -⟩ := hso.rd.form;obtain ⟨SN, hSN⟩ : ∃ SN, SN = S.length := ⟨_, rfl⟩
   have HSN := Bx.mk hSN;rw [<- hSN] at hsv;subst hsv;have hSNb : SN <= 40000 := by rw [hSN]; exact HSL.out
   have HBS := Bx.mk (Below.refl w13.heap.size w13);clear hset hso hb13 hS hSN;go_wp2_with fail
   go_loopw [16, 17] (fun mv iv wr => ∃ i : Nat, i <= SN /\ iv = .int .i64 i /\ Bx (Slc.Own wr w13.heap.size 9 1 encS mv (moreP F n1 (S.take i))) /\ Bx (Below w13.heap.size w13 wr)) (fun _ iv _ => SN - (intOf iv).toNat)
   case atStart => exact ⟨0, by omega, rfl, ⟨Slc.Own.nil _ _⟩, HBS⟩
   case round =>
    clear HBS;obtain ⟨i, hi, rfl, hO, hB⟩ := hrel;obtain ⟨ma, mc, rfl, -⟩ := hO.out.rd.form;obtain ⟨ML, hML⟩ : ∃ ML, ML = (moreP F n1 (S.take i)).length := ⟨_, rfl⟩
    have HML := Bx.mk hML;rw [<- hML];have hMLb : ML <= 40000 := (by rw [hML]; unfold moreP; exact Nat.le_trans (List.length_filter_le _ _) (by rw [List.length_take]; omega));clear hML;by_cases hlt : i < SN
    ·have hil : i < S.length := by rw [<- HSN.out]; exact hlt
     obtain ⟨sb, so, rfl, hsb, c0⟩ := (strs_cells (show Rd w13 encS (.slice sa S.length sc) S by have := HSO.out.rd; rw [HSN.out] at this; exact this)).2 w13 (Below.refl _ _) i hil;have HTK := Bx.mk (zA hil);obtain ⟨p, hp⟩ : ∃ p, p = S[i] := ⟨_, rfl⟩
     rw [<- hp] at c0 HTK;have HMS := Bx.mk (show moreP F n1 (S.take (i + 1)) = moreP F n1 (S.take i) ++ if thN F p n1 then [] else [p] by rw [HTK.out, moreP_snoc]);obtain ⟨PB, hPB⟩ : ∃ PB, PB = bstr p := ⟨_, rfl⟩
     have HPB := Bx.mk hPB;rw [<- hPB] at c0;have HSB := Bx.mk hsb;have HC0 := Bx.mk c0;obtain ⟨W1, hW1⟩ : ∃ W1, W1 = wr := ⟨_, rfl⟩
     have HB0 := Bx.mk (show Below W1.heap.size W1 wr by rw [hW1]; exact Below.refl _ _);rw [<- hW1] at hO hB;have HT0 := Bx.mk (show false = thN F p (1 - 1) from rfl);clear hp hPB hsb c0 hil hW1;go_wp2_with fail
     go_loopw [18, 19] (fun tv dv wz => ∃ (b : Bool) (d : Nat), Bx (1 <= d /\ d <= N) /\ tv = .bool b /\ dv = .int .i64 d /\ Bx (b = thN F p (d - 1)) /\ Bx (Below W1.heap.size W1 wz)) (fun _ dv _ => N - (intOf dv).toNat)
     case atStart => exact ⟨false, 1, ⟨by omega⟩, rfl, rfl, HT0, HB0⟩
     case round =>
      clear HB0 HT0;obtain ⟨b, d, HD, rfl, rfl, hT, hBz⟩ := hrel;have hdb : d <= 90001 := (by have := HD.out; omega);by_cases hlt2 : d < N
      ·obtain ⟨e, he⟩ : ∃ e, e + 1 = d := ⟨d - 1, by have := HD.out; omega⟩
       have HE := Bx.mk he;have HKD := Bx.mk (show d < g4.length by rw [HNL4.out]; exact hlt2);have HBZ := Bx.mk (show Below w13.heap.size w13 wr from hB.out.trans (hBz.out.mono hB.out.size));have HBD := Bx.mk (show Below w10.heap.size w10 wr from HB13.out.trans (HBZ.out.mono HB13.out.size));obtain ⟨sL, hsL⟩ : ∃ s, s = (g4[d]'HKD.out).s := ⟨_, rfl⟩
       obtain ⟨z2, hz2⟩ : ∃ z, z = fndP F[d]! p := ⟨_, rfl⟩
       have HZ2 := Bx.mk hz2;have HSLV := Bx.mk hsL
       have HCL := Bx.mk (show ∀ W, Below wr.heap.size wr W -> W.cell? ⟨gb, d, none⟩ = some (.slice sL.ad sL.n sL.c) /\ W.cell? ⟨sb, so + i, none⟩ = some (.string PB) from fun W hW => by
        refine ⟨?_, ?_⟩
        ·have := HCD.out W (HBD.out.trans (hW.mono HBD.out.size)) d HKD.out;rw [<- hsL] at this;exact this
        ·exact ((HBZ.out.trans (hW.mono HBZ.out.size)).cell (p := ⟨sb, so + i, none⟩) HSB.out).trans HC0.out)
       have HVT := Bx.mk (show ∀ W, Below wr.heap.size wr W -> Calls Tryz.prog 56 #[.slice sL.ad sL.n sL.c, .string PB] W fun e w' => e = .returned (.int .i64 z2) /\ Below W.heap.size W w' from fun W hW => by
        have := HVD.out W (HBD.out.trans (hW.mono HBD.out.size)) d HKD.out p;rw [<- hsL, <- hz2, <- HPB.out] at this
        exact this)
       have HBC0 := Bx.mk (Below.refl wr.heap.size wr);clear he hsL hz2;go_wp2_with fail
       go_cut [20] (fun s wx => s = .int .i64 z2 /\ Bx (Below wr.heap.size wr wx))
       case first =>
        refine wp_region_facts 9 (MaF (.slice (some ⟨gb, 0, none⟩) N gc) (.slice sL.ad sL.n sL.c) (.slice (some ⟨sb, so, none⟩) SN sc) (.string PB) d gb i sb so) (by kernel_rfl) (by kernel_rfl) (by rfl) (MaF.stable _ _ _ _ _ _ _ _ _) ?_ ?_
        ·intro i' oo hi ho xs w7 hb hd;have hcs : i' = 0 \/ i' = 1 \/ i' = 2 \/ i' = 3 \/ i' = 4 \/ i' = 5 \/ i' = 6 \/ i' = 7 \/ i' = 8 := (by omega);simp only [List.take_succ_cons, List.take_zero, putFrom, Act.put, List.setIfInBounds_toArray, List.set_cons_succ, List.set_cons_zero, Nat.zero_add, Nat.reduceAdd]
         have HB7 := Bx.mk hb;obtain ⟨q0, q2⟩ := HCL.out w7 hb;clear hb;rcases hcs with rfl | rfl | rfl | rfl | rfl | rfl | rfl | rfl | rfl
         all_goals
          simp only [List.getElem?_cons_succ, List.getElem?_cons_zero, zO] at ho
          subst ho;simp [Needs, Region.binds, MaF] at hd
         all_goals clear hi
         all_goals
          go_wp2_with fail
          exact ⟨rfl, rfl, rfl, Below.refl _ _⟩
        ·intro xs w7 hb hf;have f4 := hf 4 (by omega);have f8 := hf 8 (by omega);simp only [MaF] at f4 f8
         have HB7 := Bx.mk hb;have hvt := HVT.out w7 hb;clear hf hb;simp only [List.take_succ_cons, List.take_zero, List.drop_succ_cons, List.drop_zero, putFrom, Act.put, List.setIfInBounds_toArray, List.set_cons_succ, List.set_cons_zero, Nat.zero_add, Nat.reduceAdd, f4, f8]
         clear f4 f8;go_wp2_with fail
         go_at_call 56;refine hvt.mono ?_;rintro e w8 ⟨rfl, hb8⟩;have HB8 := Bx.mk (HB7.out.trans (hb8.mono HB7.out.size));clear hvt hb8;go_wp2_with fail
         go_meet;exact ⟨rfl, HB8⟩
       case rest =>
       obtain ⟨rfl, hbc⟩ := hcut;have HBC := Bx.mk (hBz.out.trans (hbc.out.mono hBz.out.size))
       have HTS := Bx.mk (show thN F p (d + 1 - 1) = (thN F p (d - 1) || thB F p (d - 1)) by
        rw [<- thN_succ]; congr 1; have := HD.out; omega)
       cases b with
       | true =>
        have HT2 := Bx.mk (show true = thN F p (d + 1 - 1) by rw [HTS.out, <- hT.out]; rfl);go_wp2_with fail
        go_roundw
        case rel => exact ⟨true, d + 1, ⟨by have := HD.out; omega⟩, rfl, by go_num, HT2, HBC⟩
        case measure => simp [intOf]; omega
       | false =>
        by_cases hz0 : 0 <= z2
        ·have t2 : decide (z2 >= 0) = true := zT hz0;have hz0' := hz0;rw [HZ2.out] at hz0';obtain ⟨k, hk, hek, -, -⟩ := fndP_some hz0';have hk4 : k < (g4[d]'HKD.out).vs.length := (by rw [<- vxs_len, HVXD.out d HKD.out]; exact hk);have HKE := Bx.mk (show e + 1 < g4.length by rw [HE.out]; exact HKD.out);have hkE : k < (g4[e + 1]'HKE.out).vs.length := (by simp only [HE.out]; exact hk4);have hzk : z2 = (k : Int) := (by rw [HZ2.out]; exact hek);have hkb : k <= 100000 := (by have := pg_len HPF4.out _ (zM HKE.out); omega);have hbl := rbelow_any wc (.slice (some ⟨gb, 0, none⟩) N gc) g4 (by have := (HGO4.out.below (HBD.out.trans (hbc.out.mono HBD.out.size))).gl.q; rwa [HV5.out] at this) (by rw [HNL4.out]; omega) e k HKE.out hkE (fun q hq => pg_par HPF4.out HKE.out _ (zM hkE) q hq)
         have HTB := Bx.mk (show thB F p (d - 1) = belV (vxs (g4[e]'(by have := HKE.out; omega)).vs) ((g4[e + 1]'HKE.out).vs[k]'hkE).n by
          have hz2e : z2 = fndP F[e + 1]! p := (by rw [HZ2.out, HE.out]);unfold thB
          rw [show d - 1 = e by have := HE.out; omega, <- hz2e, zT hz0, Bool.true_and, hzk, Int.toNat_natCast, HVXD.out e (by have := HKE.out; omega), <- HVXD.out (e + 1) HKE.out, vxs_at _ k hkE])
         obtain ⟨BV, hBV⟩ : ∃ BV, BV = belV (vxs (g4[e]'(by have := HKE.out; omega)).vs) ((g4[e + 1]'HKE.out).vs[k]'hkE).n := ⟨_, rfl⟩
         rw [<- hBV] at hbl HTB;rw [show ((e + 1 : Nat) : Int) = (d : Int) by rw [HE.out]] at hbl;have HT2 := Bx.mk (show BV = thN F p (d + 1 - 1) by rw [HTS.out, <- hT.out, HTB.out]; rfl);clear hz0' hk hek hk4 hkE hBV hz0;subst hzk;go_wp2_with fail
         go_at_call 76;refine hbl.mono ?_;rintro e9 w9 ⟨rfl, hb9⟩;have HBC9 := Bx.mk (HBC.out.trans (hb9.mono HBC.out.size));clear hbl hb9;go_wp2_with fail
         go_roundw
         case rel => exact ⟨BV, d + 1, ⟨by have := HD.out; omega⟩, rfl, by go_num, HT2, HBC9⟩
         case measure => simp [intOf]; omega
        ·have t2 : decide (z2 >= 0) = false := zF hz0
         have HT2 := Bx.mk (show false = thN F p (d + 1 - 1) by
          rw [HTS.out, <- hT.out];unfold thB;rw [show d - 1 + 1 = d by have := HD.out; omega, <- HZ2.out, zF hz0]
          rfl)
         clear hz0;go_wp2_with fail
         go_roundw
         case rel => exact ⟨false, d + 1, ⟨by have := HD.out; omega⟩, rfl, by go_num, HT2, HBC⟩
         case measure => simp [intOf]; omega
      ·have HTN := Bx.mk (show b = thN F p n1 by rw [hT.out]; congr 1; have := HD.out; have := HN0.out; have := HN1.out; omega);have HB9 := Bx.mk (hB.out.trans (hBz.out.mono hB.out.size));have HO9 := Bx.mk (hO.out.below hBz.out)
       cases b with
       | true =>
        have HO2 := Bx.mk (show Slc.Own wr w13.heap.size 9 1 encS (.slice ma ML mc) (moreP F n1 (S.take (i + 1))) by
         rw [HMS.out, <- HTN.out, if_pos rfl, List.append_nil];have := HO9.out
         rwa [<- HML.out] at this)
        go_wp2_with fail
        go_roundw
        case rel => exact ⟨i + 1, by omega, by go_num, HO2, HB9⟩
        case measure => simp [intOf]; omega
       | false =>
        have HE2 := Bx.mk (show moreP F n1 (S.take (i + 1)) = moreP F n1 (S.take i) ++ [p] by rw [HMS.out, <- HTN.out]; rfl);have c0 := (HB9.out.cell (p := ⟨sb, so + i, none⟩) HSB.out).trans HC0.out;have hsrc := src_str wr p;rw [<- HPB.out] at hsrc;have hba : Below wr.heap.size wr (wr.alloc (.cells #[.string PB] 9)) := (Below.refl _ _).alloc (zR _) _;have HBA := Bx.mk hba;have ho := HO9.out.below hba;rw [<- HML.out] at ho;have HOW := Bx.mk ho;unfold Slc.Own at ho;rw [<- HML.out] at ho;have hm1 : ML + 1 <= maxLen := (by unfold maxLen; omega);have hm2 : (ML + 1) * 16 <= 140737488355328 := (by omega);have hbz : w13.heap.size <= (wr.alloc (.cells #[.string PB] 9)).heap.size := (by have := HB9.out.size; simp; omega);have HOWR := Bx.mk ho;have HBZ := Bx.mk hbz;have HSRC := Bx.mk hsrc;clear hba ho hbz hsrc;go_wp2_with (at_builtin; refine wpList_append_any rfl _ _ _ rfl w13.heap.size 9 is _ 1 16 und_strs his his0 his1 his2 rfl (by decide) _ ML ((moreP F n1 (S.take i)).flatMap encS) rfl HOWR.out _ 1 ([p].flatMap encS) rfl HSRC.out hm1 hm2 HBZ.out ?_)
        intro v6 w6 hapd;have HO6 := Bx.mk (show Slc.Own w6 w13.heap.size 9 1 encS v6 (moreP F n1 (S.take (i + 1))) by rw [HE2.out]; exact HOW.out.apd (m := [p]) rfl rfl HML.out rfl hapd);have HB6 := Bx.mk (show Below w13.heap.size w13 w6 from (HB9.out.trans (HBA.out.mono HB9.out.size)).grown hapd.grown HBZ.out fun q hq => (HOW.out.lt q hq).1);clear hapd hm1 hm2 c0;go_wp2_with fail
        go_roundw
        case rel => exact ⟨i + 1, by omega, by go_num, HO6, HB6⟩
        case measure => simp [intOf]; omega
    ·obtain rfl : i = SN := by omega
     obtain ⟨M, hM⟩ : ∃ M, M = moreP F n1 S := ⟨_, rfl⟩
     have HM := Bx.mk hM;have HTKS := Bx.mk (show S.take i = S by rw [HSN.out, List.take_length])
     have hO2 : Slc.Own wr w13.heap.size 9 1 encS (.slice ma ML mc) M := by
      have h := hO.out;rw [<- HML.out, HTKS.out] at h;rwa [hM]
     have HMLE := Bx.mk (show ML = M.length by rw [HML.out, hM, HTKS.out]);obtain ⟨W4, hW4⟩ : ∃ W4, W4 = wr := ⟨_, rfl⟩
     have HBS4 := Bx.mk (show Below w13.heap.size w13 W4 by rw [hW4]; exact hB.out);have HB4 := Bx.mk (show Below w10.heap.size w10 W4 from HB13.out.trans (HBS4.out.mono HB13.out.size));have HBW4 := Bx.mk (show Below w.heap.size w W4 from HB10.out.trans (HB4.out.mono HB10.out.size));have HG4' := Bx.mk (show GO W4 w.heap.size v5 g4 from HGO4.out.below HB4.out);have HMO := Bx.mk (show Slc.Own W4 w13.heap.size 9 1 encS (.slice ma ML mc) M by rw [hW4]; exact hO2)
     have HS0 := Bx.mk (show GStep W4 w.heap.size v5 g4 wr g4 by
      have := GStep.refl HG4'.out
      rwa [hW4] at this |-)
     have HX0 := Bx.mk (show gxs g4 = F.set n1 (resL [] AB F[n1]! (M.take 0)) by
      rw [HXF.out, List.take_zero]
      show F = F.set n1 F[n1]!
      exact (set_self_get (by rw [HFL.out]; exact hn1N)).symm)
     have HOF := Bx.mk (show OrdP F[n1]! by rw [HFW.out]; exact wan_ord HOP.out ps n1 (by rw [HGN.out]; exact hn1N) n1)
     have HASC := Bx.mk (show ∀ v ∈ F[n1]!, v.par.Pairwise (· < ·) by
      have h : AscG F := (by rw [HFW.out]; exact wanG_asc (gvalid_asc (by rw [HG0.out]; exact HVAL.out)) HPG.out ps n1 (.inl (by rw [HGN.out]; exact hn1N)));have h2 := h n0 (by rw [HFL.out, <- HN1.out]; exact hn1N)
      rwa [<- HN1.out] at h2)
     have HNE := Bx.mk (show ∀ v ∈ F[n1]!, v.par ≠ [] by
      have h := wanG_ne ps (g := G0) (n := n0) (by rw [HGN.out, <- HN1.out]; exact hn1N);rw [<- HN1.out, <- HFW.out] at h
      exact h)
     have HPBF := Bx.mk (show PB 40000 F by rw [HFW.out]; exact wanG_pb HPB.out ps n1 (.inl (by rw [HGN.out]; exact hn1N)))
     have HFLL := Bx.mk (show (F[n1]!).length <= 40000 by
      rw [HFW.out]
      exact Nat.le_trans (wanG_ll ps G0 n1 n1 (.inl (by rw [HGN.out]; exact hn1N))) (HLB.out n1))
     have HABR := Bx.mk (show 0 <= AB /\ AB < ((F[n0]!).length : Int) from ⟨HAB0.out, by rw [HAB.out]; exact fndP_lt (by rw [<- HAB.out]; exact HAB0.out)⟩)
     have HPGK := Bx.mk (show ∀ ks : List B, ks.length <= 40000 -> PG (F.set n1 (resL [] AB F[n1]! ks)) /\ ∀ v ∈ resL [] AB F[n1]! ks, v.par.length <= 80000 from fun ks hk => by
      have h := res_pg HPF.out (n0 := n0) (by rw [HFL.out]; exact HN0.out) (by rw [<- HN1.out]; exact HFLL.out) HPBF.out HABR.out ks hk
      rwa [<- HN1.out] at h)
     have HABB := Bx.mk (show AB < 100000 by
      have h1 := HABR.out.2
      have h2 : (F[n0]!).length <= 100000 := by
       rw [getElem!_pos F n0 (by rw [HFL.out]; exact hn0N)]; exact HPF.out.len _ (zM _)
      omega)
     have HMS := Bx.mk (show ∀ p ∈ M, p ∈ ps from fun p hp => HSM.out p (by rw [hM] at hp; exact (List.mem_filter.1 hp).1));have HMA := Bx.mk (show anyP ∉ M from fun q => HNA.out (HMS.out _ q));have HMX := Bx.mk (show ∀ p ∈ M, p.length <= 1000000 from fun p hp => HPX.out p (HMS.out p hp));have HMF := Bx.mk (show ∀ j (h : j < M.length), M[j] ∉ M.take j from fun j h => asc_fresh (by rw [hM]; exact ((HS.out ▸ setB_asc ps : S.Pairwise (· < ·))).filter _) h);have HNQ0 := HNQ4;have hMb : ML <= 40000 := (by omega);have HMB := Bx.mk hMb
     have HFK := Bx.mk (show ∀ k, GB v5 g4 k -> (Value.slice ma ML mc).ownBlock ≠ some k from fun k hk e => by
      have h1 := (HGO4.out.lt hk).2;have h2 := (HMO.out.lt k e).1;have h3 := HB13.out.size
      omega)
     have tab : decide (AB >= 0) = true := zT HAB0.out;clear hM hO2 hW4 hO hB;go_wp2_with fail
     go_loopw [21] (fun iv wr => ∃ (i : Nat) (g6 : List Lv), i <= ML /\ iv = .int .i64 i /\ Bx (GStep W4 w.heap.size v5 g4 wr g6) /\ Bx (gxs g6 = F.set n1 (resL [] AB F[n1]! (M.take i))) /\ Bx (NQ w.heap.size g6)) (fun iv _ => ML - (intOf iv).toNat)
     case atStart => exact ⟨0, g4, by omega, rfl, HS0, HX0, HNQ0⟩
     case round =>
      clear HS0 HX0 HNQ0;obtain ⟨i, g6, hi, rfl, hS2, hX2, hQ2⟩ := hrel;have HBWR := Bx.mk (show Below w.heap.size w wr from HBW4.out.trans (hS2.out.bel HG4'.out HBW4.out.size));have HNL6 := Bx.mk (show g6.length = N by rw [gx_len hX2.out, zL, HFL.out]);have hgo2 := hS2.out.go;rw [HV5.out] at hgo2;have HN2 := Bx.mk (show n1 < g6.length by rw [HNL6.out]; exact hn1N);obtain ⟨gb', heq, l0, hgfr⟩ := hgo2.cellL n1 HN2.out;simp only [zO, Addr.mk.injEq, and_true] at heq
      subst heq;have HFR := Bx.mk hgfr;obtain ⟨l, hl⟩ : ∃ l, l = resL [] AB F[n1]! (M.take i) := ⟨_, rfl⟩
      have HL := Bx.mk hl
      have HVX0 := Bx.mk (show vxs (g6[n1]'HN2.out).vs = l by
       rw [<- gxs_at' g6 n1 HN2.out, hX2.out, hl, set_at2 (by rw [HFL.out]; exact hn1N), if_pos rfl])
      have HPG2 := Bx.mk (show PG (gxs g6) by rw [hX2.out]; exact (HPGK.out _ (by rw [List.length_take]; omega)).1);have HLO := Bx.mk (show OrdP l by rw [hl]; exact resL_ord _ HOF.out);have HPL8 := Bx.mk (show ∀ v ∈ l, v.par.length <= 80000 by rw [hl]; exact (HPGK.out _ (by rw [List.length_take]; omega)).2);have hvl := (hgo2.gl.lv _ (zM HN2.out));obtain ⟨sL, hsL⟩ : ∃ sL, sL = (g6[n1]'HN2.out).s := ⟨_, rfl⟩
      have HSLV := Bx.mk (show (g6[n1]'HN2.out).s.val = sL.val by rw [hsL]);rw [<- hsL] at l0 hvl;simp only [Sl.val] at l0 hvl
      obtain ⟨vs2, hvs2⟩ : ∃ vs2, vs2 = (g6[n1]'HN2.out).vs := ⟨_, rfl⟩
      have HVS := Bx.mk hvs2;have HLL := Bx.mk (pg_len HPG2.out _ (zM HN2.out));have HVX := HVX0;rw [<- hvs2] at hvl HVX HLL;have HVL := Bx.mk hvl
      have HVT0 := Bx.mk (show ∀ W, Below wr.heap.size wr W -> ∀ q, Calls Tryz.prog 56 #[.slice sL.ad sL.n sL.c, .string (bstr q)] W fun e w' => e = .returned (.int .i64 (fndP l q)) /\ Below W.heap.size W w' from fun W hW q => by
       have := rvert_any W _ vs2 (HVL.out.q.below hW) HLL.out q;rw [HVX.out] at this
       exact this)
      have HL0 := Bx.mk l0;clear hgfr hvl hsL hvs2 hgo2 hl HVX0;by_cases hlt : i < ML
      ·have hil : i < M.length := by rw [<- HMLE.out]; exact hlt
       have HSO2 := Bx.mk (HMO.out.keep (w' := wr) fun k hk hkl => hS2.out.fr.block k hkl fun hn => HFK.out k hn hk);obtain ⟨sb, so, rfl, -, c0⟩ := (strs_cells (show Rd wr encS (.slice ma M.length mc) M by have := HSO2.out.rd; rw [HMLE.out] at this; exact this)).2 wr (Below.refl _ _) i hil;have HTK := Bx.mk (show resL [] AB F[n1]! (M.take (i + 1)) = resS [] AB l M[i] by rw [zA hil, resL_snoc, <- HL.out]);have HPA := Bx.mk (show M[i] ≠ anyP from fun e => HMA.out (by rw [<- e]; exact zM hil));have HPM := Bx.mk (HMX.out _ (zM hil));have HPF9 := Bx.mk (HMF.out i hil);obtain ⟨p, hp⟩ : ∃ p, p = M[i] := ⟨_, rfl⟩
       rw [<- hp] at c0 HTK HPM HPA HPF9;obtain ⟨PB, hPB⟩ : ∃ PB, PB = bstr p := ⟨_, rfl⟩
       have HPB2 := Bx.mk hPB;have HPB := HPB2;rw [<- hPB] at c0
       have HCL := Bx.mk (show ∀ W, Below wr.heap.size wr W -> W.cell? ⟨gb, n1, none⟩ = some (.slice sL.ad sL.n sL.c) /\ W.cell? ⟨sb, so + i, none⟩ = some (.string PB) from fun W hW =>
        ⟨(hW.cell (p := ⟨gb, n1, none⟩) (World.block_lt_of_cell? wr _ l0)).trans l0, (hW.cell (p := ⟨sb, so + i, none⟩) (World.block_lt_of_cell? wr _ c0)).trans c0⟩)
       obtain ⟨z2, hz2⟩ : ∃ z, z = fndP l p := ⟨_, rfl⟩
       have HZ2 := Bx.mk hz2
       have HVT := Bx.mk (show ∀ W, Below wr.heap.size wr W -> Calls Tryz.prog 56 #[.slice sL.ad sL.n sL.c, .string PB] W fun e w' => e = .returned (.int .i64 z2) /\ Below W.heap.size W w' from fun W hW => by
        have := HVT0.out W hW p;rw [<- hz2, <- HPB.out] at this
        exact this)
       have hi40 : i <= 40000 := (by omega);clear hp hPB hz2 l0 c0 hil;go_wp2_with fail
       go_cut [22] (fun s wx => s = .int .i64 z2 /\ Bx (Below wr.heap.size wr wx))
       case first =>
        refine wp_region_facts 9 (MaF (.slice (some ⟨gb, 0, none⟩) N gc) (.slice sL.ad sL.n sL.c) (.slice (some ⟨sb, so, none⟩) ML mc) (.string PB) n1 gb i sb so) (by kernel_rfl) (by kernel_rfl) (by rfl) (MaF.stable _ _ _ _ _ _ _ _ _) ?_ ?_
        ·intro i' oo hi ho xs w7 hb hd;have hcs : i' = 0 \/ i' = 1 \/ i' = 2 \/ i' = 3 \/ i' = 4 \/ i' = 5 \/ i' = 6 \/ i' = 7 \/ i' = 8 := (by omega);simp only [List.take_succ_cons, List.take_zero, putFrom, Act.put, List.setIfInBounds_toArray, List.set_cons_succ, List.set_cons_zero, Nat.zero_add, Nat.reduceAdd]
         have HB7 := Bx.mk hb;obtain ⟨q0, q2⟩ := HCL.out w7 hb;clear hb;rcases hcs with rfl | rfl | rfl | rfl | rfl | rfl | rfl | rfl | rfl
         all_goals
          simp only [List.getElem?_cons_succ, List.getElem?_cons_zero, zO] at ho
          subst ho;simp [Needs, Region.binds, MaF] at hd
         all_goals clear hi
         all_goals
          go_wp2_with fail
          exact ⟨rfl, rfl, rfl, Below.refl _ _⟩
        ·intro xs w7 hb hf;have f4 := hf 4 (by omega);have f8 := hf 8 (by omega);simp only [MaF] at f4 f8
         have HB7 := Bx.mk hb;have hvt := HVT.out w7 hb;clear hf hb;simp only [List.take_succ_cons, List.take_zero, List.drop_succ_cons, List.drop_zero, putFrom, Act.put, List.setIfInBounds_toArray, List.set_cons_succ, List.set_cons_zero, Nat.zero_add, Nat.reduceAdd, f4, f8]
         clear f4 f8;go_wp2_with fail
         go_at_call 56;refine hvt.mono ?_;rintro e w8 ⟨rfl, hb8⟩;have HB8 := Bx.mk (HB7.out.trans (hb8.mono HB7.out.size));clear hvt hb8;go_wp2_with fail
         go_meet;exact ⟨rfl, HB8⟩
       case rest =>
       obtain ⟨rfl, hbc⟩ := hcut;have HSC := Bx.mk (hS2.out.below hbc.out)
       have HRSS := Bx.mk (show resS [] AB l p = if 0 <= z2 then l.set z2.toNat ⟨(l[z2.toNat]!).pol, (l[z2.toNat]!).ex, srtI ((l[z2.toNat]!).par ++ [AB])⟩ else insV l ⟨p, [p], [AB]⟩ by
        rw [HZ2.out]; unfold resS; rw [if_neg (by simp)])
       by_cases hz0 : z2 < 0
       ·have t2 : decide (z2 < 0) = true := zT hz0;have HRS := Bx.mk (show resL [] AB F[n1]! (M.take (i + 1)) = insV l ⟨p, [p], [AB]⟩ by rw [HTK.out, HRSS.out, if_neg (by omega)]);have HFN := Bx.mk (show fndP l p < 0 by rw [<- HZ2.out]; exact hz0)
        have HOKN := Bx.mk (show Vx.Ok ⟨p, [p], [AB]⟩ from ⟨⟨by simp, fun b hb => by rw [zS] at hb; subst hb; exact HPM.out⟩, HPM.out, by simp, fun q hq => by
         rw [zS] at hq;subst hq;have h1 := HABR.out.1;have h2 := HABB.out
         omega⟩)
        have HPUT := Bx.mk (show ∀ W, Below wc.heap.size wc W -> ∀ s q : Sl, Slc.Own W wc.heap.size 9 1 encS s.val [p] -> Slc.Own W wc.heap.size 3 1 encI q.val [AB] -> Calls Tryz.prog 57 #[.slice sL.ad sL.n sL.c, .agg #[.string PB, .slice s.ad s.n s.c, .slice q.ad q.n q.c]] W fun e w' => ∃ v', e = .returned v' /\ Slc.Own w' W.heap.size 65 3 encV v' (insT vs2 ⟨⟨p, [p], [AB]⟩, s, q⟩) /\ Below W.heap.size W w' from fun W hW s q hs hq => by
         have hov : OV W wc.heap.size ⟨⟨p, [p], [AB]⟩, s, q⟩ := ⟨hs, hq⟩;have := rput_any W _ vs2 ⟨⟨p, [p], [AB]⟩, s, q⟩ (HVL.out.below (hbc.out.trans (hW.mono hbc.out.size))) (hov.vt (S := fun k => k < W.heap.size) HOKN.out (fun k hk => (hs.lt k hk).2) (fun k hk => (hq.lt k hk).2)) HLL.out (by rw [HVX.out]; exact HLO.out) (by rw [HVX.out]; exact fun y hy => fndP_neg HFN.out y hy);unfold verV at this;rw [<- HPB.out] at this
         exact this)
        clear hz0;go_upto_region 45 with fail
        clear t2 tab;refine wp_region_facts 22 (RcF wc (.slice (some ⟨gb, 0, none⟩) N gc) (.slice sL.ad sL.n sL.c) (.slice (some ⟨sb, so, none⟩) ML mc) (.string PB) n1 gb i sb so AB vs2 ⟨p, [p], [AB]⟩ ()) (by kernel_rfl) (by kernel_rfl) (by rfl) (RcF.stable _ _ _ _ _ _ _ _ _ _ _ _ _ _) ?_ ?_
        ·intro i' oo hi ho xs w7 hb hd;have hcs : i' = 0 \/ i' = 1 \/ i' = 2 \/ i' = 3 \/ i' = 4 \/ i' = 5 \/ i' = 6 \/ i' = 7 \/ i' = 8 \/ i' = 9 \/ i' = 10 \/ i' = 11 \/ i' = 12 \/ i' = 13 \/ i' = 14 \/ i' = 15 \/ i' = 16 \/ i' = 17 \/ i' = 18 \/ i' = 19 \/ i' = 20 \/ i' = 21 := (by omega);simp only [List.take_succ_cons, List.take_zero, putFrom, Act.put, List.setIfInBounds_toArray, List.set_cons_succ, List.set_cons_zero, Nat.zero_add, Nat.reduceAdd]
         have HB7 := Bx.mk hb;obtain ⟨q0, q2⟩ := HCL.out w7 (hbc.out.trans (hb.mono hbc.out.size));clear hb;rcases hcs with rfl | rfl | rfl | rfl | rfl | rfl | rfl | rfl | rfl | rfl | rfl | rfl | rfl | rfl | rfl | rfl | rfl | rfl | rfl | rfl | rfl | rfl
         all_goals
          simp only [List.getElem?_cons_succ, List.getElem?_cons_zero, zO] at ho
          subst ho;simp [Needs, Region.binds, RcF] at hd
         all_goals clear hi
         case inr.inr.inr.inr.inr.inr.inr.inr.inr.inr.inr.inr.inr.inr.inr.inl =>
          have HS7 := Bx.mk HB7.out.size;clear q0 q2;go_wp2_with fail
          have hA : Below w7.heap.size w7 (w7.alloc (.cells #[.string PB] 9)) := (Below.refl _ _).alloc (zR _) _;exact ⟨rfl, rfl, ⟨⟨some ⟨w7.heap.size, 0, none⟩, 1, 1⟩, rfl, own_alloc encS_ok w7 [p] _ (by rw [HPB.out]; rfl) HS7.out (by unfold maxLen; simp)⟩, hA⟩
         case inr.inr.inr.inr.inr.inr.inr.inr.inr.inr.inr.inr.inr.inr.inr.inr.inr.inl =>
          have HS7 := Bx.mk HB7.out.size;clear q0 q2;go_wp2_with fail
          have hA : Below w7.heap.size w7 (w7.alloc (.cells #[.int .i64 AB] 3)) := (Below.refl _ _).alloc (zR _) _;exact ⟨rfl, rfl, ⟨⟨some ⟨w7.heap.size, 0, none⟩, 1, 1⟩, rfl, own_alloc encI_ok w7 [AB] _ rfl HS7.out (by unfold maxLen; simp)⟩, hA⟩
         case inr.inr.inr.inr.inr.inr.inr.inr.inr.inr.inr.inr.inr.inr.inr.inr.inr.inr.inl =>
          obtain ⟨h10, ⟨s, h16, ho16⟩, ⟨q, h24, ho24⟩⟩ := hd;have HO16 := Bx.mk ho16;have HO24 := Bx.mk ho24;clear ho16 ho24 q0 q2;go_wp2_with fail
          exact ⟨rfl, rfl, ⟨s, q, rfl, HO16.out, HO24.out⟩, Below.refl _ _⟩
         case inr.inr.inr.inr.inr.inr.inr.inr.inr.inr.inr.inr.inr.inr.inr.inr.inr.inr.inr.inl =>
          obtain ⟨h6, ⟨s, q, h25, ho16, ho24⟩⟩ := hd;have hput := HPUT.out w7 HB7.out s q ho16 ho24;have HO16 := Bx.mk ho16;have HO24 := Bx.mk ho24;clear ho16 ho24 q0 q2;go_wp2_with (go_at_call 57; refine hput.mono ?_; rintro e w9 ⟨v9, rfl, ho9, hb9⟩)
          obtain ⟨t9, ht9⟩ := sl_of ho9;subst ht9;have HO9 := Bx.mk (ho9.mono HB7.out.size);have HB9 := Bx.mk hb9;clear ho9 hb9 hput;simp only [Sl.val]
          exact ⟨rfl, rfl, ⟨t9, s, q, rfl, HO9.out, HO16.out.below HB9.out, HO24.out.below HB9.out⟩, HB9.out⟩
         all_goals
          go_wp2_with fail
          exact ⟨rfl, rfl, rfl, Below.refl _ _⟩
        ·intro xs w7 hb hf;have f19 := hf 19 (by omega);have f21 := hf 21 (by omega);simp only [RcF] at f19 f21
         obtain ⟨t9, s, q, f19, ho9, hs9, hq9⟩ := f19
         have hx9 : ∀ x ∈ insT vs2 ⟨⟨p, [p], [AB]⟩, s, q⟩, VtIn w7 (fun k => ¬ GB v5 g6 k /\ (Sl.val t9).ownBlock ≠ some k) x := fun x hx => by
          rcases insT_mem hx with e | rfl
          ·have hold := HSC.out.go.nm _ (zM HN2.out) x (by rw [<- HVS.out]; exact e);refine (VtIn.below (VtIn.and hold hold.at_) hb).mono fun k _ hk => ⟨hk.1, fun e => ?_⟩
           have h1 := (ho9.lt k e).1;have h2 := hk.2;omega
          ·have hov : OV w7 wc.heap.size ⟨⟨p, [p], [AB]⟩, s, q⟩ := ⟨hs9, hq9⟩;exact hov.vt HOKN.out (fun k hk => ⟨fun hn => by have h1 := (hs9.lt k hk).1; have h2 := (HSC.out.go.lt hn).2; omega, fun e => own_type hs9 ho9 (by decide) k hk e⟩) (fun k hk => ⟨fun hn => by have h1 := (hq9.lt k hk).1; have h2 := (HSC.out.go.lt hn).2; omega, fun e => own_type hq9 ho9 (by decide) k hk e⟩)
         obtain ⟨gb9, cap9, hv9, hfr9, hc9, hS9⟩ := HSC.out.go.setL3 (Nat.le_trans HBWR.out.size hbc.out.size) n1 HN2.out hb ⟨insT vs2 ⟨⟨p, [p], [AB]⟩, s, q⟩, t9⟩ ho9 hx9;rw [HV5.out] at hv9;simp only [Value.slice.injEq, zO, Addr.mk.injEq, and_true] at hv9
         obtain ⟨hgb9, -, -⟩ := hv9;subst hgb9;obtain ⟨W9, hW9⟩ : ∃ W9, W9 = w7.setCell ⟨gb, n1, none⟩ (.slice t9.ad t9.n t9.c) := ⟨_, rfl⟩
         simp only [Sl.val] at hS9
         rw [<- hW9] at hS9;have HS9 := Bx.mk (HSC.out.trans hS9)
         have HX9 := Bx.mk (show gxs (g6.set n1 ⟨insT vs2 ⟨⟨p, [p], [AB]⟩, s, q⟩, t9⟩) = F.set n1 (resL [] AB F[n1]! (M.take (i + 1))) by
          have e1 : ∀ L', gxs (g6.set n1 L') = (gxs g6).set n1 (vxs L'.vs) := fun L' => List.map_set
          rw [e1, hX2.out, List.set_set, HRS.out]
          show F.set n1 (vxs (insT vs2 _)) = _
          rw [insT_vxs, HVX.out])
         have HQ9 := Bx.mk (show NQ w.heap.size (g6.set n1 ⟨insT vs2 ⟨⟨p, [p], [AB]⟩, s, q⟩, t9⟩) from hQ2.out.set n1 fun y hy kb hkb => by
          rcases insT_mem hy with e | rfl
          ·exact hQ2.out _ (zM HN2.out) y (by rw [<- HVS.out]; exact e) kb hkb
          ·have h2 := HBWR.out.size;have h3 := hbc.out.size;rcases hkb with e | e
           ·have h1 := (hs9.lt kb e).1; omega
           ·have h1 := (hq9.lt kb e).1; omega)
         have z9 := hfr9 n1;rw [HSLV.out] at hc9;simp only [Sl.val] at hc9
         have HW9 := Bx.mk hW9;clear hf hb ho9 hs9 hq9 hx9 hS9 hfr9 hW9;simp only [List.take_succ_cons, List.take_zero, List.drop_succ_cons, List.drop_zero, putFrom, Act.put, List.setIfInBounds_toArray, List.set_cons_succ, List.set_cons_zero, Nat.zero_add, Nat.reduceAdd, f19, f21]
         clear f19 f21;go_wp2_with fail
         rw [<- HW9.out];go_roundw
         case rel => exact ⟨i + 1, _, by omega, by go_num, HS9, HX9, HQ9⟩
         case measure => simp [intOf]; omega
       ·have t2 : decide (z2 < 0) = false := zF hz0;obtain ⟨k, hk, hek, hpk, -⟩ := fndP_some (show 0 <= fndP l p by rw [<- HZ2.out]; omega);have hzk : z2 = (k : Int) := (by rw [HZ2.out]; exact hek);have HKL := Bx.mk (show k < vs2.length by rw [<- vxs_len, HVX.out]; exact hk);have hkl := HKL.out;obtain ⟨x, hx⟩ : ∃ x, x = vs2[k]'HKL.out := ⟨_, rfl⟩
        have HXE := Bx.mk hx;have HXL := Bx.mk (show l[k]! = x.n by rw [<- HVX.out, vxs_at vs2 k HKL.out, hx]);have HXM := Bx.mk (show x.n ∈ l by rw [<- HXL.out, getElem!_pos l k hk]; exact zM _);have HXF9 := Bx.mk (show x.n ∈ F[n1]! from resL_old _ HOF.out (by rw [<- HL.out]; exact HXM.out) (by rw [<- HXL.out, hpk]; exact HPF9.out))
        have HRS := Bx.mk (show resL [] AB F[n1]! (M.take (i + 1)) = l.set k ⟨x.n.pol, x.n.ex, srtI (x.n.par ++ [AB])⟩ by
         rw [HTK.out, HRSS.out, if_pos (by omega), hzk, Int.toNat_natCast, HXL.out])
        have hnmc := HSC.out.go.nm _ (zM HN2.out) x (by rw [hx, <- HVS.out]; exact zM _);have HNMC := Bx.mk hnmc;have HPLX := Bx.mk (show x.n.par.length <= 80000 from HPL8.out _ HXM.out)
        have HOKX := Bx.mk (show Vx.Ok ⟨x.n.pol, x.n.ex, srtI (x.n.par ++ [AB])⟩ from ⟨hnmc.2.2.1, hnmc.2.2.2.1, by show (srtI (x.n.par ++ [AB])).length <= 100000; rw [srtI_len, List.length_append]; have := HPLX.out; simp; omega, fun q hq => by
         have hq' : q ∈ x.n.par ++ [AB] := srtI_mem.1 hq;rcases List.mem_append.1 hq' with h | h
         ·exact hnmc.2.2.2.2.2 q h
         ·rw [zS] at h;subst h;have h1 := HABR.out.1;have h2 := HABB.out
          omega⟩)
        have hrd : RdIn wc (fun j => ¬ GB v5 g6 j) encI x.q.val x.n.par := by
         rcases hnmc.2.1 with ⟨e, -⟩ | h
         ·exact absurd e (HNE.out _ HXF9.out)
         ·exact h
        obtain ⟨pa2, pc2, hpq, -⟩ := hrd.1.form;obtain ⟨PL, hPL⟩ : ∃ PL, PL = x.n.par.length := ⟨_, rfl⟩
        rw [<- hPL] at hpq;have HRDX := Bx.mk (show Rd wc encI (.slice pa2 PL pc2) x.n.par by rw [<- hpq]; exact hrd.1)
        have HWITH := Bx.mk (show ∀ W, Below wc.heap.size wc W -> Calls Tryz.prog 77 #[.slice pa2 PL pc2, .int .i64 AB] W fun e w' => ∃ v', e = .returned v' /\ Slc.Own w' W.heap.size 3 1 encI v' (srtI (x.n.par ++ [AB])) /\ Below W.heap.size W w' from fun W hW => by
         refine (rwith_any W _ x.n.par AB (HRDX.out.below hW) (by have := HPLX.out; omega) (HASC.out _ HXF9.out)).mono ?_;rintro e w' ⟨v', pl, h1, h2, h3, h4, h5, h6⟩;rw [with_srt (HASC.out _ HXF9.out) h2 h3 h4] at h5
         exact ⟨v', h1, h5, h6⟩)
        have hlvc := HSC.out.go.lv _ (zM HN2.out);rw [HSLV.out] at hlvc;have hkg : k < (g6[n1]'HN2.out).vs.length := (by rw [<- HVS.out]; exact hkl);obtain ⟨lb, cap, hsb, -, -, -, -, -⟩ := hlvc.set1 encV_ok k 2 hkg (by omega) ((g6[n1]'HN2.out).vs[k]'hkg).q.val ((g6[n1]'HN2.out).vs[k]'hkg) (by simp [encV]);have hcp := hlvc;rw [hsb] at hcp;have hcu := hcp.cell encV_ok k hkg 2 (by omega) ((g6[n1]'HN2.out).vs[k]'hkg).q.val rfl;have hgx : (g6[n1]'HN2.out).vs[k]'hkg = x := (by rw [hx]; congr 1; rw [HVS.out]);rw [hgx, hpq] at hcu;have HCP := Bx.mk hcu;have HLBL := Bx.mk (World.block_lt_of_cell? wc _ hcu);have hsn : (g6[n1]'HN2.out).vs.length = vs2.length := (by rw [<- HVS.out]);rw [hsn] at hsb;obtain ⟨KN, hKN⟩ : ∃ KN, KN = vs2.length := ⟨_, rfl⟩
        rw [<- hKN] at hsb;have HSBV := Bx.mk hsb;have hkK : k < KN := (by rw [hKN]; exact hkl);have hKNb : KN <= 100000 := (by rw [hKN]; exact HLL.out);simp only [Sl.val, Value.slice.injEq] at hsb
        obtain ⟨hsb1, hsb2, hsb3⟩ := hsb;rw [hsb1, hsb2, hsb3] at HCL;clear hk hek hpk hx hnmc hrd hpq hPL hlvc hcp hcu hgx hsn hKN hsb1 hsb2 hsb3 hz0 hkg;subst hzk;go_upto_region 46 with fail
        clear t2 tab;refine wp_region_facts 19 (RdF wc (.slice (some ⟨gb, 0, none⟩) N gc) (.slice (some ⟨lb, 0, none⟩) KN cap) (.slice pa2 PL pc2) n1 gb k lb AB (srtI (x.n.par ++ [AB]))) (by kernel_rfl) (by kernel_rfl) (by rfl) (RdF.stable _ _ _ _ _ _ _ _ _ _) ?_ ?_
        ·intro i' oo hi ho xs w7 hb hd;have hcs : i' = 0 \/ i' = 1 \/ i' = 2 \/ i' = 3 \/ i' = 4 \/ i' = 5 \/ i' = 6 \/ i' = 7 \/ i' = 8 \/ i' = 9 \/ i' = 10 \/ i' = 11 \/ i' = 12 \/ i' = 13 \/ i' = 14 \/ i' = 15 \/ i' = 16 \/ i' = 17 \/ i' = 18 := (by omega);simp only [List.take_succ_cons, List.take_zero, putFrom, Act.put, List.setIfInBounds_toArray, List.set_cons_succ, List.set_cons_zero, Nat.zero_add, Nat.reduceAdd]
         have HB7 := Bx.mk hb;obtain ⟨q0, q2⟩ := HCL.out w7 (hbc.out.trans (hb.mono hbc.out.size));have q3 := (hb.cell (p := ⟨lb, k * 3 + 2, none⟩) HLBL.out).trans HCP.out;clear hb;rcases hcs with rfl | rfl | rfl | rfl | rfl | rfl | rfl | rfl | rfl | rfl | rfl | rfl | rfl | rfl | rfl | rfl | rfl | rfl | rfl
         all_goals
          simp only [List.getElem?_cons_succ, List.getElem?_cons_zero, zO] at ho
          subst ho;simp [Needs, Region.binds, RdF] at hd
         all_goals clear hi
         case inr.inr.inr.inr.inr.inr.inr.inr.inr.inr.inr.inr.inr.inr.inr.inr.inl =>
          have hw := HWITH.out w7 HB7.out;clear q0 q2 q3;go_wp2_with (go_at_call 77; refine hw.mono ?_; rintro e w8 ⟨v8, rfl, ho8, hb8⟩)
          obtain ⟨s8, hs8⟩ := sl_of ho8;subst hs8;have HO8 := Bx.mk (ho8.mono HB7.out.size);have HB8 := Bx.mk hb8;clear ho8 hb8 hw;simp only [Sl.val]
          exact ⟨rfl, rfl, ⟨s8, rfl, HO8.out⟩, HB8.out⟩
         all_goals
          go_wp2_with fail
          exact ⟨rfl, rfl, rfl, Below.refl _ _⟩
        ·intro xs w7 hb hf;have f16 := hf 16 (by omega);have f18 := hf 18 (by omega);simp only [RdF] at f16 f18
         obtain ⟨s8, f16, ho8⟩ := f16;have HO8 := Bx.mk ho8;have hS7 := HSC.out.below hb;have hkv : k < (g6[n1]'HN2.out).vs.length := (by rw [<- HVS.out]; exact HKL.out);have hgx : (g6[n1]'HN2.out).vs[k]'hkv = x := (by rw [HXE.out]; congr 1; rw [HVS.out]);have hnm := hS7.go.nm _ (zM HN2.out) _ (zM hkv);rw [hgx] at hnm
         obtain ⟨nb, cap', hsb', -, hfr, hgo', hgr'⟩ := hS7.go.setV n1 HN2.out k hkv 2 (by omega) (.slice s8.ad s8.n s8.c) ⟨⟨x.n.pol, x.n.ex, srtI (x.n.par ++ [AB])⟩, x.u, s8⟩ (by rw [hgx]; rfl)
          ⟨hnm.1, .inr ⟨ho8.rd, fun q hq hn => by have h1 := (ho8.lt q hq).1; have h2 := (HSC.out.go.lt hn).2; omega⟩, HOKX.out⟩
         have hnb : nb = lb := by
          rw [HSLV.out, HSBV.out] at hsb';simp only [Value.slice.injEq, zO, Addr.mk.injEq, and_true] at hsb'
          exact hsb'.1.symm
         subst hnb;have hGBn : GB v5 g6 nb := .inr ⟨_, zM HN2.out, by rw [hsb']; rfl⟩;obtain ⟨W8, hW8⟩ : ∃ W8, W8 = w7.setCell ⟨nb, k * 3 + 2, none⟩ (.slice s8.ad s8.n s8.c) := ⟨_, rfl⟩
         rw [<- hW8] at hgo' hgr';have HS8 := Bx.mk (show GStep W4 w.heap.size v5 g4 W8 _ from hS7.trans ⟨hgo', Fr.of_grown (S := GB v5 g6) hgr' fun q hq => (by simp only [zO] at hq; subst hq; exact hGBn), fun q hq => .inl ((GB.same HN2.out _).1 hq)⟩)
         have HX8 := Bx.mk (show gxs (g6.set n1 ⟨(g6[n1]'HN2.out).vs.set k ⟨⟨x.n.pol, x.n.ex, srtI (x.n.par ++ [AB])⟩, x.u, s8⟩, (g6[n1]'HN2.out).s⟩) = F.set n1 (resL [] AB F[n1]! (M.take (i + 1))) by
          have e1 : ∀ L', gxs (g6.set n1 L') = (gxs g6).set n1 (vxs L'.vs) := fun L' => List.map_set
          have e2 : vxs ((g6[n1]'HN2.out).vs.set k ⟨⟨x.n.pol, x.n.ex, srtI (x.n.par ++ [AB])⟩, x.u, s8⟩) = (vxs (g6[n1]'HN2.out).vs).set k ⟨x.n.pol, x.n.ex, srtI (x.n.par ++ [AB])⟩ := List.map_set
          rw [e1, hX2.out, List.set_set, HRS.out, e2, <- HVS.out, HVX.out])
         have HQ8 := Bx.mk (show NQ w.heap.size (g6.set n1 ⟨(g6[n1]'HN2.out).vs.set k ⟨⟨x.n.pol, x.n.ex, srtI (x.n.par ++ [AB])⟩, x.u, s8⟩, (g6[n1]'HN2.out).s⟩) from hQ2.out.set n1 fun y hy kb hkb => by
          rcases List.mem_or_eq_of_mem_set hy with e | rfl
          ·exact hQ2.out _ (zM HN2.out) y e kb hkb
          ·rcases hkb with e | e
           ·exact hQ2.out _ (zM HN2.out) x (by rw [<- hgx]; exact zM hkv) kb (.inl e)
           ·have h1 := (ho8.lt kb e).1;have h2 := HBWR.out.size;have h3 := hbc.out.size
            omega)
         have z9 := hfr (k * 3 + 2);have cu := (hb.cell (p := ⟨nb, k * 3 + 2, none⟩) HLBL.out).trans HCP.out;have HW8 := Bx.mk hW8;clear hf hb ho8 hS7 hnm hgo' hgr' hGBn hsb' hfr hW8 hgx;simp only [List.take_succ_cons, List.take_zero, List.drop_succ_cons, List.drop_zero, putFrom, Act.put, List.setIfInBounds_toArray, List.set_cons_succ, List.set_cons_zero, Nat.zero_add, Nat.reduceAdd, f16, f18]
         clear f16 f18;go_wp2_with fail
         rw [<- HW8.out];go_roundw
         case rel => exact ⟨i + 1, _, by omega, by go_num, HS8, HX8, HQ8⟩
         case measure => simp [intOf]; omega
      ·obtain rfl : i = ML := by omega
       have HTKM := Bx.mk (show M.take i = M by rw [HMLE.out, List.take_length]);have HLM := Bx.mk (show l = resL [] AB F[n1]! M by rw [HL.out, HTKM.out]);have hvt := HVT0.out wr (Below.refl _ _) anyP;rw [anyP_str] at hvt
       have hs0 : 0 <= fndP l anyP := by
        rw [HLM.out];exact resL_any _ HOF.out HMA.out (by rw [<- HZ.out]; exact HZ0.out)
       obtain ⟨k, hk, hek, -, -⟩ := fndP_some hs0;rw [hek] at hvt;have hkv : k < (g6[n1]'HN2.out).vs.length := (by rw [<- HVS.out, <- vxs_len, HVX.out]; exact hk);have HKV := Bx.mk hkv;have HEK := Bx.mk hek;have HL0 := HL0.out;clear hs0 hk hek hkv;go_wp2_with fail
       go_at_call 56;refine hvt.mono ?_;rintro e w20 ⟨rfl, hb20⟩;have HS20 := Bx.mk (hS2.out.below hb20);have HPB20 := Bx.mk (show PG (gxs g6) from HPG2.out);have hdr := rdrop_any w20 w.heap.size v5 g6 HS20.out.go HPB20.out (by rw [HNL6.out]; omega) n1 HN2.out k HKV.out;rw [HV5.out] at hdr;clear hvt hb20 HL0;go_wp2_with fail
       go_at_call 68;refine hdr.mono ?_;rintro e w21 ⟨⟨u1, rfl⟩, g8, hS8, hX8, hnk8⟩;rw [<- HV5.out] at hS8;have HS8 := Bx.mk (HS20.out.trans hS8);have HB20 := Bx.mk (show Below w.heap.size w w20 from HBW4.out.trans (HS20.out.bel HG4'.out HBW4.out.size));have HNQ8 := Bx.mk (hnk8 w.heap.size HB20.out.size hQ2.out);have HB21 := Bx.mk (show Below w.heap.size w w21 from HBW4.out.trans (HS8.out.bel HG4'.out HBW4.out.size))
       have HXR := Bx.mk (show gxs g8 = F.set n1 (rresL F n1 ps) by
        rw [hX8];unfold dropG;rw [if_neg (by rw [gxs_len, HNL6.out]; have := HN0.out; have := HN1.out; omega), hX2.out, HTKM.out, List.set_set, set_at2 (by rw [HFL.out]; exact hn1N), if_pos rfl];unfold rresL
        rw [show n1 - 1 = n0 by rw [HN1.out]; rfl, <- HAB.out, <- HS.out, <- HM.out, <- HLM.out, HEK.out, Int.toNat_natCast])
       have HPG8 := Bx.mk (show PG (gxs g8) by
        rw [hX8, dropG_filt HPG2.out (by rw [gxs_at' g6 n1 HN2.out, vxs_len]; exact HKV.out)]
        exact HPG2.out.filt (by rw [gxs_len]; exact HN2.out) _)
       have HNL8 := Bx.mk (show g8.length = N by rw [gx_len HXR.out, zL, HFL.out]);clear hdr hS8 hX8 hnk8;have hprn := rprune_any w21 w.heap.size v5 g8 HS8.out.go HPG8.out (by rw [show g8.length = N from HNL8.out]; omega);rw [HV5.out] at hprn;have HGLT := Bx.mk (fun k => (HS8.out.go : GO w21 w.heap.size v5 g8).lt (k := k));go_wp2_with fail
       go_at_call 58;refine hprn.mono ?_;rintro e w12 ⟨v12, g12, rfl, hgo12, hgx12, hfr12, -, hnk12⟩;have HNQ12 := Bx.mk (hnk12 w.heap.size HB21.out.size HNQ8.out);have hb12 : Below w.heap.size w21 w12 := hfr12.below (fun j hj => (HGLT.out j (by rw [HV5.out]; exact hj)).1) HB21.out.size;have HB12 := Bx.mk (HB21.out.trans hb12);have HG12 := Bx.mk hgo12;have HX12 := Bx.mk (show gxs g12 = R.1 by rw [hgx12]; rw [HXR.out, HREQ.out]);obtain ⟨xa, xc, rfl, -⟩ := hgo12.own.rd.form;clear hprn hgo12 hgx12 hfr12 hb12 hnk12;go_wp2_with fail
       go_ret2;exact ⟨_, g12, by rw [HRG.out.1]; rfl, HG12.out, HX12.out, HB12.out, HNQ12.out⟩
end Go.Proofs.YtmagjdocondmhaaGreat.Tr.Gr
