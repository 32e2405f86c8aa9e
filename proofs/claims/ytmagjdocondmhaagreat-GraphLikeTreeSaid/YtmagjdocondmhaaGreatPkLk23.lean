/- packed -/
import Derived.Test.YtmagjdocondmhaaGreatPkLk22
set_option linter.unusedVariables false
set_option linter.unusedSimpArgs false
set_option maxRecDepth 100000
set_option maxHeartbeats 64000000
namespace Go.Proofs.YtmagjdocondmhaaGreat.Tr
open Go Go.RowKit Slc St Mp
attribute [local go_sem] Oper.semAt_some
abbrev isPar (D : Int) : Nd -> Bool := fun n => spec n && decide (n.d = D - 1)
theorem resF_any (w : World) (x : Nt) (qd : Nat) (D : Int) (hD : 1 <= D /\ D <= 9223372036854775807) (hq : w.cell? ⟨qd, 0, none⟩ = some (.int .i64 D)) (hql : qd < w.heap.size) :
  Calls Tryz.prog 90 #[nodV x, .pointer (some ⟨qd, 0, none⟩)] w fun e w' => e = .returned (.bool (isPar D x.n)) /\ Below w.heap.size w w' := by
 have hsp := fun W => special_any x W
 obtain ⟨R, hR⟩ : ∃ R, R = isPar D x.n := ⟨_, rfl⟩
 rw [<- hR];unfold isPar at hR;unfold nodV at *;simp only [Sl.val] at *
 obtain ⟨bn, hbn⟩ : ∃ bn, bn = w.heap.size := ⟨_, rfl⟩
 obtain ⟨W1, hW1⟩ : ∃ W1, W1 = w.alloc (.cells #[.int .i64 x.n.d, .int .i64 x.n.p, .string (bstr x.n.pol), .slice x.u.ad x.u.n x.u.c] 111) := ⟨_, rfl⟩
 have hq1 : W1.heap[bn]? = some (.cells #[.int .i64 x.n.d, .int .i64 x.n.p, .string (bstr x.n.pol), .slice x.u.ad x.u.n x.u.c] 111 (0, 0)) := by rw [hW1, hbn]; exact heap_alloc_new _ _
 have HQ1 := Bx.mk hq1;have HBA := Bx.mk (show Below w.heap.size w W1 by rw [hW1]; exact (Below.refl _ _).alloc (zR _) _);have HQ := Bx.mk (show W1.cell? ⟨qd, 0, none⟩ = some (.int .i64 D) from (HBA.out.cell (p := ⟨qd, 0, none⟩) hql).trans hq);have HQL := Bx.mk (show qd < W1.heap.size from Nat.lt_of_lt_of_le hql HBA.out.size);have hs1 := hsp W1;obtain ⟨s, hs⟩ : ∃ s, s = spec x.n := ⟨_, rfl⟩
 rw [<- hs] at hs1 hR;have HRR := Bx.mk hR;clear hsp hs hR hq hql;go_enter Tryz.func90, Tryz.ntmps90;go_upto_region 1 with fail
 rw [<- hW1, <- hbn];clear hW1 hbn;have m0 := cell_of_row _ _ 0 _ _ _ hq1;have m1 := cell_of_row _ _ 1 _ _ _ hq1;have m2 := cell_of_row _ _ 2 _ _ _ hq1;have m3 := cell_of_row _ _ 3 _ _ _ hq1;simp only [List.getElem?_toArray, List.getElem?_cons_zero, List.getElem?_cons_succ] at m0 m1 m2 m3
 clear hq1;go_wp2_with fail
 go_at_call 85;refine hs1.mono ?_;rintro e w2 ⟨rfl, hb2⟩;have HB2 := Bx.mk hb2;have q2 := (hb2.block bn (lt_of_some HQ1.out)).trans HQ1.out;have hqd := (hb2.cell (p := ⟨qd, 0, none⟩) HQL.out).trans HQ.out;clear hs1 m0 m1 m2 m3 hb2;have m0 := cell_of_row _ _ 0 _ _ _ q2;simp only [List.getElem?_toArray, List.getElem?_cons_zero, List.getElem?_cons_succ] at m0
 clear q2
 cases s with
 | false =>
  have HF := Bx.mk (show R = false by rw [HRR.out]; rfl);go_wp2_with fail
  go_ret
  exact ⟨by rw [HF.out]; rfl, HBA.out.trans (HB2.out.mono HBA.out.size)⟩
 | true =>
  obtain ⟨q, hqq⟩ : ∃ q, q = decide (x.n.d = D - 1) := ⟨_, rfl⟩
  have hq : (x.n.d == D - 1) = q := by rw [hqq]; rfl
  have hqc : (x.n.d = D - 1) = (q = true) := by rw [hqq]; simp
  have HF := Bx.mk (show R = q by rw [HRR.out, hqq]; rfl);clear hqq;go_wp2_with fail
  go_ret;exact ⟨by rw [HF.out]; rfl, HBA.out.trans (HB2.out.mono HBA.out.size)⟩
theorem idxF_any (w : World) (v : Value) (l : List Nt) (h : TL w v l) (hn : l.length <= 100000) (qd : Nat) (D : Int) (hD : 1 <= D /\ D <= 9223372036854775807) (hq : w.cell? ⟨qd, 0, none⟩ = some (.int .i64 D)) (hql : qd < w.heap.size) :
  Calls Tryz.prog 89 #[v, .func (.func 90) #[] #[.pointer (some ⟨qd, 0, none⟩)]] w fun e w' => e = .returned (.int .i64 (idxP (nds l) (isPar D))) /\ Below w.heap.size w w' := by
 obtain ⟨ad, c, rfl, -⟩ := h.rd.form;have HC := Bx.mk h.cells.2;obtain ⟨R, hR⟩ : ∃ R, R = idxP (nds l) (isPar D) := ⟨_, rfl⟩
 rw [<- hR];have HR := Bx.mk hR;obtain ⟨N, hN⟩ : ∃ N, N = l.length := ⟨_, rfl⟩
 have HN := Bx.mk hN;rw [<- hN] at hn |-;clear h hR hN;have HQ := Bx.mk hq;have HQL := Bx.mk hql;clear hq hql;have eg : ∀ args W, (callFunc 90 args).run Tryz.prog W = .ok (.enter 90 args) W := enters_of Tryz.func90 (by kernel_rfl) rfl
 go_enter Tryz.func89, Tryz.ntmps89;go_wp2_with fail
 go_loopw [8] (fun i wr => ∃ k : Nat, k <= N /\ i = .int .i64 k /\ Bx (∀ j, j < k -> isPar D (nds l)[j]! = false) /\ Bx (Below w.heap.size w wr)) (fun i _ => N - (intOf i).toNat)
 case atStart => exact ⟨0, by omega, rfl, ⟨fun j hj => by omega⟩, ⟨Below.refl _ _⟩⟩
 case round =>
  obtain ⟨k, hk, rfl, hF, hBw⟩ := hrel;by_cases hlt : k < N
  ·have hkl : k < l.length := by rw [<- HN.out]; exact hlt
   obtain ⟨b, o, rfl, hbl, c0, c1, c2, c3⟩ := HC.out wr hBw.out k hkl;have HX := Bx.mk (show (nds l)[k]! = (l[k]).n from nds_at l k hkl);obtain ⟨x, hx⟩ : ∃ x, x = l[k] := ⟨_, rfl⟩
   rw [<- hx] at c0 c1 c2 c3 HX;simp only [Sl.val] at c3
   have hcf := resF_any wr x qd D hD ((hBw.out.cell (p := ⟨qd, 0, none⟩) HQL.out).trans HQ.out) (Nat.lt_of_lt_of_le HQL.out hBw.out.size);unfold nodV at hcf;simp only [Sl.val] at hcf
   obtain ⟨r, hr⟩ : ∃ r, r = isPar D x.n := ⟨_, rfl⟩
   rw [<- hr] at hcf;have HRX := Bx.mk hr;clear hx hbl hr;go_wp2_with fail
   go_at_call 90;refine hcf.mono ?_;rintro e w2 ⟨rfl, hb2⟩;have HB2 := Bx.mk (hBw.out.trans (hb2.mono hBw.out.size));clear hcf hb2 c0 c1 c2 c3
   cases r with
   | true =>
    have HF2 := Bx.mk (show R = (k : Int) by rw [HR.out]; exact idxP_eq (by rw [nds_len]; exact hkl) (by rw [HX.out]; exact HRX.out.symm) hF.out);clear hkl;go_wp2_with fail
    go_ret
    exact ⟨by rw [HF2.out]; rfl, HB2.out⟩
   | false =>
    clear hkl;go_wp2_with fail
    go_roundw
    case rel => exact ⟨k + 1, by omega, by go_num, ⟨fun j hj => by
     by_cases e : j = k
     ·subst e; rw [HX.out]; exact HRX.out.symm
     ·exact hF.out j (by omega)⟩, HB2⟩
    case measure => simp [intOf]; omega
  ·obtain rfl : N = k := by omega
   have HF2 := Bx.mk (show R = -1 by rw [HR.out]; exact idxP_no fun i hi => hF.out i (by rw [nds_len, <- HN.out] at hi; exact hi));go_wp2_with fail
   go_ret;exact ⟨by rw [HF2.out]; rfl, hBw.out⟩
end Go.Proofs.YtmagjdocondmhaaGreat.Tr
namespace Go.Proofs.YtmagjdocondmhaaGreat.Tr
open Go Go.RowKit Slc St Mp
attribute [local go_sem] Oper.semAt_some
theorem take_at {L : List Bool} {N k j : Nat} (hL : L.length = N) (hk : k <= N) (hj : j < k) : (L.take k ++ List.replicate (N - k) false)[j]! = L[j]! := by
 rw [getElem!_append_left' (by rw [List.length_take]; omega), getElem!_take' hj]
theorem filt1 (g : B -> Bool) (s : B) : ([s].filter fun q => !g q) = if !g s then [s] else [] := by cases h : g s <;> simp [List.filter_cons, h]
structure RsS (w : World) (t : List Nd) (D : Int) (ps : List B) (mb hb : Nat) (L : List Bool) (k : Nat) : Prop where
 mm : MB w mb L
 hv : ∃ q f, q <= k /\ OwnF w kS rdB edB hb q f /\ ∀ p, (f p).getD false = haveK t D ps p k
theorem RsS.below {w w' : World} {t : List Nd} {D : Int} {ps : List B} {mb hb : Nat} {L : List Bool} {k : Nat} (h : RsS w t D ps mb hb L k) (hb' : Below w.heap.size w w') : RsS w' t D ps mb hb L k :=
 ⟨(hb'.block mb (lt_of_some h.mm)).trans h.mm, by obtain ⟨q, f, h1, h2, h3⟩ := h.hv; exact ⟨q, f, h1, h2.below hb', h3⟩⟩
theorem RsS.set {w : World} {t : List Nd} {D : Int} {ps : List B} {mb hb : Nat} {L : List Bool} {k : Nat} (h : RsS w t D ps mb hb L k) (hne : mb ≠ hb) (i : Nat) (b : Bool) : RsS (w.setCell ⟨mb, i, none⟩ (.bool b)) t D ps mb hb (L.set i b) k :=
 ⟨h.mm.set i b, by obtain ⟨q, f, h1, h2, h3⟩ := h.hv; exact ⟨q, f, h1, h2.block (heap_setCell_other _ _ _ _ (show hb ≠ mb from fun e => hne e.symm)), h3⟩⟩
theorem restr_any (w : World) (v pv : Value) (l : List Nt) (ps : List B) (h : TL w v l) (hp : Rd w encS pv ps) (hn : l.length <= 100000) (hpl : ps.length <= 100000) (hpx : ∀ p ∈ ps, p.length <= 1000000) (D : Int) (hD : I64 D) :
  Calls Tryz.prog 40 #[v, .int .i64 D, pv] w fun e w' => EnP w (resP (nds l) D ps) e w' := by
 obtain ⟨i0, hi0, hz0, hz1, hz2⟩ := info_parts info_node;obtain ⟨ib, hib, hib0, hib1, hib2⟩ := info_parts (show (Tryz.prog.info? 4).map (fun i => (i.zero, i.size, i.bytes)) = some (some (.bool false), 1, 1) by kernel_rfl);have hset := fun (W : World) (hW : Below w.heap.size w W) => set_any W pv ps (hp.below hW) (by omega)
 have hcont := fun (W : World) (hW : Below w.heap.size w W) (p : B) => contains_any W pv ps p (hp.below hW) (by omega)
 obtain ⟨R, hR⟩ : ∃ R, R = resP (nds l) D ps := ⟨_, rfl⟩
 rw [<- hR];have HR := Bx.mk hR;unfold resP at hR;obtain ⟨ad, c, rfl, -⟩ := h.rd.form;obtain ⟨pa, pc, rfl, -⟩ := hp.form;obtain ⟨W0, hW0⟩ : ∃ W0, W0 = w.alloc (.cells #[.int .i64 D] 3) := ⟨_, rfl⟩
 obtain ⟨qd, hqd⟩ : ∃ qd, qd = w.heap.size := ⟨_, rfl⟩
 have HQD := Bx.mk hqd;have hq0 : W0.heap[qd]? = some (.cells #[.int .i64 D] 3 (0, 0)) := by rw [hW0, hqd]; exact heap_alloc_new _ _
 have HQ0 := Bx.mk hq0;have HB0 := Bx.mk (show Below w.heap.size w W0 by rw [hW0]; exact (Below.refl _ _).alloc (zR _) _);have hval := valid_any W0 _ l (h.below HB0.out) hn D;have HL := Bx.mk h;have HC := Bx.mk h.cells.2;have HPX := Bx.mk hpx;have HSET := Bx.mk hset;have HCONT := Bx.mk hcont;obtain ⟨N, hN⟩ : ∃ N, N = l.length := ⟨_, rfl⟩
 have HN := Bx.mk hN;obtain ⟨PN, hPN⟩ : ∃ n, n = ps.length := ⟨_, rfl⟩
 have HPN := Bx.mk hPN;rw [<- hN] at hn hval |-;rw [<- hPN] at hpl |-;obtain ⟨V, hV⟩ : ∃ V, V = validB (nds l) D := ⟨_, rfl⟩
 rw [<- hV] at hval hR;have HV := Bx.mk hV;have HRR := Bx.mk hR;clear h hp hN hpx hset hcont hV hR hPN;unfold EnP I64 at *;go_enter Tryz.func40, Tryz.ntmps40;go_upto_region 1 with fail
 rw [<- hW0, <- hqd];clear hW0 hqd;have d0 := cell_of_row _ _ 0 _ _ _ hq0;simp only [List.getElem?_toArray, List.getElem?_cons_zero] at d0
 clear hq0;go_wp2_with fail
 go_at_call 80;refine hval.mono ?_;rintro e w1 ⟨rfl, hb1⟩;have HB1 := Bx.mk (HB0.out.trans (hb1.mono HB0.out.size));have hq1 := (hb1.block qd (lt_of_some HQ0.out)).trans HQ0.out;have HQ1 := Bx.mk hq1;clear hval hb1 d0
 cases V with
 | false =>
  have HF := Bx.mk (show R = ([], 7) by rw [HRR.out]; rfl);clear hq1;go_wp2_with fail
  go_ret2
  exact ⟨_, [], by rw [HF.out]; rfl, TO.nil _ _, by rw [HF.out]; rfl, HB1.out⟩
 | true =>
 have HVV := Bx.mk ((valid_iff _ _).1 HV.out.symm);have hN2 : N <= 2048 := by have := HVV.out.len; rw [nds_len, <- HN.out] at this; exact this
 have d1 := cell_of_row _ _ 0 _ _ _ hq1;simp only [List.getElem?_toArray, List.getElem?_cons_zero] at d1
 have hct := HCONT.out w1 HB1.out anyP;rw [<- HPN.out] at hct;rw [anyP_str] at hct;obtain ⟨fr, hfr⟩ : ∃ b, b = (ps.isEmpty || decide (anyP ∈ ps)) := ⟨_, rfl⟩
 have HFR := Bx.mk hfr;obtain ⟨ca, hca⟩ : ∃ b, b = decide (anyP ∈ ps) := ⟨_, rfl⟩
 rw [<- hca] at hct hfr;have HCA := Bx.mk hfr;clear hq1 hfr hca;go_upto_region 3 with fail
 go_cut [30] (fun cc wx => cc = .bool fr /\ w1 = wx)
 case first =>
  by_cases hz : PN = 0
  ·have hem : ps.isEmpty = true := by rw [List.isEmpty_iff]; exact List.eq_nil_of_length_eq_zero (by rw [<- HPN.out]; exact hz)
   have HE := Bx.mk (show fr = true by rw [HCA.out, hem]; rfl);subst hz;clear hem;go_wp2_with fail
   go_meet;exact ⟨by rw [HE.out], rfl⟩
  ·have hem : ps.isEmpty = false := by
    rw [List.isEmpty_eq_false_iff]; intro e
    apply hz; rw [HPN.out, e]; rfl
   have HE := Bx.mk (show fr = ca by rw [HCA.out, hem]; rfl);have t3 : ((PN : Int) == 0) = false := by rw [beq_eq_false_iff_ne]; omega
   have t4 : ¬ ((PN : Int) = 0) := by omega
   clear hem hz;go_wp2_with fail
   go_at_call 48;refine hct.mono ?_;rintro e w3 ⟨rfl, rfl⟩;go_wp2_with fail
   go_meet;exact ⟨by rw [HE.out], rfl⟩
 case rest =>
 obtain ⟨rfl, rfl⟩ := hcut;clear hct
 cases fr with
 | true =>
  have hpr := prune_any w1 _ l (HL.out.below HB1.out) (by have := HN.out; omega) (fun i hi => HVV.out.pge (by rw [nds_len]; exact hi)) D;have HF := Bx.mk (show R = (pruneP (nds l) D, 0) by rw [HRR.out, <- HFR.out]; rfl);rw [<- HN.out] at hpr;go_wp2_with fail
  go_at_call 84;refine hpr.mono ?_;rintro e w7 ⟨v7, l7, rfl, ho7, hn7, hb7⟩;obtain ⟨a7, c7, rfl, -⟩ := ho7.own.rd.form;have HO7 := Bx.mk (ho7.mono HB1.out.size);have HN7 := Bx.mk hn7;have HB7 := Bx.mk (HB1.out.trans (hb7.mono HB1.out.size));clear hpr ho7 hn7 hb7;go_wp2_with fail
  go_ret2
  exact ⟨_, l7, by rw [HF.out]; rfl, HO7.out, by rw [HF.out, HN7.out], HB7.out⟩
 | false =>
 have HPS := Bx.mk (show ps ≠ [] /\ anyP ∉ ps by
  have := HFR.out;rw [Bool.false_eq, Bool.or_eq_false_iff, List.isEmpty_eq_false_iff, decide_eq_false_iff_not] at this
  exact this)
 have HRS := Bx.mk (res_vs HVV.out ps HPS.out);have hmk := run_makeSlice (P := Tryz.prog) w1 75 4 ib (.bool false) Tryz.underlying75 hib hib0 .i64 .i64 (N : Nat) (N : Nat) (by omega) (by omega) (by rw [Int.toNat_natCast, hib1]; omega) (by rw [hib2]; omega) (by omega);simp only [Int.toNat_natCast, hib1, made_marks] at hmk
 have hmm := @run_makeMap Tryz.prog;obtain ⟨W3, hW3⟩ : ∃ W3, W3 = w1.alloc (.cells ((List.replicate N false).map Value.bool).toArray 4) := ⟨_, rfl⟩
 obtain ⟨W4, hW4⟩ : ∃ W4, W4 = W3.alloc (.map #[] 0) := ⟨_, rfl⟩
 obtain ⟨mb, hmb⟩ : ∃ mb, mb = w1.heap.size := ⟨_, rfl⟩
 have HMBE := Bx.mk hmb;have hs3 : W3.heap.size = mb + 1 := by rw [hW3, hmb]; simp
 have HM0 := Bx.mk (show MB W4 mb (List.replicate N false) by unfold MB; rw [hW4]; exact Go.Proofs.YtmagjdocondmhaaGreat.Rg.alloc_keep (by rw [hW3, hmb]; exact heap_alloc_new _ _));have HV0 := Bx.mk (show OwnF W4 kS rdB edB (mb + 1) 0 (fun _ => none) by rw [hW4, <- hs3]; exact OwnF.made W3 kS rdB edB);have HB4 := Bx.mk (show Below mb w1 W4 by rw [hW4, hW3, hmb]; exact ((Below.refl _ _).alloc (zR _) _).alloc (by simp) _);rw [<- hW3, <- hmb] at hmk;have hmm3 := hmm 98 W3;rw [hs3, <- hW4] at hmm3;obtain ⟨L, hL⟩ : ∃ L, L = resM (nds l) D ps := ⟨_, rfl⟩
 have HLL := Bx.mk hL;have HLN := Bx.mk (show L.length = N by rw [hL]; unfold resM; rw [dnM_length, nds_len, <- HN.out]);have HPG := Bx.mk (show ∀ i, i < N -> -1 <= (nds l)[i]!.p /\ (nds l)[i]!.p < i from fun i hi => HVV.out.pge (by rw [nds_len, <- HN.out]; exact hi))
 have HLA := Bx.mk (show ∀ i, i < N -> L[i]! = (resC (nds l) D ps i && (decide ((nds l)[i]!.p < 0) || L[(nds l)[i]!.p.toNat]!)) from fun i hi => by
  rw [hL]; unfold resM; exact HVV.out.dn _ (by rw [nds_len, <- HN.out]; exact hi))
 clear hmb hW3 hs3 hW4 hL hmm;go_wp2_with fail
 clear hmk hmm3;have hmbw := HB1.out.size;go_loopw [10, 40] (fun dv i wr => ∃ k : Nat, k <= N /\ i = .int .i64 k /\ dv = .int .i64 (dpK (nds l) D k) /\ Bx (RsS wr (nds l) D ps mb (mb + 1) (L.take k ++ List.replicate (N - k) false) k) /\ Bx (Below mb w1 wr)) (fun _ i _ => N - (intOf i).toNat)
 case atStart =>
  refine ⟨0, by omega, rfl, rfl, ⟨by simpa using HM0.out, 0, _, by omega, HV0.out, fun p => ?_⟩, HB4⟩;unfold haveK; simp
 case round =>
  clear HM0 HV0 HB4;obtain ⟨k, hk, rfl, rfl, hS, hBw⟩ := hrel;have hbw1 : Below w1.heap.size w1 wr := HMBE.out ▸ hBw.out;have HBW := Bx.mk (HB1.out.trans (hbw1.mono HB1.out.size));obtain ⟨LP, hLP⟩ : ∃ LP, LP = dpK (nds l) D k := ⟨_, rfl⟩
  have HLP := Bx.mk hLP;rw [<- hLP];by_cases hlt : k < N
  ·have hkl : k < l.length := by rw [<- HN.out]; exact hlt
   obtain ⟨b, o, rfl, hbl, c0, c1, c2, c3⟩ := HC.out wr HBW.out k hkl;have hXL := (HL.out.at_ l[k] (zM hkl)).2.2;have HX := Bx.mk (show (nds l)[k]! = (l[k]).n from nds_at l k hkl);obtain ⟨x, hx⟩ : ∃ x, x = l[k] := ⟨_, rfl⟩
   rw [<- hx] at c0 c1 c2 c3 hXL HX;simp only [Sl.val] at c3
   have hpg := HPG.out k hlt;have hla := HLA.out k hlt;rw [HX.out] at hpg hla;have HLK := Bx.mk hla;have HXL := Bx.mk hXL;clear hx hbl hkl hla hXL hLP;obtain ⟨W1, hW1⟩ : ∃ W1, W1 = wr.alloc (.cells #[.int .i64 x.n.d, .int .i64 x.n.p, .string (bstr x.n.pol), .slice x.u.ad x.u.n x.u.c] 111) := ⟨_, rfl⟩
   obtain ⟨bn, hbn⟩ : ∃ bn, bn = wr.heap.size := ⟨_, rfl⟩
   have HBN := Bx.mk hbn;have hq1 : W1.heap[bn]? = some (.cells #[.int .i64 x.n.d, .int .i64 x.n.p, .string (bstr x.n.pol), .slice x.u.ad x.u.n x.u.c] 111 (0, 0)) := by rw [hW1, hbn]; exact heap_alloc_new _ _
   have HQN := Bx.mk hq1;have HBA := Bx.mk (show Below wr.heap.size wr W1 by rw [hW1]; exact (Below.refl _ _).alloc (zR _) _);have hsz := hbw1.size;have HBWA := Bx.mk (show Below mb w1 W1 from hBw.out.trans (HBA.out.mono (by have := HMBE.out; omega)));have HSA := Bx.mk (hS.out.below HBA.out);have HMBN := Bx.mk (show mb + 1 < bn by rw [hbn]; obtain ⟨q, f, _, ho, _⟩ := hS.out.hv; exact ho.lt);obtain ⟨pm, hpm⟩ : ∃ b, b = (decide (x.n.p < 0) || L[x.n.p.toNat]!) := ⟨_, rfl⟩
   have HPM := Bx.mk hpm;have hml := marks_len (L := L) (k := k) HLN.out (by omega);have hmk0 := HSA.out.mm.cell k (by rw [hml]; exact hlt);have hmf := Go.Proofs.YtmagjdocondmhaaGreat.Rg.frozen_row (i := k) HSA.out.mm;obtain ⟨old, hold⟩ : ∃ b, b = (L.take k ++ List.replicate (N - k) false)[k]! := ⟨_, rfl⟩
   rw [<- hold] at hmk0;go_upto_region 10 with fail
   rw [<- hW1, <- hbn];clear hW1 hbn c0 c1 c2 c3 hbw1 hS hold;have m1 := cell_of_row _ _ 1 _ _ _ hq1;simp only [List.getElem?_toArray, List.getElem?_cons_zero, List.getElem?_cons_succ] at m1
   clear hq1 hsz;go_cut [] (fun wx => wx = W1.setCell ⟨mb, k, none⟩ (.bool pm))
   case first =>
    by_cases tp : x.n.p < 0
    ·have tq : decide (x.n.p < 0) = true := zT tp;have HE := Bx.mk (show pm = true by rw [HPM.out, tq]; rfl);clear tp hml hpm;go_wp2_with fail
     go_meet;rw [HE.out]
    ·obtain ⟨pp, hpp⟩ : ∃ pp : Nat, x.n.p = (pp : Int) := ⟨x.n.p.toNat, by omega⟩
     have hppk : pp < k := (by omega);have hppN : pp < N := (by omega);have HE := Bx.mk (show pm = L[pp]! by rw [hpm, zF tp, hpp, Int.toNat_natCast, Bool.false_or]);have hmp := HSA.out.mm.cell pp (by rw [hml]; exact hppN);rw [take_at HLN.out (by omega) hppk, <- HE.out] at hmp;rw [hpp] at m1;have tq : decide ((pp : Int) < 0) = false := zF (by omega);clear tp hml hpm hpg hpp;go_wp2_with fail
     go_meet;rfl
   case rest =>
   have hcw := hcut;obtain ⟨Lk, hLk⟩ : ∃ Lk, Lk = (L.take k ++ List.replicate (N - k) false).set k pm := ⟨_, rfl⟩
   have HLk := Bx.mk hLk;have HSC := Bx.mk (show RsS wc (nds l) D ps mb (mb + 1) Lk k by rw [hcw, hLk]; exact HSA.out.set (by omega) k pm);have HBC := Bx.mk (show Below mb w1 wc by rw [hcw]; exact HBWA.out.setCell (zR mb) _)
   have hqc : wc.heap[bn]? = some (.cells #[.int .i64 x.n.d, .int .i64 x.n.p, .string (bstr x.n.pol), .slice x.u.ad x.u.n x.u.c] 111 (0, 0)) := by
    rw [hcw, heap_setCell_other _ _ _ _ (show bn ≠ mb by have := HMBN.out; omega)]; exact HQN.out
   have HQC := Bx.mk hqc;have HLkl := Bx.mk (show Lk.length = N by rw [hLk, zL]; exact hml);have hmkc := HSC.out.mm.cell k (by rw [HLkl.out]; exact hlt);rw [hLk, set_at _ _ _ _ (by rw [hml]; exact hlt), if_pos rfl] at hmkc;obtain ⟨C1, hC1⟩ : ∃ b, b = (pm && (decide (x.n.p >= 0) && (spec (pn (nds l) x.n) && !spec x.n))) := ⟨_, rfl⟩
   have HC1 := Bx.mk hC1;clear hcut hcw hLk hml hmk0 hmf m1 hC1 hpm HSA HBWA;obtain ⟨w5, rfl⟩ : ∃ w5 : World, w5 = wc := ⟨_, rfl⟩
   have hbw5 : Below w.heap.size w w5 := HB1.out.trans ((HMBE.out ▸ HBC.out : Below w1.heap.size w1 w5).mono HB1.out.size);have HBW5 := Bx.mk hbw5;go_upto_region 11 with fail
   go_cut [79] (fun cc wx => cc = .bool C1 /\ Below w5.heap.size w5 wx)
   case first =>
    have m0 := cell_of_row _ _ 0 _ _ _ hqc;have m1 := cell_of_row _ _ 1 _ _ _ hqc;have m2 := cell_of_row _ _ 2 _ _ _ hqc;have m3 := cell_of_row _ _ 3 _ _ _ hqc;simp only [List.getElem?_toArray, List.getElem?_cons_zero, List.getElem?_cons_succ] at m0 m1 m2 m3
    have hc1 := HC1.out;clear hqc HC1
    cases pm with
    | false =>
     have HE := Bx.mk (show C1 = false by rw [hc1]; rfl);clear hc1 hbw5;go_wp2_with fail
     go_meet
     exact ⟨by rw [HE.out], Below.refl _ _⟩
    | true =>
    rw [Bool.true_and] at hc1;by_cases tp : x.n.p < 0
    ·have tq : decide (x.n.p >= 0) = false := zF (by omega);have HE := Bx.mk (show C1 = false by rw [hc1, tq]; rfl);clear hc1 hbw5 tp;go_wp2_with fail
     go_meet;exact ⟨by rw [HE.out], Below.refl _ _⟩
    ·obtain ⟨pp, hpp⟩ : ∃ pp : Nat, x.n.p = (pp : Int) := ⟨x.n.p.toNat, by omega⟩
     have hppN : pp < N := (by omega);have hppl2 : pp < l.length := (by rw [<- HN.out]; exact hppN);obtain ⟨b', o', hbe, -, d0', d1', d2', d3'⟩ := HC.out w5 hbw5 pp hppl2;simp only [zO, Addr.mk.injEq, and_true] at hbe
     obtain ⟨rfl, rfl⟩ := hbe;have HPN2 := Bx.mk (show pn (nds l) x.n = (l[pp]).n by unfold pn; rw [hpp, Int.toNat_natCast]; exact nds_at l pp hppl2);obtain ⟨y, hy⟩ : ∃ y, y = l[pp] := ⟨_, rfl⟩
     rw [<- hy] at d0' d1' d2' d3' HPN2;simp only [Sl.val] at d3'
     have hsp := special_any y w5;unfold nodV at hsp;simp only [Sl.val] at hsp
     rw [HPN2.out, zT (show x.n.p >= 0 by omega), Bool.true_and] at hc1;rw [hpp] at m1;obtain ⟨s1, hs1⟩ : ∃ s, s = spec y.n := ⟨_, rfl⟩
     rw [<- hs1] at hsp hc1;have tq : decide ((pp : Int) >= 0) = true := zT (by omega);have HH := Bx.mk hc1;clear hc1 hs1 hy hpp tp hppl2 hbw5 hpg;go_wp2_with fail
     go_at_call 85;refine hsp.mono ?_;rintro e w6 ⟨rfl, hb6⟩;clear hsp d0' d1' d2' d3' m0 m1 m2 m3
     cases s1 with
     | false =>
      go_wp2_with fail
      go_meet
      exact ⟨by rw [HH.out]; rfl, hb6⟩
     | true =>
      have r2 := (hb6.block bn (lt_of_some HQC.out)).trans HQC.out;have m0 := cell_of_row _ _ 0 _ _ _ r2;have m1 := cell_of_row _ _ 1 _ _ _ r2;have m2 := cell_of_row _ _ 2 _ _ _ r2;have m3 := cell_of_row _ _ 3 _ _ _ r2;simp only [List.getElem?_toArray, List.getElem?_cons_zero, List.getElem?_cons_succ] at m0 m1 m2 m3
      have hsp := special_any x w6;unfold nodV at hsp;simp only [Sl.val] at hsp
      have hRw := HH.out;obtain ⟨s2, hs2⟩ : ∃ s, s = spec x.n := ⟨_, rfl⟩
      rw [<- hs2] at hsp hRw;have HH2 := Bx.mk hRw;have HB6 := Bx.mk hb6;clear hRw hs2 r2 hb6;go_wp2_with fail
      go_at_call 85;refine hsp.mono ?_;rintro e w7 ⟨rfl, hb7⟩;have HB7 := Bx.mk (HB6.out.trans (hb7.mono HB6.out.size));clear hsp m0 m1 m2 m3 hb7;go_wp2_with fail
      go_meet;exact ⟨by rw [HH2.out]; cases s2 <;> rfl, HB7.out⟩
   case rest =>
   obtain ⟨rfl, hbW⟩ := hcut;obtain ⟨w6, rfl⟩ : ∃ w6 : World, w6 = wc := ⟨_, rfl⟩
   have HS6 := Bx.mk (HSC.out.below hbW);have HQ6 := Bx.mk ((hbW.block bn (lt_of_some HQC.out)).trans HQC.out);have HB6 := Bx.mk (show Below mb w1 w6 from HBC.out.trans (hbW.mono (by have := HBC.out.size; have := HMBE.out; omega)));have hstep := res_step (t := nds l) (D := D) k ps (pm := pm) (C1 := C1) (Lk := L[k]!) (by rw [HLK.out, HPM.out]) (by rw [HX.out]; exact HC1.out);rw [HX.out] at hstep;have HST := Bx.mk hstep
   have HHK := Bx.mk (show ∀ q, haveK (nds l) D ps q (k + 1) = (haveK (nds l) D ps q k || (C1 && (decide (x.n.pol ∈ ps) && decide (x.n.pol = q)))) from fun q => by
    rw [haveK_succ, <- HST.out.2, HX.out, HLL.out]; rfl)
   clear hstep hbW hqc hmkc hbw5 HSC HBC;go_upto_if 79 with fail
   go_cut [] (fun wx => ∃ cm : Bool, Bx (cm = if C1 = true then decide (x.n.pol ∈ ps) else pm) /\ Bx (RsS wx (nds l) D ps mb (mb + 1) ((L.take k ++ List.replicate (N - k) false).set k cm) (k + 1)) /\ Bx (Below mb w1 wx) /\ Bx (wx.heap[bn]? = some (.cells #[.int .i64 x.n.d, .int .i64 x.n.p, .string (bstr x.n.pol), .slice x.u.ad x.u.n x.u.c] 111 (0, 0))))
   case first =>
    cases C1 with
    | false =>
     have HS7 := Bx.mk (show RsS w6 (nds l) D ps mb (mb + 1) ((L.take k ++ List.replicate (N - k) false).set k pm) (k + 1) from ⟨by rw [<- HLk.out]; exact HS6.out.mm, by
      obtain ⟨q, f, h1, h2, h3⟩ := HS6.out.hv
      exact ⟨q, f, by omega, h2, fun p => by rw [h3, HHK.out]; simp⟩⟩)
     go_wp2_with fail
     go_meet
     exact ⟨pm, ⟨rfl⟩, HS7, HB6, HQ6⟩
    | true =>
     have hct := HCONT.out w6 (HB1.out.trans ((HMBE.out ▸ HB6.out : Below w1.heap.size w1 w6).mono HB1.out.size)) x.n.pol;rw [<- HPN.out] at hct;have q6 := HQ6.out;have m2 := cell_of_row _ _ 2 _ _ _ q6;simp only [List.getElem?_toArray, List.getElem?_cons_zero, List.getElem?_cons_succ] at m2
     have hmk6 := HS6.out.mm.cell k (by rw [HLkl.out]; exact hlt);have hmf6 := Go.Proofs.YtmagjdocondmhaaGreat.Rg.frozen_row (i := k) HS6.out.mm;obtain ⟨old6, hold6⟩ : ∃ b, b = Lk[k]! := ⟨_, rfl⟩
     rw [<- hold6] at hmk6;obtain ⟨cn, hcn⟩ : ∃ b, b = decide (x.n.pol ∈ ps) := ⟨_, rfl⟩
     rw [<- hcn] at hct;have HCN := Bx.mk hcn;obtain ⟨w8, hw8⟩ : ∃ w8, w8 = w6.setCell ⟨mb, k, none⟩ (.bool cn) := ⟨_, rfl⟩
     have HS8 := Bx.mk (show RsS w8 (nds l) D ps mb (mb + 1) ((L.take k ++ List.replicate (N - k) false).set k cn) k by
      have := HS6.out.set (by omega : mb ≠ mb + 1) k cn;rw [hw8];rw [HLk.out, List.set_set] at this
      exact this)
     have HB8 := Bx.mk (show Below mb w1 w8 by rw [hw8]; exact HB6.out.setCell (zR mb) _)
     have HQ8 := Bx.mk (show w8.heap[bn]? = some (.cells #[.int .i64 x.n.d, .int .i64 x.n.p, .string (bstr x.n.pol), .slice x.u.ad x.u.n x.u.c] 111 (0, 0)) by
      rw [hw8, heap_setCell_other _ _ _ _ (show bn ≠ mb by have := HMBN.out; omega)]; exact q6)
     clear hcn hold6 q6;go_wp2_with fail
     go_at_call 48;refine hct.mono ?_;rintro e w7 ⟨rfl, rfl⟩;clear hct;go_wp2_with fail
     rw [<- hw8];clear hw8 m2 hmk6 hmf6;have HBL8 := Bx.mk (show mb < w8.heap.size from lt_of_some HS8.out.mm);obtain ⟨q, f, hq, ho, hf⟩ := HS8.out.hv;have HQK := Bx.mk hq;have HO := Bx.mk ho;have HF := Bx.mk hf
     have hmE : ∀ e : Ext w8, e.out.cell? ⟨bn, 2, none⟩ = some (.string (bstr x.n.pol)) := fun e => by
      have m2 := cell_of_row _ _ 2 _ _ _ HQ8.out;simp only [List.getElem?_toArray, List.getElem?_cons_zero, List.getElem?_cons_succ] at m2
      exact (e.bel.cell (lt_of_some HQ8.out)).trans m2
     have hkE : ∀ e : Ext w8, e.out.cell? ⟨mb, k, none⟩ = some (.bool cn) := fun e => by
      have m3 := HS8.out.mm.cell k (by rw [zL]; exact (marks_len (L := L) (k := k) HLN.out (by omega)).symm ▸ hlt);rw [set_at _ _ _ _ (by rw [marks_len (L := L) (k := k) HLN.out (by omega)]; exact hlt), if_pos rfl] at m3;exact (e.bel.cell (p := ⟨mb, k, none⟩) HBL8.out).trans m3
     have hlE : ∀ e : Ext w8, (Instr.lookup 98 (.map (some (mb + 1))) (.string (bstr x.n.pol)) false).run Tryz.prog e.out = .ok (.bool ((f x.n.pol).getD false)) e.out := fun e => ((HO.out.below e.bel).lookS u_mapSB Value.bool false (Tryz.zeroValue4 _) rdB_mk rdB_inv (k := x.n.pol) (by have := HXL.out; unfold maxLen; omega)).1
     have HEND := Bx.mk (show ∀ (e1 : Ext w8) (r : Bool), r = ((f x.n.pol).getD false || cn) -> ∃ w9, (Instr.mapUpdate 98 (.map (some (mb + 1))) (.string (bstr x.n.pol)) (.bool r)).run Tryz.prog e1.out = .ok () w9 /\ RsS w9 (nds l) D ps mb (mb + 1) ((L.take k ++ List.replicate (N - k) false).set k cn) (k + 1) /\ Below mb w1 w9 /\ w9.heap[bn]? = some (.cells #[.int .i64 x.n.d, .int .i64 x.n.p, .string (bstr x.n.pol), .slice x.u.ad x.u.n x.u.c] 111 (0, 0)) from fun e1 r hr => by
      obtain ⟨w9, hrun, ho9, hg9⟩ := (HO.out.below e1.bel).putS u_mapSB (by have := HQK.out; unfold maxLen; omega) (k := x.n.pol) (by have := HXL.out; unfold maxLen; omega) r (.bool r) (rdB_mk _);have hes := e1.bel.size;have hbs := HB8.out.size;have hbl := lt_of_some HS8.out.mm;have hnl := lt_of_some HQ8.out;refine ⟨w9, hrun, ⟨?_, q + 1, _, by have := HQK.out; omega, ho9, fun p => ?_⟩, (HB8.out.trans (e1.bel.mono (by omega))).grown hg9 (by omega) fun j hj => by simp only [zO] at hj; omega, ?_⟩
      ·unfold MB;rw [hg9.block mb (by omega) (by simp), e1.bel.block mb hbl]; exact HS8.out.mm
      ·by_cases e : p = x.n.pol
       ·subst e;simp only [if_true, Option.getD_some]
        rw [hr, HF.out, HHK.out, <- HCN.out]; simp
       ·simp only [if_neg e]
        rw [HF.out, HHK.out, show decide (x.n.pol = p) = false from zF fun q => e q.symm]; simp
      ·rw [hg9.block bn (by omega) (by simp only [ne_eq, zO]; have := HMBN.out; omega), e1.bel.block bn hnl]; exact HQ8.out)
     obtain ⟨ov, hov⟩ : ∃ b, b = (f x.n.pol).getD false := ⟨_, rfl⟩
     rw [<- hov] at hlE HEND;clear hq ho hf hov
     cases ov with
     | true =>
      refine wp_region_ext_tail 13 (Ext.self w8) (by kernel_rfl) (by kernel_rfl) rfl rfl ?_;simp only [List.take_succ_cons, List.take_zero, List.drop_succ_cons, List.drop_zero]
      repeat (go_big_quiet_step (fail))
      refine wpQuiet_nil ?_;rintro _ ⟨e1, rfl⟩;obtain ⟨w9, hrun, h1, h2, h3⟩ := HEND.out e1 true (by simp);have H1 := Bx.mk h1;have H2 := Bx.mk h2;have H3 := Bx.mk h3;clear h1 h2 h3 hlE hkE hmE;go_wp2_with fail
      go_meet
      exact ⟨cn, ⟨by rw [if_pos trivial]; exact HCN.out⟩, H1, H2, H3⟩
     | false =>
      refine wp_region_ext_tail 13 (Ext.self w8) (by kernel_rfl) (by kernel_rfl) rfl rfl ?_;simp only [List.take_succ_cons, List.take_zero, List.drop_succ_cons, List.drop_zero]
      repeat (go_big_quiet_step (fail))
      refine wpQuiet_nil ?_;rintro _ ⟨e1, rfl⟩;obtain ⟨w9, hrun, h1, h2, h3⟩ := HEND.out e1 cn (by simp);have H1 := Bx.mk h1;have H2 := Bx.mk h2;have H3 := Bx.mk h3;clear h1 h2 h3 hlE hkE hmE;go_wp2_with fail
      go_meet;exact ⟨cn, ⟨by rw [if_pos trivial]; exact HCN.out⟩, H1, H2, H3⟩
   case rest =>
   obtain ⟨cm, hcm, hS7, hB7, hQ7⟩ := hcut;obtain ⟨w7, rfl⟩ : ∃ w7 : World, w7 = wc := ⟨_, rfl⟩
   have q7 := hQ7.out;have m0 := cell_of_row _ _ 0 _ _ _ q7;have m1 := cell_of_row _ _ 1 _ _ _ q7;have m2 := cell_of_row _ _ 2 _ _ _ q7;have m3 := cell_of_row _ _ 3 _ _ _ q7;simp only [List.getElem?_toArray, List.getElem?_cons_zero, List.getElem?_cons_succ] at m0 m1 m2 m3
   have hsp := special_any x w7;unfold nodV at hsp;simp only [Sl.val] at hsp
   obtain ⟨X, hX⟩ : ∃ b, b = (spec x.n && decide (x.n.d = D) && decide (D > 0)) := ⟨_, rfl⟩
   have HXX := Bx.mk hX;have HDK := Bx.mk (show dpK (nds l) D (k + 1) = if X = true then (k : Int) else LP by rw [dpK, HX.out, <- hX, <- HLP.out]);have HFIN := Bx.mk (show L[k]! = if X = true then false else cm by rw [HST.out.1, <- hX, hcm.out]);obtain ⟨sp, hspe⟩ : ∃ s, s = spec x.n := ⟨_, rfl⟩
   rw [<- hspe] at hsp hX;have HXV := Bx.mk hX;have HQD1 := Bx.mk (show qd < mb by rw [HMBE.out]; exact lt_of_some HQ1.out);clear hspe q7 hX d1;go_upto_region 14 with fail
   go_cut [111] (fun cc wx => cc = .bool X /\ Below w7.heap.size w7 wx)
   case first =>
    go_wp2_with fail
    go_at_call 85;refine hsp.mono ?_;rintro e w8 ⟨rfl, hb8⟩;have HB8 := Bx.mk hb8;have q8 := (hb8.block bn (lt_of_some hQ7.out)).trans hQ7.out;have d8 : w8.heap[qd]? = some (.cells #[.int .i64 D] 3 (0, 0)) := (hb8.block qd (by have := HQD1.out; have := lt_of_some hS7.out.mm; omega)).trans ((hB7.out.block qd HQD1.out).trans HQ1.out);clear hsp m0 m1 m2 m3 hb8;have m0 := cell_of_row _ _ 0 _ _ _ q8;have dd := cell_of_row _ _ 0 _ _ _ d8;simp only [List.getElem?_toArray, List.getElem?_cons_zero, List.getElem?_cons_succ] at m0 dd
    clear q8 d8
    cases sp with
    | false =>
     have HE := Bx.mk (show X = false by rw [HXV.out]; rfl);go_wp2_with fail
     go_meet
     exact ⟨by rw [HE.out], HB8.out⟩
    | true =>
     have hxv := HXV.out;rw [Bool.true_and] at hxv;by_cases td : x.n.d = D
     ·have tq : (x.n.d == D) = true := by simp [td]
      rw [zT td, Bool.true_and] at hxv;obtain ⟨z, hz⟩ : ∃ z, z = decide (D > 0) := ⟨_, rfl⟩
      rw [<- hz] at hxv;have HE := Bx.mk hxv;have hz' : decide (D > 0) = z := hz.symm;have hz2 : (0 < D) = (z = true) := (by rw [hz]; simp);clear hxv td hz;go_wp2_with fail
      go_meet;exact ⟨by rw [HE.out], HB8.out⟩
     ·have tq : (x.n.d == D) = false := by simp [td]
      have HE := Bx.mk (show X = false by rw [hxv, zF td]; rfl);clear hxv td;go_wp2_with fail
      go_meet;exact ⟨by rw [HE.out], HB8.out⟩
   case rest =>
   obtain ⟨rfl, hbW⟩ := hcut;have HS9 := Bx.mk (hS7.out.below hbW);have HB9 := Bx.mk (show Below mb w1 wc from hB7.out.trans (hbW.mono (by have := lt_of_some hS7.out.mm; omega)));have hml := marks_len (L := L) (k := k) HLN.out (by omega);clear hsp m0 m1 m2 m3 hbW
   cases X with
   | true =>
    have hmk9 := HS9.out.mm.cell k (by rw [zL, hml]; exact hlt);have hmf9 := Go.Proofs.YtmagjdocondmhaaGreat.Rg.frozen_row (i := k) HS9.out.mm;obtain ⟨old9, hold9⟩ : ∃ b, b = ((L.take k ++ List.replicate (N - k) false).set k cm)[k]! := ⟨_, rfl⟩
    rw [<- hold9] at hmk9
    have HSF := Bx.mk (show RsS (wc.setCell ⟨mb, k, none⟩ (.bool false)) (nds l) D ps mb (mb + 1) (L.take (k + 1) ++ List.replicate (N - (k + 1)) false) (k + 1) by
     have hst : ∀ b, b = L[k]! -> RsS (wc.setCell ⟨mb, k, none⟩ (.bool b)) (nds l) D ps mb (mb + 1) (L.take (k + 1) ++ List.replicate (N - (k + 1)) false) (k + 1) := fun b hb => by
      have := HS9.out.set (by omega : mb ≠ mb + 1) k b;rw [List.set_set, hb, marks_step HLN.out hlt] at this;rw [hb]; exact this
     exact hst false (by rw [HFIN.out]; rfl))
    have HBF := Bx.mk (show Below mb w1 (wc.setCell ⟨mb, k, none⟩ (.bool false)) from HB9.out.setCell (zR mb) _);have HD2 := Bx.mk (show dpK (nds l) D (k + 1) = (k : Int) by rw [HDK.out]; rfl);clear hold9 hml;go_wp2_with fail
    go_roundw
    case rel => exact ⟨k + 1, by omega, by go_num, by rw [HD2.out], HSF, HBF⟩
    case measure => simp [intOf]; omega
   | false =>
    have HSF := Bx.mk (show RsS wc (nds l) D ps mb (mb + 1) (L.take (k + 1) ++ List.replicate (N - (k + 1)) false) (k + 1) by
     have := HS9.out;rw [show cm = L[k]! from by rw [HFIN.out]; rfl, marks_step HLN.out hlt] at this
     exact this)
    have HD2 := Bx.mk (show dpK (nds l) D (k + 1) = LP by rw [HDK.out]; rfl);clear hml;go_wp2_with fail
    go_roundw
    case rel => exact ⟨k + 1, by omega, by go_num, by rw [HD2.out], HSF, HB9⟩
    case measure => simp [intOf]; omega
  ·obtain rfl : N = k := by omega
   have hmm2 : MB wr mb L := by
    have := hS.out.mm;rw [Nat.sub_self, List.replicate_zero, List.append_nil, <- HLN.out, List.take_length] at this;exact this
   have hrd := hmm2.rd (c := N) (by have := HLN.out; omega);rw [HLN.out] at hrd;have hkeep := keep_any wr (.slice ad l.length c) _ l L (HL.out.below HBW.out) hrd (by rw [HLN.out, HN.out]) (by have := HN.out; omega) (fun i hi _ => HVV.out.pge (by rw [nds_len]; exact hi));rw [<- HN.out] at hkeep
   have HHV := Bx.mk (show ∃ q f, OwnF wr kS rdB edB (mb + 1) q f /\ ∀ p, (f p).getD false = haveK (nds l) D ps p (nds l).length by
    obtain ⟨q, f, _, h2, h3⟩ := hS.out.hv
    exact ⟨q, f, h2, fun p => by rw [h3, nds_len, <- HN.out]⟩)
   have HLD := Bx.mk (show LP = dpK (nds l) D (nds l).length by rw [HLP.out, nds_len, <- HN.out]);have HQW := Bx.mk (show wr.heap[qd]? = some (.cells #[.int .i64 D] 3 (0, 0)) from (hBw.out.block qd (by rw [HMBE.out]; exact lt_of_some HQ1.out)).trans HQ1.out);clear hmm2 hrd hbw1 hS hLP d1 hBw;go_wp2_with fail
   go_at_call 87;refine hkeep.mono ?_;rintro e w5 ⟨v5, ol, rfl, ho5, hn5, hb5⟩;rw [HLL.out] at hn5;have HOL := Bx.mk hn5
   have hol5 : ol.length <= 2048 := by
    have h2 := congrArg List.length hn5;have h3 := res_len HVV.out ps;rw [nds_len] at h2;rw [nds_len, <- HN.out] at h3;omega
   have HB5 := Bx.mk (HBW.out.trans (hb5.mono HBW.out.size));have HO5 := Bx.mk (ho5);have HQ5 := Bx.mk ((hb5.block qd (lt_of_some HQW.out)).trans HQW.out)
   have HHV5 := Bx.mk (show ∃ q f, OwnF w5 kS rdB edB (mb + 1) q f /\ ∀ p, (f p).getD false = haveK (nds l) D ps p (nds l).length by
    obtain ⟨q, f, h2, h3⟩ := HHV.out
    exact ⟨q, f, h2.below hb5, h3⟩)
   obtain ⟨oa, oc, rfl, -⟩ := ho5.own.rd.form;obtain ⟨ON, hON⟩ : ∃ n, n = ol.length := ⟨_, rfl⟩
   have HON := Bx.mk hON;rw [<- hON] at HO5 hol5 |-;have hd5 := cell_of_row _ _ 0 _ _ _ HQ5.out;simp only [List.getElem?_toArray, List.getElem?_cons_zero] at hd5
   have HANY := Bx.mk (dpK_any (nds l) D);rw [<- HLD.out] at HANY;clear hkeep hb5 ho5 hn5 hON;by_cases tl : 0 <= LP
   ·have tq : decide (LP >= 0) = true := zT tl;have hany := HANY.out.1 tl
    have hD1 : 1 <= D /\ D <= 9223372036854775807 := by
     refine ⟨?_, hD.2⟩;rw [List.any_eq_true] at hany;obtain ⟨n, -, hn3⟩ := hany;simp only [Bool.and_eq_true, decide_eq_true_eq] at hn3
     omega
    have HVS := Bx.mk (HRS.out.2 hany)
    have HRX := Bx.mk (show R = if (nds ol).length + (resMore (nds l) (nds ol) D ps).length > 2048 then ([], 2) else (pruneP (sortT (nds ol ++ resMore (nds l) (nds ol) D ps)) D, 0) by
     rw [HRR.out, <- HFR.out, HOL.out, if_pos hany]; rfl)
    have hidx := idxF_any w5 (.slice oa ON oc) ol HO5.out.tl (by have := HON.out; omega) qd D hD1 hd5 (lt_of_some HQ5.out);obtain ⟨I, hI⟩ : ∃ I, I = idxP (nds ol) (isPar D) := ⟨_, rfl⟩
    rw [<- hI] at hidx;have HI := Bx.mk hI;have HD1 := Bx.mk hD1;clear tl hany hI;go_wp2_with fail
    go_at_call 89;refine hidx.mono ?_;rintro e w6 ⟨rfl, hb6⟩;have HB6 := Bx.mk (HB5.out.trans (hb6.mono HB5.out.size));have HO6 := Bx.mk (HO5.out.below hb6);have HQ6 := Bx.mk ((hb6.block qd (lt_of_some HQ5.out)).trans HQ5.out)
    have HHV6 := Bx.mk (show ∃ q f, OwnF w6 kS rdB edB (mb + 1) q f /\ ∀ p, (f p).getD false = haveK (nds l) D ps p (nds l).length by
     obtain ⟨q, f, h2, h3⟩ := HHV5.out
     exact ⟨q, f, h2.below hb6, h3⟩)
    have hset6 := HSET.out w6 HB6.out;rw [<- HPN.out] at hset6;clear hidx hb6 hd5;go_wp2_with fail
    go_at_call 81;refine hset6.mono ?_;rintro e w7 ⟨sv, rfl, ho7, hb7⟩;obtain ⟨sa, sc, rfl, -⟩ := ho7.rd.form;obtain ⟨S, hS⟩ : ∃ S, S = setB ps := ⟨_, rfl⟩
    rw [<- hS] at ho7 |-;have HSS := Bx.mk hS;obtain ⟨SN, hSN⟩ : ∃ n, n = S.length := ⟨_, rfl⟩
    have HSN := Bx.mk hSN;have hsn : SN <= 100000 := (by rw [hSN, hS]; have := setB_length ps; have := HPN.out; omega);rw [<- hSN] at ho7 |-;have HSC := Bx.mk (strs_cells ho7.rd).2;have HSX := Bx.mk (show ∀ p ∈ S, p.length <= 1000000 from fun p hp => HPX.out p (setB_mem.1 (HSS.out ▸ hp)));have HB7 := Bx.mk (HB6.out.trans (hb7.mono HB6.out.size));have HO7 := Bx.mk (HO6.out.below hb7);have HQ7 := Bx.mk ((hb7.block qd (lt_of_some HQ6.out)).trans HQ6.out)
    have HHV7 := Bx.mk (show ∃ q f, OwnF w7 kS rdB edB (mb + 1) q f /\ ∀ p, (f p).getD false = haveK (nds l) D ps p (nds l).length by
     obtain ⟨q, f, h2, h3⟩ := HHV6.out
     exact ⟨q, f, h2.below hb7, h3⟩)
    clear hset6 ho7 hb7 hS hSN;go_wp2_with fail
    go_loopw [15, 128] (fun mv i wr => ∃ (k : Nat) (ml : List Nt), k <= SN /\ i = .int .i64 k /\ ml.length <= k /\ Bx (GT w7 w7.heap.size wr mv ml) /\ Bx (nds ml = ((S.take k).filter fun q => !haveK (nds l) D ps q (nds l).length).map (newN D I))) (fun _ i _ => SN - (intOf i).toNat)
    case atStart => exact ⟨0, [], by omega, rfl, by simp, ⟨GT.nil _ _ (zR _)⟩, ⟨by simp [nds]⟩⟩
    case round =>
     obtain ⟨k, ml, hk, rfl, hml2, hG, hF⟩ := hrel;obtain ⟨av, cv, rfl, -⟩ := hG.out.form;by_cases hlt : k < SN
     ·have hkl : k < S.length := by rw [<- HSN.out]; exact hlt
      obtain ⟨bx, ox, rfl, -, cx⟩ := HSC.out wr hG.out.bel k hkl;have hpl := HSX.out S[k] (zM hkl)
      have HTK := Bx.mk (show ((S.take (k + 1)).filter fun q => !haveK (nds l) D ps q (nds l).length) = ((S.take k).filter fun q => !haveK (nds l) D ps q (nds l).length) ++ if !haveK (nds l) D ps S[k] (nds l).length then [S[k]] else [] by
       rw [zA hkl, List.filter_append]
       exact congrArg _ (filt1 (fun q => haveK (nds l) D ps q (nds l).length) S[k]))
      obtain ⟨p, hpp⟩ : ∃ p, p = S[k] := ⟨_, rfl⟩
      rw [<- hpp] at cx hpl HTK;obtain ⟨qf, f, hqf, hff⟩ := HHV7.out;have hlf := ((hqf.below hG.out.bel).lookS u_mapSB Value.bool false (Tryz.zeroValue4 _) rdB_mk rdB_inv (k := p) (by unfold maxLen; omega)).1;rw [hff] at hlf;obtain ⟨fd, hfd⟩ : ∃ b, b = haveK (nds l) D ps p (nds l).length := ⟨_, rfl⟩
      rw [<- hfd] at hlf HTK;have hlf' : (Instr.lookup 98 (.map (some (mb + 1))) (.string (bstr p)) false).run Tryz.prog wr = .ok (.bool fd) wr := hlf;have hdw := cell_of_row _ _ 0 _ _ _ ((hG.out.bel.block qd (lt_of_some HQ7.out)).trans HQ7.out);simp only [List.getElem?_toArray, List.getElem?_cons_zero] at hdw
      have HPM := Bx.mk hpl;clear hpp hkl hqf hlf hpl hfd hff
      cases fd with
      | true =>
       have HF2 := Bx.mk (show nds ml = ((S.take (k + 1)).filter fun q => !haveK (nds l) D ps q (nds l).length).map (newN D I) by rw [HTK.out, hF.out]; simp);go_wp2_with fail
       go_roundw
       case rel => exact ⟨k + 1, ml, by omega, by go_num, by omega, hG, HF2⟩
       case measure => simp [intOf]; omega
      | false =>
       obtain ⟨y, hy, hyn, hys⟩ := new_node wr D I p HPM.out;have hb2 : Below wr.heap.size wr ((wr.alloc (.cells #[.string (bstr p)] 9)).alloc (.cells #[.int .i64 D, .int .i64 I, .string (bstr p), .slice (some ⟨wr.heap.size, 0, none⟩) 1 1] 111)) := ((Below.refl _ _).alloc (zR _) _).alloc (by simp) _;have HGB := Bx.mk (hG.out.below hb2)
       have HYN := Bx.mk (hyn.mono (S' := fun k => (Value.slice av ml.length cv).ownBlock ≠ some k) fun k _ hk e => by
        have := (hG.out.to.own.lt k e).2;have hk' : k = wr.heap.size := hk
        omega)
       have HYE := Bx.mk (show y.n = newN D I p by rw [hy]);have HYS := Bx.mk hys;have hm1 : ml.length + 1 <= maxLen := (by unfold maxLen; omega);have hmb2 : (ml.length + 1) * 56 <= 140737488355328 := (by omega);have hbz := HGB.out.sz;clear hy hyn hys hb2;generalize hps : bstr p = PS at *;clear hps;go_wp2_with (at_builtin; refine wpList_append_any rfl _ _ _ rfl w7.heap.size 111 i0 _ 4 56 und_nodes hi0 hz0 hz1 hz2 rfl (by decide) _ ml.length (ml.flatMap encN) rfl HGB.out.to.own _ 1 ([y].flatMap encN) rfl HYS.out hm1 hmb2 hbz ?_)
       intro v9 w9 hapd;have HG9 := Bx.mk (HGB.out.apd (m := [y]) (fun z hz => by rw [zS] at hz; subst hz; exact HYN.out) rfl rfl rfl rfl hapd);have HF9 := Bx.mk (show nds (ml ++ [y]) = ((S.take (k + 1)).filter fun q => !haveK (nds l) D ps q (nds l).length).map (newN D I) by rw [HTK.out, List.map_append, <- hF.out]; simp [nds, HYE.out]);clear hapd hm1 hmb2 hbz;go_wp2_with fail
       go_roundw
       case rel => exact ⟨k + 1, ml ++ [y], by omega, by go_num, by simp; omega, HG9, HF9⟩
       case measure => simp [intOf]; omega
     ·obtain rfl : SN = k := by omega
      have HFF := Bx.mk (show nds ml = resMore (nds l) (nds ol) D ps by rw [hF.out, HSN.out, List.take_length, HSS.out, HI.out]; rfl);have hgr := grown_any wr (.slice oa ol.length oc) (.slice av ml.length cv) ol ml (by rw [<- HON.out]; exact (HO7.out.below hG.out.bel).tl) hG.out.to.tl (by have := HON.out; omega) (by omega);have HBWF := Bx.mk (HB7.out.trans (hG.out.bel.mono HB7.out.size));have HQF := Bx.mk ((hG.out.bel.block qd (lt_of_some HQ7.out)).trans HQ7.out);rw [<- HON.out] at hgr;clear hF hG;go_wp2_with fail
      go_at_call 83;refine hgr.mono ?_;rintro e w8 (⟨hlen, rfl, hb8⟩ | ⟨hlen, v8, l8, rfl, ho8, hn8, hb8⟩)
      ·have HF2 := Bx.mk (show R = ([], 2) by
        have h1 := congrArg List.length HFF.out;rw [nds_len] at h1
        rw [HRX.out, nds_len, if_pos (by omega)])
       have HB8 := Bx.mk (HBWF.out.trans (hb8.mono HBWF.out.size));clear hgr hb8;go_wp2_with fail
       go_ret2;exact ⟨_, [], by rw [HF2.out]; rfl, TO.nil _ _, by rw [HF2.out]; rfl, HB8.out⟩
      ·rw [HFF.out] at hn8;have hlm : ¬ (nds ol).length + (resMore (nds l) (nds ol) D ps).length > 2048 := (by rw [<- HFF.out, nds_len, nds_len]; omega);have e3 := HVS.out;rw [<- HOL.out, <- hn8] at e3
       have hl8 : l8.length <= 5000 := by
        have h1 := congrArg List.length hn8;have h2 := fold_length (lt := ltT) (nds ol ++ resMore (nds l) (nds ol) D ps) [];rw [nds_len] at h1;unfold sortT srtL at h1;rw [h2] at h1;simp only [List.length_nil, List.length_append] at h1
        omega
       have hpr := prune_any w8 v8 l8 ho8.tl hl8 (fun i hi => e3.pge i (by rw [nds_len]; exact hi)) D;have HF2 := Bx.mk (show R = (pruneP (nds l8) D, 0) by rw [HRX.out, if_neg hlm, hn8]);have HB8 := Bx.mk (HBWF.out.trans (hb8.mono HBWF.out.size));have hd8 := cell_of_row _ _ 0 _ _ _ ((hb8.block qd (lt_of_some HQF.out)).trans HQF.out);simp only [List.getElem?_toArray, List.getElem?_cons_zero] at hd8
       obtain ⟨a8, c8, rfl, -⟩ := ho8.own.rd.form;clear hgr hb8 ho8 hn8 hlm e3;go_wp2_with fail
       go_at_call 84;refine hpr.mono ?_;rintro e w9 ⟨v9, l9, rfl, ho9, hn9, hb9⟩;obtain ⟨a9, c9, rfl, -⟩ := ho9.own.rd.form;have HO9 := Bx.mk (ho9.mono HB8.out.size);have HN9 := Bx.mk hn9;have HB9 := Bx.mk (HB8.out.trans (hb9.mono HB8.out.size));clear hpr ho9 hn9 hb9;go_wp2_with fail
       go_ret2;exact ⟨_, l9, by rw [HF2.out]; rfl, HO9.out, by rw [HF2.out, HN9.out], HB9.out⟩
   ·have tq : decide (LP >= 0) = false := zF tl;have hnany : ¬ ((nds l).any fun n => spec n && decide (n.d = D) && decide (D > 0)) = true := fun h => tl (HANY.out.2 h)
    have e3 := HRS.out.1;rw [<- HOL.out] at e3;have hpr := prune_any w5 (.slice oa ON oc) ol HO5.out.tl (by have := HON.out; omega) (fun i hi => e3.pge i (by rw [nds_len]; exact hi)) D;have HF2 := Bx.mk (show R = (pruneP (nds ol) D, 0) by rw [HRR.out, <- HFR.out, HOL.out, if_neg hnany]; rfl);clear tl hnany e3;go_wp2_with fail
    go_at_call 84;refine hpr.mono ?_;rintro e w9 ⟨v9, l9, rfl, ho9, hn9, hb9⟩;obtain ⟨a9, c9, rfl, -⟩ := ho9.own.rd.form;have HO9 := Bx.mk (ho9.mono HB5.out.size);have HN9 := Bx.mk hn9;have HB9 := Bx.mk (HB5.out.trans (hb9.mono HB5.out.size));clear hpr ho9 hn9 hb9;go_wp2_with fail
    go_ret2;exact ⟨_, l9, by rw [HF2.out]; rfl, HO9.out, by rw [HF2.out, HN9.out], HB9.out⟩
end Go.Proofs.YtmagjdocondmhaaGreat.Tr
namespace Go.Proofs.YtmagjdocondmhaaGreat.Tr
open Go Go.RowKit Slc St Mp
attribute [local go_sem] Oper.semAt_some
end Go.Proofs.YtmagjdocondmhaaGreat.Tr
namespace Go.Proofs.YtmagjdocondmhaaGreat.Tr.Gr
open Go Go.RowKit Slc St Mp Tr Rg
attribute [local go_sem] Oper.semAt_some
def NE (B : Nat) (g : List Lv) : Prop := ∀ L ∈ g, ∀ x ∈ L.vs, x.n.par = [] \/ ∀ k, x.q.val.ownBlock = some k -> B <= k
theorem NI.ne {B B' : Nat} {g : List Lv} (h : NI B g) (hB : B' <= B) : NE B' g := fun L hL x hx => .inr fun k hk => Nat.le_trans hB (h L hL x hx k hk)
theorem GO.deckE {W0 : World} {v : Value} {zs : List Int} {w w' : World} {g Bk : Nat} {tv : Value} {l : List Lv} (h : GO w Bk tv l) (hq : NE Bk l) (hd : Deck W0 v zs w g) (hg : w.grownBy w' (some g)) (hgB : g < Bk) : GO w' Bk tv l :=
 ⟨own_grown h.own hg hgB, fun L hL => own_grown (h.lv L hL) hg hgB, h.ap, h.ao, fun L hL x hx => by
  obtain ⟨h1, h2, h3⟩ := h.nm L hL x hx;refine ⟨⟨rd_deck h1.1 hd hg, h1.2⟩, ?_, h3⟩;rcases h2 with h2 | h2
  ·exact .inl h2
  ·rcases hq L hL x hx with q | q
   ·left
    obtain ⟨a, c, e, -⟩ := h2.1.form;rw [q] at e;exact ⟨q, a, c, e⟩
   ·right
    have h4 : RdIn w (fun k => x.q.val.ownBlock = some k) encI x.q.val x.n.par := ⟨h2.1, fun k hk => hk⟩;have h5 := h4.keep hg.size fun k hk hlt => hg.block k hlt (by simp only [ne_eq, zO]; intro e; have := q k hk; omega)
    exact ⟨h5.1, h2.2⟩⟩
theorem root_ne {l : List Lv} (h : gxs l = rootG) (B : Nat) : NE B l := fun L hL x hx => by
 left
 have h1 : vxs L.vs ∈ gxs l := List.mem_map.2 ⟨L, hL, rfl⟩;rw [h] at h1;unfold rootG at h1;rw [zS] at h1;have h2 : x.n ∈ vxs L.vs := List.mem_map.2 ⟨x, hx, rfl⟩;rw [h1, zS] at h2;rw [h2]
structure TLG (w : World) (v : Value) (zs : List Int) (g : Nat) (wr : World) (tv : Value) (l : List Nt) (gv : Value) (G : List Lv) : Prop where
 tr : TO wr (g + 1) tv l
 gr : GO wr (g + 1) gv G
 ne : NE (g + 1) G
 dk : Deck w v zs wr g
 bel : Below w.heap.size w wr
section
variable {w : World} {v : Value} {zs : List Int} {g : Nat} {wr w' : World} {tv tv' gv gv' : Value} {l l' : List Nt} {G G' : List Lv}
theorem TLG.grow (h : TLG w v zs g wr tv l gv G) (hg : wr.grownBy w' (some g)) (hd : Deck w v zs w' g) : TLG w v zs g w' tv l gv G :=
 ⟨h.tr.deck h.dk hg (Nat.lt_succ_self g), h.gr.deckE h.ne h.dk hg (Nat.lt_succ_self g), h.ne, hd, h.bel.grown hg h.bel.size fun k hk => by simp only [zO] at hk; have := h.dk.ge; omega⟩
theorem TLG.below (h : TLG w v zs g wr tv l gv G) (hb : Below wr.heap.size wr w') : TLG w v zs g w' tv l gv G := ⟨h.tr.below hb, h.gr.below hb, h.ne, h.dk.below hb, h.bel.trans (hb.mono h.bel.size)⟩
theorem TLG.tree (h : TLG w v zs g wr tv l gv G) (ht : TO w' wr.heap.size tv' l') (hb : Below wr.heap.size wr w') : TLG w v zs g w' tv' l' gv G :=
 ⟨ht.mono h.dk.lt, h.gr.below hb, h.ne, h.dk.below hb, h.bel.trans (hb.mono h.bel.size)⟩
theorem TLG.graph (h : TLG w v zs g wr tv l gv G) (ht : GO w' wr.heap.size gv' G') (hn : NI wr.heap.size G') (hb : Below wr.heap.size wr w') : TLG w v zs g w' tv l gv' G' :=
 ⟨h.tr.below hb, ht.mono h.dk.lt, hn.ne h.dk.lt, h.dk.below hb, h.bel.trans (hb.mono h.bel.size)⟩
end
structure TLR (w : World) (g : Nat) (wr : World) (tv : Value) (l : List Nt) (gv : Value) (G : List Lv) : Prop where
 tr : TO wr (g + 1) tv l
 gr : GO wr (g + 1) gv G
 bel : Below w.heap.size w wr
theorem TLR.below {w : World} {g : Nat} {wr w' : World} {tv gv : Value} {l : List Nt} {G : List Lv} (h : TLR w g wr tv l gv G) (hb : Below wr.heap.size wr w') : TLR w g w' tv l gv G := ⟨h.tr.below hb, h.gr.below hb, h.bel.trans (hb.mono h.bel.size)⟩
theorem TLG.last {w : World} {v : Value} {zs : List Int} {g : Nat} {wr w' : World} {tv gv gv' : Value} {l : List Nt} {G G' : List Lv} (h : TLG w v zs g wr tv l gv G) (ht : GO w' wr.heap.size gv' G') (hb : Below wr.heap.size wr w') : TLR w g w' tv l gv' G' :=
 ⟨h.tr.below hb, ht.mono h.dk.lt, h.bel.trans (hb.mono h.bel.size)⟩
theorem EnP.un {w w' : World} {R : List Nd × Int} {e : Ending} (h : EnP w R e w') : ∃ v' l' E, e = .returned (.tuple #[v', .int .i64 E]) /\ TO w' w.heap.size v' l' /\ nds l' = R.1 /\ E = R.2 /\ Below w.heap.size w w' := by
 obtain ⟨v', l', he, ho, hn, hb⟩ := h;exact ⟨v', l', _, he, ho, hn, rfl, hb⟩
theorem GrI.un {w w' : World} {R : List (List Vx) × Int} {e : Ending} (h : GrI w R e w') : ∃ v' l' E, e = .returned (.tuple #[v', .int .i64 E]) /\ GO w' w.heap.size v' l' /\ NI w.heap.size l' /\ gxs l' = R.1 /\ E = R.2 /\ Below w.heap.size w w' := by
 obtain ⟨v', l', he, ho, hn, hb, hi⟩ := h;exact ⟨v', l', _, he, ho, hi, hn, rfl, hb⟩
theorem GrP.un {w w' : World} {R : List (List Vx) × Int} {e : Ending} (h : GrP w R e w') : ∃ v' l' E, e = .returned (.tuple #[v', .int .i64 E]) /\ GO w' w.heap.size v' l' /\ gxs l' = R.1 /\ E = R.2 /\ Below w.heap.size w w' := by
 obtain ⟨v', l', he, ho, hn, hb⟩ := h;exact ⟨v', l', _, he, ho, hn, rfl, hb⟩
theorem LI.enter2 {t : List Nd} {G : List (List Vx)} {k c : Nat} {K : Int} {l' : List Nt} {G' : List Lv} {E F : Int} {cb : Bool} {ps : List B} (h : LI t G k c) (hp : ps.length <= 4) (hK : K = (k : Int) + 1) (hE : E = (enterP t K ps cb).2) (h1 : nds l' = (enterP t K ps cb).1) (hF : F = (genterP G ps cb).2) (h2 : gxs G' = (genterP G ps cb).1) :
  F = 0 /\ (E = 2 \/ (E = 0 /\ LI (nds l') (gxs G') (k + 1) (c + 4) /\ One (gxs G'))) := by
 obtain rfl : K = ((k + 1 : Nat) : Int) := by omega
 rw [hE, h1, hF, h2];exact h.enter ps hp cb
theorem LI.map2 {t : List Nd} {G : List (List Vx)} {k c : Nat} {K : Int} {l' : List Nt} {G' : List Lv} {E F : Int} {cb : Bool} {ms : List (B × B)} (h : LI t G (k + 1) c) (ho : One G) (hp : ms.length <= 5) (hK : K = (k : Int) + 1) (hE : E = (mapP t K ms cb).2) (h1 : nds l' = (mapP t K ms cb).1) (hF : F = (gmapP G ms cb).2) (h2 : gxs G' = (gmapP G ms cb).1) :
  F = 0 /\ (E = 2 \/ (E = 0 /\ LI (nds l') (gxs G') (k + 1) (c + 25))) := by
 obtain rfl : K = ((k + 1 : Nat) : Int) := by omega
 rw [hE, h1, hF, h2];exact h.map ho ms hp cb
structure LR (t : List Nd) (G : List (List Vx)) (k : Nat) : Prop where
 V : VT t ((k + 1 : Nat) : Int)
 val : gvalidB G = true
 lk : LK t G (k + 1)
 len : G.length <= 40 /\ ∀ l ∈ G, l.length <= 2300
theorem LI.res2 {t : List Nd} {G : List (List Vx)} {k c : Nat} {K : Int} {l' : List Nt} {G' : List Lv} {E F : Int} {ps : List B} (h : LI t G (k + 1) c) (hk : k <= 10) (hc : c <= 1000) (hp : ps.length <= 10) (hK : K = (k : Int) + 1) (hE : E = (resP t K ps).2) (h1 : nds l' = (resP t K ps).1) (hF : F = (gresP G ps).2) (h2 : gxs G' = (gresP G ps).1) :
  F = 0 /\ (E = 2 \/ (E = 0 /\ LR (nds l') (gxs G') k)) := by
 obtain rfl : K = ((k + 1 : Nat) : Int) := by omega
 rw [hE, h1, hF, h2];obtain ⟨a, b⟩ := lk_res h.V h.lk h.val ps fun l hl => by have := (h.sb.lev l hl).1; omega
 refine ⟨a, b.imp id fun ⟨b1, b2, b3, b4⟩ => ⟨b1, b3, b4, b2, ?_⟩⟩;have hlb : LB G (k + 2) c := ⟨by have := h.sb.len; omega, fun l hl => (h.sb.lev l hl).1⟩;have := hlb.restr ps hp;exact ⟨by have := this.len; omega, fun l hl => by have := this.lev l hl; omega⟩
theorem LR.lens {t : List Nd} {l : List Lv} {k : Nat} (h : LR t (gxs l) k) : l.length <= 40 /\ ∀ L ∈ l, L.vs.length <= 2300 := by
 refine ⟨by have := h.len.1; rwa [gxs_len] at this, fun L hL => ?_⟩;have h1 := h.len.2 (vxs L.vs) (List.mem_map.2 ⟨L, hL, rfl⟩);rwa [vxs_len] at h1
theorem law_like (v : Value) (zs : List Int) (w : World) (hI : Ints w .i64 v zs) :
  Calls Tryz.prog 9 #[v] w fun e w' => e = .returned (.bool true) /\ Below w.heap.size w w' := by
 have haw := gawake_any;have hnew := new_any w v zs w hI (Below.refl _ _);go_enter Tryz.func9, Tryz.ntmps9;go_wp2_with fail
 refine hnew.mono ?_;rintro e w1 ⟨rfl, hb1, hD1⟩;clear hnew;obtain ⟨g, hg⟩ : ∃ g, g = w.heap.size := ⟨_, rfl⟩
 rw [<- hg] at hD1 |-;clear hg;have HD1 := Bx.mk hD1;have HB1 := Bx.mk hb1;have hroot := proot_any w1;clear hb1 hD1;go_wp2_with fail
 go_at_call 36;refine hroot.mono ?_;rintro e w2 ⟨tv, l, rfl, ho, hn, hb⟩;clear hroot;have HO2 := Bx.mk (ho.mono HD1.out.lt);have HD2 := Bx.mk (HD1.out.below hb);have HB2 := Bx.mk (HB1.out.trans (hb.mono HB1.out.size));have HN2 := Bx.mk hn;have hroot := groot_any w2;clear ho hn hb HD1 HB1;go_wp2_with fail
 go_at_call 20;refine hroot.mono ?_;rintro e w3 ⟨gv, G, rfl, ho, hn, hb⟩;clear hroot;have HT3 := Bx.mk (show TLG w v zs g w3 tv l gv G from ⟨HO2.out.below hb, ho.mono HD2.out.lt, root_ne hn _, HD2.out.below hb, HB2.out.trans (hb.mono HB2.out.size)⟩);have HI3 := Bx.mk (show LI (nds l) (gxs G) 0 1 by rw [HN2.out, hn]; exact LI.root);have hnx := next_any w v zs w3 g 6 HT3.out.dk (by omega) (by omega);obtain ⟨xa, xc, hxv, -⟩ := HT3.out.tr.own.rd.form;obtain ⟨ya, yc, hyv, -⟩ := HT3.out.gr.own.rd.form;subst hxv;subst hyv;clear ho hn hb HO2 HD2 HB2 HN2;go_wp2_with fail
 refine hnx.mono ?_;rintro e w4 ⟨r, rfl, hr0, hr1, hD4, hg4⟩;clear hnx;have HT4 := Bx.mk (HT3.out.grow hg4 hD4);clear hD4 hg4 HT3;obtain ⟨n, rfl⟩ : ∃ n : Nat, r = (n : Int) := ⟨r.toNat, by omega⟩
 have hn5 : n < 6 := by omega
 clear hr0 hr1;obtain ⟨LX, hLX⟩ : ∃ n, n = l.length := ⟨_, rfl⟩
 obtain ⟨LY, hLY⟩ : ∃ n, n = G.length := ⟨_, rfl⟩
 rw [<- hLX, <- hLY] at HT4 |-;clear hLX hLY;go_wp2_with fail
 go_loopw [4, 5, 7] (fun tv gv iv wr => ∃ (l : List Nt) (G : List Lv) (k : Nat), k <= n + 1 /\ iv = .int .i64 ((k : Int) + 1) /\ Bx (TLG w v zs g wr tv l gv G) /\ Bx (LI (nds l) (gxs G) k (29 * k + 1))) (fun _ _ iv _ => 8 - (intOf iv).toNat)
 case atStart => exact ⟨l, G, 0, by omega, rfl, HT4, HI3⟩
 case round =>
  clear HT4 HI3;obtain ⟨l, G, k, hk, rfl, hT, hI⟩ := hrel;obtain ⟨ta, tc, htv, -⟩ := hT.out.tr.own.rd.form;obtain ⟨ga, gc, hgv, -⟩ := hT.out.gr.own.rd.form;obtain ⟨LT, hLT⟩ : ∃ n, n = l.length := ⟨_, rfl⟩
  obtain ⟨LG, hLG⟩ : ∃ n, n = G.length := ⟨_, rfl⟩
  rw [<- hLT] at htv;rw [<- hLG] at hgv;subst htv;subst hgv;have HLT := Bx.mk (show LT <= 2048 by have := hI.out.tlen; rw [nds_len] at this; omega);have HLG := Bx.mk hLG;have HLT2 := Bx.mk hLT;clear hLT hLG;by_cases hlt : (k : Int) + 1 <= 1 + (n : Int)
  ·have HKN := Bx.mk (show k <= 5 by omega);have hpo := policies_any w v zs wr g 4 hT.out.dk (by omega);go_wp2_with fail
   go_at_call 22;refine hpo.mono ?_;rintro e w5 ⟨pv, ps, rfl, hM, hpl, hpx⟩;clear hpo;have HT5 := Bx.mk (hT.out.grow hM.gr hM.dk);have hnx := next_any w v zs w5 g 3 hM.dk (by omega) (by omega);have HGL := Bx.mk (show g < wr.heap.size from hT.out.dk.lt);have HM5 := Bx.mk hM.own;have HPX := Bx.mk (show ∀ p ∈ ps, p.length <= 1000000 from fun p hp => by have := hpx p hp; omega);have HPL := Bx.mk hpl;obtain ⟨pa, pc, hpv, -⟩ := hM.own.rd.form;subst hpv;clear hM hpx hpl hT;go_wp2_with fail
   refine hnx.mono ?_;rintro e w6 ⟨r6, rfl, a6, b6, hD6, hg6⟩;clear hnx;have HT6 := Bx.mk (HT5.out.grow hg6 hD6);have HM6 := Bx.mk (own_grown HM5.out hg6 HGL.out);have hpo := mappings_any w v zs w6 g 4 hD6 (by omega);clear hD6 hg6 HT5 HM5 a6 b6;go_wp2_with fail
   go_at_call 25;refine hpo.mono ?_;rintro e w7 ⟨mv, ms, rfl, hM, hml, hmx⟩;clear hpo;have HT7 := Bx.mk (HT6.out.grow hM.gr hM.dk);have HM7 := Bx.mk (own_grown HM6.out hM.gr HGL.out);have HGL6 := Bx.mk (show g < w6.heap.size from HT6.out.dk.lt);have HN7 := Bx.mk hM.own;have HMX := Bx.mk (show ∀ m ∈ ms, m.1.length <= 1000000 /\ m.2.length <= 1000000 from fun m hm => by have := hmx m hm; omega);have HML := Bx.mk hml;have hnx := next_any w v zs w7 g 6 hM.dk (by omega) (by omega);obtain ⟨ma, mc, hmv, -⟩ := hM.own.rd.form;subst hmv;clear hM hmx hml HT6 HM6;go_wp2_with fail
   refine hnx.mono ?_;rintro e w8 ⟨r8, rfl, a8, b8, hD8, hg8⟩;clear hnx;have HT8 := Bx.mk (HT7.out.grow hg8 hD8);have HP8 := Bx.mk (own_grown HM7.out hg8 HGL.out).rd;have HM8 := Bx.mk (own_grown HN7.out hg8 HGL6.out).rd;obtain ⟨PN, hPN⟩ : ∃ n, n = ps.length := ⟨_, rfl⟩
   obtain ⟨MN, hMN⟩ : ∃ n, n = ms.length := ⟨_, rfl⟩
   rw [<- hPN] at HP8 |-;rw [<- hMN] at HM8 |-;have HPN := Bx.mk hPN;have HMN := Bx.mk hMN;clear hD8 hg8 HT7 HM7 HN7 HGL HGL6 a8 b8 hPN hMN;have hent := fun cb => enter_any w8 (.slice ta LT tc) (.slice pa PN pc) l ps HT8.out.tr.tl HP8.out (by have := HLT.out; have := HLT2.out; omega) (by have := HPL.out; omega) HPX.out ((k : Int) + 1) (by unfold I64; have := HKN.out; omega) cb
   go_wp2_with fail
   go_at_call 37;refine (hent _).mono ?_;intro e w9 hE;obtain ⟨xv, l9, E9, rfl, ho9, hn9, hE9, hb9⟩ := EnP.un hE;have HT9 := Bx.mk (HT8.out.tree ho9 hb9);have HP9 := Bx.mk (HP8.out.below hb9);have HM9 := Bx.mk (HM8.out.below hb9);have HN9 := Bx.mk hn9;have HE9 := Bx.mk hE9;have hent2 := fun cb => genter_nj w9 (.slice ga LG gc) (.slice pa PN pc) G ps HT9.out.gr.gl.q HP9.out (by have := hI.out.lens.1; have := HKN.out; omega) (fun L hL => by have := (hI.out.lens.2 L hL).1; have := HKN.out; omega) (fun L hL => by have := (hI.out.lens.2 L hL).2; have := HPL.out; have := HKN.out; omega) (by have := HPL.out; omega) HPX.out cb
   obtain ⟨xa, xc, hxv, -⟩ := ho9.own.rd.form;obtain ⟨LX, hLX⟩ : ∃ n, n = l9.length := ⟨_, rfl⟩
   rw [<- hLX] at hxv;subst hxv;have HLX := Bx.mk hLX;clear hent hE ho9 hn9 hE9 hb9 HT8 HP8 HM8 hLX;go_wp2_with fail
   go_at_call 23;refine (hent2 _).mono ?_;intro e w10 hE;obtain ⟨yv, G10, F10, rfl, ho10, hni10, hn10, hF10, hb10⟩ := GrI.un hE;have HT10 := Bx.mk (HT9.out.graph ho10 hni10 hb10);have HM10 := Bx.mk (HM9.out.below hb10);obtain ⟨rfl, hor⟩ := LI.enter2 hI.out HPL.out rfl HE9.out HN9.out hF10 hn10;obtain ⟨ya, yc, hyv, -⟩ := ho10.own.rd.form;obtain ⟨LY, hLY⟩ : ∃ n, n = G10.length := ⟨_, rfl⟩
   rw [<- hLY] at hyv;subst hyv;have HLY := Bx.mk hLY;clear hent2 hE ho10 hni10 hn10 hF10 hb10 HT9 HP9 HM9 HN9 HE9 hI hLY HPX HPL HPN HLG HLT HLT2;rcases hor with rfl | ⟨rfl, hli, hone⟩
   ·clear HM10 HMX HML HMN HLX HLY;go_wp2_with fail
    go_at_call 11;refine (haw _).mono ?_;rintro e wz ⟨rfl, hb⟩;have HBZ := Bx.mk (HT10.out.bel.trans (hb.mono HT10.out.bel.size));clear hb;go_wp2_with fail
    go_ret;exact ⟨rfl, HBZ.out⟩
   have HLI := Bx.mk hli;have HONE := Bx.mk hone;clear hli hone;have hz : LX = 0 ↔ LY = 0 := by have := HLI.out.lk.zero; rw [nds_len, gxs_len] at this; rw [HLX.out, HLY.out]; exact this
   obtain ⟨zb, hzb⟩ : ∃ b, b = decide (LX = 0) := ⟨_, rfl⟩
   have tx : ((LX : Int) == 0) = zb := by rw [hzb, Bool.eq_iff_iff]; simp
   have ty : ((LY : Int) == 0) = zb := by rw [hzb, Bool.eq_iff_iff]; simp; omega
   have tz : (zb == zb) = true := by simp
   clear hz hzb;have hp1 := ppol_any w10 _ l9 HT10.out.tr.tl (by have := HLI.out.V.len; rw [nds_len] at this; omega) ((k : Int) + 1);have HPP := Bx.mk (show polP (nds l9) ((k : Int) + 1) = gpolP (gxs G10) by have := HLI.out.pol; rwa [show ((k + 1 : Nat) : Int) = (k : Int) + 1 by omega] at this);have HPB := Bx.mk (show (gpolP (gxs G10)).length <= 1000000 by rw [<- HPP.out]; have := polP_len (E := ((k : Int) + 1)) HLI.out.V.len; omega);rw [HPP.out] at hp1;obtain ⟨R, hR⟩ : ∃ R, R = gpolP (gxs G10) := ⟨_, rfl⟩
   rw [<- hR] at hp1 HPB;have HR := Bx.mk hR;clear hR HPP;go_wp2_with fail
   go_at_call 38;refine hp1.mono ?_;rintro e w11 ⟨s1, rfl, ho, hb⟩;have HT11 := Bx.mk (HT10.out.below hb);have HS1 := Bx.mk ho.rd;obtain ⟨s1a, s1c, hs1, -⟩ := ho.rd.form;subst hs1;have HM11 := Bx.mk (HM10.out.below hb);clear HM10;clear hp1 ho hb HT10;have hp2 := gpol2_any w11 _ G10 HT11.out.gr.gl.q (by have := HLI.out.lens.1; have := HKN.out; omega) (fun L hL => by have := (HLI.out.lens.2 L hL).1; have := HKN.out; omega);rw [<- HR.out] at hp2;go_wp2_with fail
   go_at_call 31;refine hp2.mono ?_;rintro e w12 ⟨s2, rfl, ho, hb⟩;have HT12 := Bx.mk (HT11.out.below hb);have HS2 := Bx.mk ho.rd;have HS3 := Bx.mk (HS1.out.below hb);obtain ⟨s2a, s2c, hs2, -⟩ := ho.rd.form;subst hs2;have HM12 := Bx.mk (HM11.out.below hb);clear HM11;clear hp2 ho hb HT11 HS1;have hp3 := rsame_any w12 _ _ R R HS3.out HS2.out HPB.out;rw [zT rfl] at hp3;go_wp2_with fail
   go_at_call 30;refine hp3.mono ?_;rintro e w13 ⟨rfl, hb⟩;have HT13 := Bx.mk (HT12.out.below hb);have HM13 := Bx.mk (HM12.out.below hb);clear HM12;clear hp3 hb HT12 HS2 HS3 HR HPB;clear tx ty tz;by_cases h2 : (k : Int) + 1 < 1 + (n : Int)
   ·have hmp := fun cb => pmap_any w13 (.slice xa LX xc) (.slice ma MN mc) l9 ms HT13.out.tr.tl HM13.out (by have := HLI.out.V.len; rw [nds_len] at this; omega) (by have := HML.out; omega) HMX.out ((k : Int) + 1) (by unfold I64; have := HKN.out; omega) cb
    go_wp2_with fail
    go_at_call 39;refine (hmp _).mono ?_;intro e w14 hE;obtain ⟨xv, l14, E14, rfl, ho14, hn14, hE14, hb14⟩ := EnP.un hE;have HT14 := Bx.mk (HT13.out.tree ho14 hb14);have HM14 := Bx.mk (HM13.out.below hb14);have HN14 := Bx.mk hn14;have HE14 := Bx.mk hE14;have hmp2 := fun cb => gmap_nj w14 (.slice ya LY yc) (.slice ma MN mc) G10 ms HT14.out.gr.gl.q HM14.out (by have := HLI.out.lens.1; have := HKN.out; omega) (fun L hL => by have := (HLI.out.lens.2 L hL).1; have := HKN.out; omega) (by have := HML.out; omega) HMX.out cb
    obtain ⟨xa2, xc2, hxv, -⟩ := ho14.own.rd.form;obtain ⟨LX2, hLX2⟩ : ∃ n, n = l14.length := ⟨_, rfl⟩
    rw [<- hLX2] at hxv;subst hxv;have HLX2 := Bx.mk hLX2;clear hmp hE ho14 hn14 hE14 hb14 HT13 HM13 hLX2;go_wp2_with fail
    go_at_call 26;refine (hmp2 _).mono ?_;intro e w15 hE;obtain ⟨yv, G15, F15, rfl, ho15, hni15, hn15, hF15, hb15⟩ := GrI.un hE;have HT15 := Bx.mk (HT14.out.graph ho15 hni15 hb15);obtain ⟨rfl, hor⟩ := LI.map2 HLI.out HONE.out HML.out rfl HE14.out HN14.out hF15 hn15;obtain ⟨ya2, yc2, hyv, -⟩ := ho15.own.rd.form;obtain ⟨LY2, hLY2⟩ : ∃ n, n = G15.length := ⟨_, rfl⟩
    rw [<- hLY2] at hyv;subst hyv;have HLY2 := Bx.mk hLY2;clear hmp2 hE ho15 hni15 hn15 hF15 hb15 HT14 HM14 HN14 HE14 HLI HONE hLY2 HMX HML HMN HLX HLY;rcases hor with rfl | ⟨rfl, hli⟩
    ·clear HLX2 HLY2;go_wp2_with fail
     go_at_call 11;refine (haw _).mono ?_;rintro e wz ⟨rfl, hb⟩;have HBZ := Bx.mk (HT15.out.bel.trans (hb.mono HT15.out.bel.size));clear hb;go_wp2_with fail
     go_ret;exact ⟨rfl, HBZ.out⟩
    have HLI := Bx.mk hli;have HLX := HLX2;have HLY := HLY2;clear hli HLX2 HLY2;have hz : LX2 = 0 ↔ LY2 = 0 := (by have := HLI.out.lk.zero; rw [nds_len, gxs_len] at this; rw [HLX.out, HLY.out]; exact this);obtain ⟨zb, hzb⟩ : ∃ b, b = decide (LX2 = 0) := ⟨_, rfl⟩
    have tx : ((LX2 : Int) == 0) = zb := (by rw [hzb, Bool.eq_iff_iff]; simp);have ty : ((LY2 : Int) == 0) = zb := (by rw [hzb, Bool.eq_iff_iff]; simp; omega);have tz : (zb == zb) = true := (by simp);clear hz hzb;have hp1 := ppol_any w15 _ l14 HT15.out.tr.tl (by have := HLI.out.V.len; rw [nds_len] at this; omega) ((k : Int) + 1);have HPP := Bx.mk (show polP (nds l14) ((k : Int) + 1) = gpolP (gxs G15) by have := HLI.out.pol; rwa [show ((k + 1 : Nat) : Int) = (k : Int) + 1 by omega] at this);have HPB := Bx.mk (show (gpolP (gxs G15)).length <= 1000000 by rw [<- HPP.out]; have := polP_len (E := ((k : Int) + 1)) HLI.out.V.len; omega);rw [HPP.out] at hp1;obtain ⟨R, hR⟩ : ∃ R, R = gpolP (gxs G15) := ⟨_, rfl⟩
    rw [<- hR] at hp1 HPB;have HR := Bx.mk hR;clear hR HPP;go_wp2_with fail
    go_at_call 38;refine hp1.mono ?_;rintro e w16 ⟨s1, rfl, ho, hb⟩;have HT16 := Bx.mk (HT15.out.below hb);have HS1 := Bx.mk ho.rd;obtain ⟨s1a, s1c, hs1, -⟩ := ho.rd.form;subst hs1;clear hp1 ho hb HT15;have hp2 := gpol2_any w16 _ G15 HT16.out.gr.gl.q (by have := HLI.out.lens.1; have := HKN.out; omega) (fun L hL => by have := (HLI.out.lens.2 L hL).1; have := HKN.out; omega);rw [<- HR.out] at hp2;go_wp2_with fail
    go_at_call 31;refine hp2.mono ?_;rintro e w17 ⟨s2, rfl, ho, hb⟩;have HT17 := Bx.mk (HT16.out.below hb);have HS2 := Bx.mk ho.rd;have HS3 := Bx.mk (HS1.out.below hb);obtain ⟨s2a, s2c, hs2, -⟩ := ho.rd.form;subst hs2;clear hp2 ho hb HT16 HS1;have hp3 := rsame_any w17 _ _ R R HS3.out HS2.out HPB.out;rw [zT rfl] at hp3;go_wp2_with fail
    go_at_call 30;refine hp3.mono ?_;rintro e w18 ⟨rfl, hb⟩;have HT18 := Bx.mk (HT17.out.below hb);clear hp3 hb HT17 HS2 HS3 HR HPB;have HLN := Bx.mk (show LI (nds l14) (gxs G15) (k + 1) (29 * (k + 1) + 1) from HLI.out.mono (by omega));go_wp2_with fail
    go_roundw
    case rel => exact ⟨l14, G15, k + 1, by omega, by go_num, HT18, HLN⟩
    case measure => simp [intOf]; omega
   ·have HLN := Bx.mk (show LI (nds l9) (gxs G10) (k + 1) (29 * (k + 1) + 1) from HLI.out.mono (by omega));clear HM13 HMX HML HMN HLX HLY HONE HLI;go_wp2_with fail
    go_roundw
    case rel => exact ⟨l9, G10, k + 1, by omega, by go_num, HT13, HLN⟩
    case measure => simp [intOf]; omega
  ·obtain rfl : k = n + 1 := by omega
   have HN5 := Bx.mk hn5;have hpo := policies_any w v zs wr g 3 hT.out.dk (by omega);clear hlt hk;go_wp2_with fail
   go_at_call 22;refine hpo.mono ?_;rintro e w5 ⟨pv, ps, rfl, hM, hpl, hpx⟩;clear hpo;have HT5 := Bx.mk (hT.out.grow hM.gr hM.dk);have HP5 := Bx.mk hM.own.rd;have HPX := Bx.mk (show ∀ p ∈ ps, p.length <= 1000000 from fun p hp => by have := hpx p hp; omega);have HPL := Bx.mk hpl;obtain ⟨pa, pc, hpv, -⟩ := hM.own.rd.form;obtain ⟨PN, hPN⟩ : ∃ n, n = ps.length := ⟨_, rfl⟩
   rw [<- hPN] at hpv;subst hpv;have hres := restr_any w5 (.slice ta LT tc) (.slice pa PN pc) l ps HT5.out.tr.tl HP5.out (by have := HLT.out; have := HLT2.out; omega) (by have := HPL.out; omega) HPX.out (1 + (n : Int)) (by unfold I64; have := HN5.out; omega);clear hM hpx hpl hT hPN;go_wp2_with fail
   go_at_call 40;refine hres.mono ?_;intro e w6 hE;obtain ⟨xv, l6, E6, rfl, ho6, hn6, hE6, hb6⟩ := EnP.un hE;have HT6 := Bx.mk (HT5.out.tree ho6 hb6);have HP6 := Bx.mk (HP5.out.below hb6);have HN6 := Bx.mk hn6;have HE6 := Bx.mk hE6;have hres2 := grestr2_any w6 (.slice ga LG gc) (.slice pa PN pc) G ps HT6.out.gr.gl.q HP6.out (by have := hI.out.lens.1; have := HN5.out; omega) (fun L hL => by have := (hI.out.lens.2 L hL).1; have := HN5.out; omega) (by have := HPL.out; omega) HPX.out;obtain ⟨xa, xc, hxv, -⟩ := ho6.own.rd.form;obtain ⟨LX, hLX⟩ : ∃ n, n = l6.length := ⟨_, rfl⟩
   rw [<- hLX] at hxv;subst hxv;have HLX := Bx.mk hLX;clear hres hE ho6 hn6 hE6 hb6 HT5 HP5 hLX;go_wp2_with fail
   go_at_call 28;refine hres2.mono ?_;intro e w7 hE;obtain ⟨yv, G7, F7, rfl, ho7, hn7, hF7, hb7⟩ := GrP.un hE;have HT7 := Bx.mk (HT6.out.last ho7 hb7);obtain ⟨rfl, hor⟩ := LI.res2 hI.out (by have := HN5.out; omega) (by have := HN5.out; omega) (by have := HPL.out; omega) (show 1 + (n : Int) = (n : Int) + 1 by omega) HE6.out HN6.out hF7 hn7;obtain ⟨ya, yc, hyv, -⟩ := ho7.own.rd.form;obtain ⟨LY, hLY⟩ : ∃ n, n = G7.length := ⟨_, rfl⟩
   rw [<- hLY] at hyv;subst hyv;have HLY := Bx.mk hLY;clear hres2 hE ho7 hn7 hF7 hb7 HT6 HP6 HN6 HE6 hI hLY HPX HPL HLG HLT HLT2;rcases hor with rfl | ⟨rfl, hlr⟩
   ·clear HLX HLY;go_wp2_with fail
    go_at_call 11;refine (haw _).mono ?_;rintro e wz ⟨rfl, hb⟩;have HBZ := Bx.mk (HT7.out.bel.trans (hb.mono HT7.out.bel.size));clear hb;go_wp2_with fail
    go_ret;exact ⟨rfl, HBZ.out⟩
   have HLI := Bx.mk hlr;clear hlr;have hz : LX = 0 ↔ LY = 0 := by have := HLI.out.lk.zero; rw [nds_len, gxs_len] at this; rw [HLX.out, HLY.out]; exact this
   obtain ⟨zb, hzb⟩ : ∃ b, b = decide (LX = 0) := ⟨_, rfl⟩
   have tx : ((LX : Int) == 0) = zb := by rw [hzb, Bool.eq_iff_iff]; simp
   have ty : ((LY : Int) == 0) = zb := by rw [hzb, Bool.eq_iff_iff]; simp; omega
   have tz : (zb == zb) = true := by simp
   clear hz hzb;have hp1 := ppol_any w7 _ l6 HT7.out.tr.tl (by have := HLI.out.V.len; rw [nds_len] at this; omega) (1 + (n : Int));have HPP := Bx.mk (show polP (nds l6) (1 + (n : Int)) = gpolP (gxs G7) by have := lk_pol HLI.out.V HLI.out.lk HLI.out.val; rwa [show ((n + 1 : Nat) : Int) = 1 + (n : Int) by omega] at this);have HPB := Bx.mk (show (gpolP (gxs G7)).length <= 1000000 by rw [<- HPP.out]; have := polP_len (E := (1 + (n : Int))) HLI.out.V.len; omega);rw [HPP.out] at hp1;obtain ⟨R, hR⟩ : ∃ R, R = gpolP (gxs G7) := ⟨_, rfl⟩
   rw [<- hR] at hp1 HPB;have HR := Bx.mk hR;clear hR HPP;go_wp2_with fail
   go_at_call 38;refine hp1.mono ?_;rintro e w8 ⟨s1, rfl, ho, hb⟩;have HT8 := Bx.mk (HT7.out.below hb);have HS1 := Bx.mk ho.rd;obtain ⟨s1a, s1c, hs1, -⟩ := ho.rd.form;subst hs1;clear hp1 ho hb HT7;have hp2 := gpol2_any w8 _ G7 HT8.out.gr.gl.q HLI.out.lens.1 HLI.out.lens.2;rw [<- HR.out] at hp2;go_wp2_with fail
   go_at_call 31;refine hp2.mono ?_;rintro e w9 ⟨s2, rfl, ho, hb⟩;have HT9 := Bx.mk (HT8.out.below hb);have HS2 := Bx.mk ho.rd;have HS3 := Bx.mk (HS1.out.below hb);obtain ⟨s2a, s2c, hs2, -⟩ := ho.rd.form;subst hs2;clear hp2 ho hb HT8 HS1;have hp3 := rsame_any w9 _ _ R R HS3.out HS2.out HPB.out;rw [zT rfl] at hp3;go_wp2_with fail
   go_at_call 30;refine hp3.mono ?_;rintro e w10 ⟨rfl, hb⟩;have HT10 := Bx.mk (HT9.out.below hb);clear hp3 hb HT9 HS2 HS3 HR HPB;go_wp2_with fail
   go_at_call 11;refine (haw _).mono ?_;rintro e wz ⟨rfl, hb⟩;have HBZ := Bx.mk (HT10.out.bel.trans (hb.mono HT10.out.bel.size));clear hb;go_wp2_with fail
   go_ret;exact ⟨rfl, HBZ.out⟩
end Go.Proofs.YtmagjdocondmhaaGreat.Tr.Gr
