/- packed -/
import Derived.Test.YtmagjdocondmhaaGreatPkAn14
set_option linter.unusedVariables false
set_option linter.unusedSimpArgs false
set_option maxRecDepth 100000
set_option maxHeartbeats 64000000
namespace Go.Proofs.YtmagjdocondmhaaGreat.Tr.Gr
open Go Go.RowKit Slc St Mp Tr Rg
attribute [local go_sem] Oper.semAt_some
theorem gval_no {G : List (List Vx)} {h : Nat} (h1 : h + 1 < G.length) (hb : lvlB G[h]! G[h + 1]! = false) : gvalidB G = false := by
 unfold gvalidB;rw [zF (by omega), Bool.false_or, Bool.and_eq_false_iff];right
 rw [List.all_eq_false];exact ⟨h, by rw [List.mem_range]; omega, by rw [hb]; simp⟩
theorem lvl_no {ab l : List Vx} {k : Nat} (hk : k < l.length) (hb : (gfitB l[k]! ab && ordB l k) = false) : lvlB ab l = false := by
 unfold lvlB;rw [Bool.and_eq_false_iff];left
 rw [List.all_eq_false];exact ⟨k, by rw [List.mem_range]; exact hk, by rw [hb]; simp⟩
theorem lvl_no2 {ab l : List Vx} {j : Nat} (hj : j < ab.length) (hb : fI l l.length j = false) : lvlB ab l = false := by
 unfold lvlB;rw [Bool.and_eq_false_iff];right
 rw [Bool.and_eq_false_iff];right
 rw [List.all_eq_false];refine ⟨j, by rw [List.mem_range]; exact hj, ?_⟩;unfold fI at hb;rw [List.take_length] at hb;rw [hb]; simp
theorem lvl_no3 {ab l : List Vx} (hb : l.length = 0) : lvlB ab l = false := by
 unfold lvlB;rw [zF (show ¬ l.length ≠ 0 by omega), Bool.false_and, Bool.and_false]
theorem lvl_yes {ab l : List Vx} (h1 : ∀ k, k < l.length -> (gfitB l[k]! ab && ordB l k) = true) (h2 : ∀ j, j < ab.length -> fI l l.length j = true) (h3 : ¬ l.length = 0) : lvlB ab l = true := by
 unfold lvlB;rw [Bool.and_eq_true, Bool.and_eq_true, List.all_eq_true, List.all_eq_true];refine ⟨fun k hk => h1 k (List.mem_range.1 hk), zT h3, fun j hj => ?_⟩;have := h2 j (List.mem_range.1 hj);unfold fI at this;rwa [List.take_length] at this
def tstB (v : Vx) (ab : List Vx) : Bool := if specV v then (!decide (v.par.length = 1) || (!specV (ab[(v.par[0]!).toNat]!) || !onlyB v.ex)) else decide (anyP ∈ v.ex)
theorem gfit_tst (v : Vx) (ab : List Vx) : gfitB v ab = (!badV v ab.length && !tstB v ab) := by
 unfold gfitB tstB;congr 1
 split
 ·cases decide (v.par.length = 1) <;> cases specV (ab[(v.par[0]!).toNat]!) <;> cases onlyB v.ex <;> rfl
 ·rfl
theorem tst1 {P1 P2 P3 : Bool} (h : true = (!P1 || P2)) : ((!P2 && !P3) && P1) = false := by cases P1 <;> cases P2 <;> cases P3 <;> simp_all
theorem tst2 {P1 P2 : Bool} (h : false = (!P1 || P2)) : P1 = true /\ P2 = false := by cases P1 <;> cases P2 <;> simp_all
theorem bad_in {v : Vx} {n : Nat} (h : badV v n = false) : ∀ p ∈ v.par, 0 <= p /\ p < (n : Int) := by
 rw [ris_bad, Bool.or_eq_false_iff, Bool.or_eq_false_iff] at h;have h2 : risB v.par n = true := by simpa using h.2.2
 unfold risB at h2;rw [Bool.and_eq_true, List.all_eq_true] at h2;intro p hp;simpa using h2.2 p hp
theorem one_in {l : List B} {a : B} (h : l.length = 1) : decide (a ∈ l) = decide (l = [a]) := by
 obtain ⟨x, rfl⟩ := List.length_eq_one_iff.1 h;by_cases e : a = x
 ·subst e; simp
 ·rw [zF (by simpa using e), zF (by intro q; simp at q; exact e q.symm)]
theorem GQ.at1' {w : World} {b o n c : Nat} {g : List Lv} (h : GQ w (.slice (some ⟨b, o, none⟩) n c) g) (W : World) (hW : Below w.heap.size w W) (k : Nat) (hk : k < g.length) : W.cell? ⟨b, o + k, none⟩ = some (g[k]).s.val := by
 obtain ⟨b', o', e, -, h⟩ := h.at1 W hW k hk;simp only [zO, Addr.mk.injEq, and_true] at e
 obtain ⟨rfl, rfl⟩ := e;exact h
theorem VQ.at3' {w : World} {b o n c : Nat} {l : List Vt} (h : VQ w (.slice (some ⟨b, o, none⟩) n c) l) (W : World) (hW : Below w.heap.size w W) (k : Nat) (hk : k < l.length) : W.cell? ⟨b, o + k * 3, none⟩ = some (.string (bstr (l[k]).n.pol)) /\ W.cell? ⟨b, o + k * 3 + 1, none⟩ = some (l[k]).u.val /\ W.cell? ⟨b, o + k * 3 + 2, none⟩ = some (l[k]).q.val := by
 obtain ⟨b', o', e, -, h⟩ := h.at3 W hW k hk;simp only [zO, Addr.mk.injEq, and_true] at e
 obtain ⟨rfl, rfl⟩ := e;exact h
theorem Ri.at' {w : World} {b o n c : Nat} {l : List Int} (h : Ri w (.slice (some ⟨b, o, none⟩) n c) l) (W : World) (hW : Below w.heap.size w W) (k : Nat) (hk : k < l.length) : W.cell? ⟨b, o + k, none⟩ = some (.int .i64 l[k]) := by
 obtain ⟨b', o', e, -, h⟩ := h.cells W hW k hk;simp only [zO, Addr.mk.injEq, and_true] at e
 obtain ⟨rfl, rfl⟩ := e;exact h
theorem rgvalid_q (w : World) (v : Value) (g : List Lv) (h : GQ w v g) (hn : g.length <= 100000) (hln : ∀ L ∈ g, L.vs.length <= 100000) :
  Calls Tryz.prog 16 #[v] w fun e w' => e = .returned (.bool (gvalidB (gxs g))) /\ Below w.heap.size w w' := by
 obtain ⟨R, hR⟩ : ∃ R, R = gvalidB (gxs g) := ⟨_, rfl⟩
 rw [<- hR];obtain ⟨ib, hib, hib0, hib1, hib2⟩ := info_parts info_boo;obtain ⟨ad, c, rfl, -⟩ := h.rd.form;have HG := Bx.mk h;have HLN := Bx.mk hln;have HGX := Bx.mk (fun k hk => gxs_at g k hk);have HR := Bx.mk hR;obtain ⟨N, hN⟩ : ∃ N, N = g.length := ⟨_, rfl⟩
 have HN := Bx.mk hN;rw [<- hN] at hn HG |-;clear h hln hR hN;by_cases hz : N = 0
 ·have HF := Bx.mk (show R = true by rw [HR.out]; unfold gvalidB; rw [gxs_len, <- HN.out, zT hz]; rfl);subst hz;go_enter Tryz.func16, Tryz.ntmps16;go_wp2_with fail
  go_ret;exact ⟨by rw [HF.out]; rfl, Below.refl _ _⟩
 have hNp : 0 < N := by omega
 have t0 : ((N : Int) == 0) = false := by simp; omega
 have hg0 : 0 < g.length := by rw [<- HN.out]; exact hNp
 obtain ⟨b, o, rfl, hbl, t00⟩ := HG.out.at1 w (Below.refl _ _) 0 hg0;have HL0 := Bx.mk (HG.out.lv g[0] (zM hg0));have HX0 := Bx.mk (HGX.out 0 hg0);obtain ⟨L0, hL0⟩ : ∃ L, L = g[0] := ⟨_, rfl⟩
 rw [<- hL0] at t00 HL0 HX0;obtain ⟨a0, c0, hs0, -⟩ := HL0.out.rd.form;rw [hs0] at t00 HL0;obtain ⟨M0, hM0⟩ : ∃ M, M = L0.vs.length := ⟨_, rfl⟩
 have HM0 := Bx.mk hM0;rw [<- hM0] at t00 HL0;simp only [Nat.add_zero] at t00
 have HNT := Bx.mk (show topB (gxs g)[0]! = false -> R = false from fun h => by
  rw [HR.out]; unfold gvalidB
  rw [gxs_len, <- HN.out, zF hz, h]; rfl)
 have HYT := Bx.mk (show topB (gxs g)[0]! = true -> (∀ h, h + 1 < N -> lvlB (gxs g)[h]! (gxs g)[h + 1]! = true) -> R = true from fun h h2 => by
  rw [HR.out]; unfold gvalidB
  rw [gxs_len, <- HN.out, zF hz, h, Bool.false_or, Bool.true_and, List.all_eq_true];intro k hk;have := List.mem_range.1 hk
  exact h2 k (by omega))
 obtain ⟨T, hT⟩ : ∃ T, T = topB (gxs g)[0]! := ⟨_, rfl⟩
 rw [<- hT] at HNT HYT;rw [HX0.out] at hT;have HT := Bx.mk hT;clear hL0 hg0 hs0 hM0 hbl hz hT HX0;have hNi : (0 : Int) < (N : Int) := by omega
 go_enter Tryz.func16, Tryz.ntmps16;go_upto_region 4 with fail
 go_cut [44] (fun cc wx => cc = .bool (!T) /\ Below w.heap.size w wx)
 case first =>
  as_aux_lemma =>
   by_cases hone : M0 = 1
   rotate_left
   ·have HF := Bx.mk (show T = false by rw [HT.out]; unfold topB; rw [vxs_len, <- HM0.out, zF hone]; rfl);refine reg4_a (by simp; omega) (by simp; omega) ?_;intro W' hb
    intros
    go_wp2_with fail
    go_meet;exact ⟨by rw [HF.out]; rfl, hb⟩
   subst hone;have h01 : 0 < L0.vs.length := by rw [<- HM0.out]; omega
   obtain ⟨b0, o0, rfl, hbl0, x0, x1, x2⟩ := HL0.out.at3 w (Below.refl _ _) 0 h01;have HA0 := Bx.mk (HL0.out.at_ L0.vs[0] (zM h01));have HE0 := Bx.mk (vxs_at L0.vs 0 h01);obtain ⟨y, hy⟩ : ∃ y, y = L0.vs[0] := ⟨_, rfl⟩
   rw [<- hy] at x0 x1 x2 HA0 HE0
   have HTOP := Bx.mk (show T = (specV y.n && (onlyB y.n.ex && decide (y.n.par.length = 0))) by
    rw [HT.out]; unfold topB; rw [vxs_len, <- HM0.out, zT rfl, Bool.true_and, HE0.out])
   obtain ⟨pa, pc, hpq, -⟩ := RqIn.form HA0.out.2.1;obtain ⟨ua, uc, hup, -⟩ := HA0.out.1.form;rw [hup] at x1;rw [hpq] at x2;simp only [Nat.zero_mul, Nat.add_zero] at x0 x1 x2
   have l3 := same_any y.n.pol;by_cases q2 : y.n.pol = anyP
   rotate_left
   ·rw [zF q2] at l3;have HF := Bx.mk (show T = false by rw [HTOP.out]; unfold specV; rw [zF q2]; rfl);have n0 := fun (e : Ext w) => (e.bel.cell (p := ⟨b0, o0, none⟩) hbl0).trans x0
    refine reg4_b n0 l3 ?_;intro W' hb
    intros
    go_wp2_with fail
    go_meet;exact ⟨by rw [HF.out]; rfl, hb⟩
   rw [zT q2] at l3;have hsm := fun W (hW : Below w.heap.size w W) u (hu : Rd W encS u [anyP]) => rsame_q W y.u.val u y.n.ex [anyP] (HA0.out.1.below hW) (.inr hu) (by have := HA0.out.2.2.1.1; omega)
   rw [hup] at hsm;by_cases q3 : y.n.ex = [anyP]
   ·have HF := Bx.mk (show decide ((y.n.par.length : Int) > 0) = !T by
     rw [HTOP.out]; unfold specV onlyB; rw [zT q2, zT q3]
     by_cases e : y.n.par.length = 0
     ·rw [e]; rfl
     ·rw [zF e, zT (by omega)]; rfl)
    simp only [zT q3] at hsm
    refine reg4_d x0 x1 x2 hbl0 l3 hsm ?_;intro W' hb
    intros
    go_wp2_with fail
    go_meet;exact ⟨by rw [HF.out], hb⟩
   ·have HF := Bx.mk (show T = false by rw [HTOP.out]; unfold onlyB; rw [zF q3]; simp);simp only [zF q3] at hsm
    refine reg4_c x0 x1 hbl0 l3 hsm ?_;intro W' hb
    intros
    go_wp2_with fail
    go_meet;exact ⟨by rw [HF.out]; rfl, hb⟩
 case rest =>
 obtain ⟨rfl, hb4⟩ := hcut;have HB4 := Bx.mk hb4;clear hb4 t00
 cases T with
 | false =>
  have HF := Bx.mk (HNT.out rfl);clear HNT HYT;go_wp2_with fail
  go_ret
  exact ⟨by rw [HF.out]; rfl, HB4.out⟩
 | true =>
 have HYT2 := Bx.mk (HYT.out rfl);clear HNT HYT HT;go_wp2_with fail
 go_loopw [4] (fun iv wr => ∃ i : Nat, 1 <= i /\ i <= N /\ iv = .int .i64 (i : Nat) /\ Bx (∀ h, h + 1 < i -> lvlB (gxs g)[h]! (gxs g)[h + 1]! = true) /\ Bx (Below w.heap.size w wr)) (fun iv _ => N - (intOf iv).toNat)
 case atStart => exact ⟨1, by omega, by omega, rfl, ⟨fun h hh => by omega⟩, HB4⟩
 case round =>
  clear HB4;obtain ⟨i, hi1, hi2, rfl, hV, hB⟩ := hrel;by_cases hlt : i < N
  ·obtain ⟨h, hih⟩ : ∃ h, i = h + 1 := ⟨i - 1, by omega⟩
   have HIH := Bx.mk hih;have hk0 : h < g.length := by rw [<- HN.out]; omega
   have hk1 : i < g.length := by rw [<- HN.out]; exact hlt
   have l0 := HG.out.at1' wr hB.out h hk0;have l1 := HG.out.at1' wr hB.out i hk1;have HVA := Bx.mk (HG.out.lv _ (zM hk0));have HVL := Bx.mk (HG.out.lv _ (zM hk1));have hla := HLN.out _ (zM hk0);have hll := HLN.out _ (zM hk1);have HXA := Bx.mk (HGX.out h hk0);have HXL := Bx.mk (HGX.out i hk1);have HNO := Bx.mk (show lvlB (gxs g)[h]! (gxs g)[i]! = false -> R = false from fun e => by rw [HR.out]; rw [hih] at e; exact gval_no (by rw [gxs_len, <- hih]; exact hk1) e);obtain ⟨A, hA⟩ : ∃ L, L = g[h]'hk0 := ⟨_, rfl⟩
   obtain ⟨L, hL⟩ : ∃ L, L = g[i]'hk1 := ⟨_, rfl⟩
   rw [<- hA] at l0 HVA hla HXA;rw [<- hL] at l1 HVL hll HXL;rw [HXA.out, HXL.out] at HNO;have HG1 := Bx.mk (fun (W : World) (hW : Below w.heap.size w W) => HG.out.at1' W hW h hk0);rw [<- hA] at HG1;obtain ⟨aa, ac, has, -⟩ := HVA.out.rd.form;obtain ⟨la, lc, hls, -⟩ := HVL.out.rd.form;rw [has] at l0 HVA HG1;rw [hls] at l1 HVL;obtain ⟨AN, hAN⟩ : ∃ n, n = A.vs.length := ⟨_, rfl⟩
   obtain ⟨M, hM⟩ : ∃ n, n = L.vs.length := ⟨_, rfl⟩
   have HAN := Bx.mk hAN;have HM := Bx.mk hM;rw [<- hAN] at l0 HVA hla HG1;rw [<- hM] at l1 HVL hll;have wi : IntKind.i64.wrap ((i : Int) - 1) = (h : Int) := by rw [IntWalk.i64_in _ (by omega)]; omega
   have hhN : h < N := by omega
   clear hA hL has hls hAN hM hk0 hk1 hih;obtain ⟨wo, hwo⟩ : ∃ wo : World, wo = wr := ⟨_, rfl⟩
   have hmk := run_makeSlice (P := Tryz.prog) wr 75 4 ib (.bool false) Tryz.underlying75 hib hib0 .i64 .i64 (AN : Nat) (AN : Nat) (by omega) (by omega) (by rw [Int.toNat_natCast, hib1]; omega) (by rw [hib2]; omega) (by omega);simp only [Int.toNat_natCast, hib1, made_marks] at hmk
   obtain ⟨qm, hqm⟩ : ∃ q, q = wr.heap.size := ⟨_, rfl⟩
   obtain ⟨W1, hW1⟩ : ∃ W1, W1 = wr.alloc (.cells (Array.replicate AN (Value.bool false)) 4) := ⟨_, rfl⟩
   have hb1 : Below wr.heap.size wr W1 := by rw [hW1]; exact (Below.refl _ _).alloc (zR _) _
   have HB1 := Bx.mk (show Below wo.heap.size wo W1 by rw [hwo]; exact hb1)
   have HM1 := Bx.mk (show MB W1 qm (mkB AN (fI (vxs L.vs) 0)) by
    have e : mkB AN (fI (vxs L.vs) 0) = List.replicate AN false := by
     unfold mkB;apply List.ext_getElem
     ·simp
     ·intro i h1 h2;simp [fI_zero]
    rw [hW1, e]; unfold MB
    rw [List.map_replicate, List.toArray_replicate]
    exact alloc_at hqm)
   have HQM := Bx.mk (show qm = wo.heap.size by rw [hqm, hwo]);have HBO := Bx.mk (show Below w.heap.size w wo by rw [hwo]; exact hB.out);clear hB hb1 hwo;go_upto_region 11 with fail
   rw [<- hW1, <- hqm];clear hmk hW1 hqm l0 l1;go_wp2_with fail
   go_loopw [7] (fun kv wx => ∃ k : Nat, k <= M /\ kv = .int .i64 k /\ Bx (MB wx qm (mkB AN (fI (vxs L.vs) k))) /\ Bx (∀ j, j < k -> (gfitB (vxs L.vs)[j]! (vxs A.vs) && ordB (vxs L.vs) j) = true) /\ Bx (Below wo.heap.size wo wx)) (fun kv _ => M - (intOf kv).toNat)
   case atStart => exact ⟨0, by omega, rfl, HM1, ⟨fun j hj => by omega⟩, HB1⟩
   case round =>
    clear HM1 HB1;obtain ⟨k, hk, rfl, hMB, hFT, hBw⟩ := hrel;by_cases hltk : k < M
    ·have HW := Bx.mk (HBO.out.trans (hBw.out.mono HBO.out.size));have hkl : k < L.vs.length := (by rw [<- HM.out]; exact hltk);obtain ⟨lb, lo, rfl, hlb, -⟩ := HVL.out.at3 w (Below.refl _ _) k hkl;have HVC := Bx.mk (fun (W : World) (hW : Below w.heap.size w W) => HVL.out.at3' W hW k hkl);have HXV := Bx.mk (HVL.out.at_ _ (zM hkl));have HXE := Bx.mk (vxs_at L.vs k hkl);obtain ⟨x, hx⟩ : ∃ x, x = L.vs[k] := ⟨_, rfl⟩
     rw [<- hx] at HVC HXV HXE;obtain ⟨pa, pc, hpq, -⟩ := RqIn.form HXV.out.2.1;obtain ⟨ua, uc, hup, -⟩ := HXV.out.1.form;obtain ⟨PN, hPN⟩ : ∃ n, n = x.n.par.length := ⟨_, rfl⟩
     obtain ⟨UN, hUN⟩ : ∃ n, n = x.n.ex.length := ⟨_, rfl⟩
     have HPN := Bx.mk hPN;have HUN := Bx.mk hUN;rw [hup, hpq, <- hPN, <- hUN] at HVC;have HPR := Bx.mk (show Ri w (.slice pa PN pc) x.n.par by rw [hPN, <- hpq]; exact HXV.out.2.1);have HUR := Bx.mk (show Rq w (.slice ua UN uc) x.n.ex by rw [hUN, <- hup]; exact HXV.out.1);have hPNb : PN <= 100000 := (by rw [hPN]; exact HXV.out.2.2.2.2);have HUF := Bx.mk (show x.n.ex.length <= 100000 by have := HXV.out.2.2.1.1; omega);obtain ⟨BA, hBA⟩ : ∃ b, b = (!ordB (vxs L.vs) k || badV x.n AN) := ⟨_, rfl⟩
     have HBA := Bx.mk hBA;obtain ⟨x0', x1', x2'⟩ := HVC.out wr HW.out;clear hx hpq hup hPN hUN hBA;go_upto_region 14 with fail
     clear x0' x1' x2';go_cut [114] (fun cc wy => cc = .bool BA /\ Below wr.heap.size wr wy)
     case first =>
      as_aux_lemma =>
       have hext := fun (e : Ext wr) => HW.out.trans (e.bel.mono HW.out.size)
       have x0 := fun (e : Ext wr) => (HVC.out e.out (hext e)).1
       have x1 := fun (e : Ext wr) => (HVC.out e.out (hext e)).2.1
       have x2 := fun (e : Ext wr) => (HVC.out e.out (hext e)).2.2
       have hasc := fun (e : Ext wr) => rasc_q e.out (.slice ua UN uc) x.n.ex (HUR.out.below (hext e)) (by have := HUF.out; omega)
       have hris := fun (e : Ext wr) => rris_any e.out (.slice pa PN pc) x.n.par (HPR.out.below (hext e)) (by have := HPN.out; omega) AN
       have hbad := ris_bad x.n AN;rw [<- HPN.out] at hbad;by_cases hk0 : k = 0
       ·have tk : decide ((k : Int) > 0) = false := zF (by omega);have tk2 : decide (0 < k) = false := zF (by omega);have hord : ordB (vxs L.vs) k = true := by unfold ordB; rw [zT hk0]; rfl
        cases hA : ascB x.n.ex with
        | false =>
         have HB := Bx.mk (show BA = true by rw [HBA.out, hbad, hA]; simp);simp only [hA] at hasc
         refine reg14_c0 hltk tk tk2 x1 hasc ?_;intro W' hb
         intros
         go_wp2_with fail
         go_meet
         exact ⟨by rw [HB.out], hb⟩
        | true =>
         simp only [hA] at hasc
         by_cases hp : PN = 0
         ·have HB := Bx.mk (show BA = true by rw [HBA.out, hbad, hA, zT hp]; simp);refine reg14_d0 hltk tk tk2 x1 hasc x2 (by simp; omega) ?_;intro W' hb
          intros
          go_wp2_with fail
          go_meet;exact ⟨by rw [HB.out], hb⟩
         ·have HB := Bx.mk (show (!risB x.n.par AN) = BA by rw [HBA.out, hord, hbad, hA, zF hp]; simp);refine reg14_e0 hltk tk tk2 x1 hasc x2 (by simp; omega) hris ?_;intro W' hb
          intros
          go_wp2_with fail
          go_meet;exact ⟨by rw [HB.out], hb⟩
       ·have tk : decide ((k : Int) > 0) = true := zT (by omega);have tk2 : decide (0 < k) = true := zT (by omega);obtain ⟨j, hkj⟩ : ∃ j, k = j + 1 := ⟨k - 1, by omega⟩
        have hjl : j < L.vs.length := (by omega);have hjM : j < M := (by omega);have wj : IntKind.i64.wrap ((k : Int) - 1) = (j : Int) := (by rw [IntWalk.i64_in _ (by omega)]; omega);have y0 := fun (e : Ext wr) => (HVL.out.at3' e.out (hext e) j hjl).1
        have hYE := vxs_at L.vs j hjl;obtain ⟨y, hy⟩ : ∃ y, y = L.vs[j]'hjl := ⟨_, rfl⟩
        rw [<- hy] at y0 hYE;have l1 := less_bytes y.n.pol x.n.pol;have l2 := less_bytes x.n.pol y.n.pol;have l3 := same_bytes y.n.pol x.n.pol
        have hord0 : ordB (vxs L.vs) k = decide (y.n.pol < x.n.pol) := by
         unfold ordB;rw [zF hk0, Bool.false_or, HXE.out, show k - 1 = j by omega, hYE]
        by_cases hc : y.n.pol < x.n.pol
        ·rw [zT hc] at l1;rw [zF (List.lt_asymm hc)] at l2;rw [zF (fun e => by rw [e] at hc; exact List.lt_irrefl _ hc)] at l3;have hord : ordB (vxs L.vs) k = true := by rw [hord0, zT hc]
         cases hA : ascB x.n.ex with
         | false =>
          have HB := Bx.mk (show BA = true by rw [HBA.out, hbad, hA]; simp);simp only [hA] at hasc
          refine reg14_c1 hltk hjM tk tk2 wj x0 y0 l1 l2 l3 x1 hasc ?_;intro W' hb
          intros
          go_wp2_with fail
          go_meet
          exact ⟨by rw [HB.out], hb⟩
         | true =>
          simp only [hA] at hasc
          by_cases hp : PN = 0
          ·have HB := Bx.mk (show BA = true by rw [HBA.out, hbad, hA, zT hp]; simp);refine reg14_d1 hltk hjM tk tk2 wj x0 y0 l1 l2 l3 x1 hasc x2 (by simp; omega) ?_;intro W' hb
           intros
           go_wp2_with fail
           go_meet;exact ⟨by rw [HB.out], hb⟩
          ·have HB := Bx.mk (show (!risB x.n.par AN) = BA by rw [HBA.out, hord, hbad, hA, zF hp]; simp);refine reg14_e1 hltk hjM tk tk2 wj x0 y0 l1 l2 l3 x1 hasc x2 (by simp; omega) hris ?_;intro W' hb
           intros
           go_wp2_with fail
           go_meet;exact ⟨by rw [HB.out], hb⟩
        ·rw [zF hc] at l1;have HB := Bx.mk (show BA = true by rw [HBA.out, hord0, zF hc]; rfl);by_cases h2 : x.n.pol < y.n.pol
         ·rw [zT h2] at l2;rw [zF (fun e => hc (by rw [e] at h2; exact absurd h2 (List.lt_irrefl _)))] at l3;refine reg14_a hltk hjM tk tk2 wj x0 y0 l1 l2 l3 ?_;intro W' hb
          intros
          go_wp2_with fail
          go_meet;exact ⟨by rw [HB.out], hb⟩
         ·rw [zF h2] at l2;rw [zT (eqB hc h2)] at l3;refine reg14_b hltk hjM tk tk2 wj x0 y0 l1 l2 l3 ?_;intro W' hb
          intros
          go_wp2_with fail
          go_meet;exact ⟨by rw [HB.out], hb⟩
     case rest =>
     obtain ⟨rfl, hb14⟩ := hcut;obtain ⟨w5, hw5⟩ : ∃ w5, w5 = wc := ⟨_, rfl⟩
     rw [<- hw5] at hb14 |-;clear hw5;have HB14 := Bx.mk hb14;have HW5 := Bx.mk (HW.out.trans (hb14.mono HW.out.size));clear hb14;have HNK := Bx.mk (fun e => HNO.out (lvl_no (k := k) (by rw [vxs_len]; exact hkl) e));rw [HXE.out, gfit_tst, vxs_len, <- HAN.out] at HNK
     cases BA with
     | true =>
      have HE := Bx.mk (show R = false from HNK.out (tst1 HBA.out));go_wp2_with fail
      go_ret
      exact ⟨by rw [HE.out]; rfl, HW5.out⟩
     | false =>
     have HOB := Bx.mk (tst2 HBA.out);have HPI := Bx.mk (bad_in HOB.out.2);obtain ⟨x0', x1', x2'⟩ := HVC.out w5 HW5.out;have l3 := same_any x.n.pol;obtain ⟨SP, hSP⟩ : ∃ s, s = specV x.n := ⟨_, rfl⟩
     rw [show decide (x.n.pol = anyP) = SP from hSP.symm] at l3;have HSP := Bx.mk hSP;obtain ⟨BB, hBB⟩ : ∃ s, s = tstB x.n (vxs A.vs) := ⟨_, rfl⟩
     have HBB := Bx.mk hBB;rw [<- hBB] at HNK;clear HBA hSP hBB;go_upto_region 17 with fail
     clear x0' x1' x2' l3;go_cut [168] (fun cc wy => cc = .bool BB /\ Below w5.heap.size w5 wy)
     case first =>
      as_aux_lemma =>
       have hext := fun (e : Ext w5) => HW5.out.trans (e.bel.mono HW5.out.size)
       have x1 := fun (e : Ext w5) => (HVC.out e.out (hext e)).2.1
       have x2 := fun (e : Ext w5) => (HVC.out e.out (hext e)).2.2
       have hin : ∀ (e : Ext w5), Calls Tryz.prog 47 #[.slice ua UN uc, .string ⟨#[50, 46, 53, 46, 50, 57, 46, 51, 50, 46, 48]⟩] e.out fun r w' => r = .returned (.bool (decide (anyP ∈ x.n.ex))) /\ Below e.out.heap.size e.out w' := fun e =>
        (in_q e.out (.slice ua UN uc) x.n.ex anyP (HUR.out.below (hext e)) (by have := HUF.out; omega)).mono fun _ _ ⟨a, b⟩ => ⟨a, by rw [<- b]; exact Below.refl _ _⟩
       have htst := HBB.out;unfold tstB at htst;rw [<- HSP.out, <- HPN.out] at htst
       cases SP with
       | false =>
        have HB := Bx.mk (show decide (anyP ∈ x.n.ex) = BB by rw [htst]; rfl);refine reg17_a hltk x1 hin ?_;intro W' hb
        intros
        go_wp2_with fail
        go_meet
        exact ⟨by rw [HB.out], hb⟩
       | true =>
        by_cases hp1 : PN = 1
        rotate_left
        ·have HB := Bx.mk (show BB = true by rw [htst, zF hp1]; rfl);refine reg17_b hltk x2 (by simp; omega) (by simp; omega) ?_;intro W' hb
         intros
         go_wp2_with fail
         go_meet;exact ⟨by rw [HB.out], hb⟩
        have h0l : 0 < x.n.par.length := (by rw [<- HPN.out]; omega);obtain ⟨pb, po, rfl, -, -⟩ := HPR.out.cells w (Below.refl _ _) 0 h0l;have hp0 := HPI.out _ (zM h0l);obtain ⟨pn, hpn⟩ : ∃ p : Nat, x.n.par[0] = (p : Int) := ⟨(x.n.par[0]).toNat, by omega⟩
        have x3 := fun (e : Ext w5) => HPR.out.at' e.out (hext e) 0 h0l
        simp only [Nat.add_zero, hpn] at x3
        rw [hpn] at hp0;have hpA : pn < AN := (by omega);have hpl : pn < A.vs.length := (by rw [<- HAN.out]; exact hpA);obtain ⟨ab, ao, rfl, -, -⟩ := HVA.out.at3 w (Below.refl _ _) pn hpl;have g1 := fun (e : Ext w5) => HG1.out e.out (hext e)
        have a0 := fun (e : Ext w5) => (HVA.out.at3' e.out (hext e) pn hpl).1
        have hYE := vxs_at A.vs pn hpl;obtain ⟨y, hy⟩ : ∃ y, y = A.vs[pn]'hpl := ⟨_, rfl⟩
        rw [<- hy] at a0 hYE;have l3 := same_any y.n.pol
        have hsy : specV (vxs A.vs)[(x.n.par[0]!).toNat]! = decide (y.n.pol = anyP) := by
         rw [getElem!_pos x.n.par 0 h0l, hpn, Int.toNat_natCast, hYE]; rfl
        rw [hsy, zT hp1] at htst;subst hp1;by_cases hs : y.n.pol = anyP
        rotate_left
        ·rw [zF hs] at l3;have HB := Bx.mk (show BB = true by rw [htst, zF hs]; rfl);refine reg17_c hltk x2 x3 wi hhN g1 hpA a0 l3 ?_;intro W' hb
         intros
         go_wp2_with fail
         go_meet;exact ⟨by rw [HB.out], hb⟩
        rw [zT hs] at l3 htst;by_cases hu1 : UN = 1
        rotate_left
        ·have HB := Bx.mk (show BB = true by
          rw [htst]; unfold onlyB
          rw [zF (fun e => hu1 (by rw [HUN.out, e]; rfl))]; rfl)
         refine reg17_d hltk x2 x3 wi hhN g1 hpA a0 l3 x1 (by simp; omega) (by simp; omega) ?_;intro W' hb
         intros
         go_wp2_with fail
         go_meet;exact ⟨by rw [HB.out], hb⟩
        have HB := Bx.mk (show (!decide (anyP ∈ x.n.ex)) = BB by
         rw [htst, one_in (by rw [<- HUN.out]; exact hu1)]; rfl)
        refine reg17_e hltk x2 x3 wi hhN g1 hpA a0 l3 x1 (by simp; omega) (by simp; omega) hin ?_;intro W' hb
        intros
        go_wp2_with fail
        go_meet;exact ⟨by rw [HB.out], hb⟩
     case rest =>
     obtain ⟨rfl, hb17⟩ := hcut;obtain ⟨w7, hw7⟩ : ∃ w7, w7 = wc := ⟨_, rfl⟩
     rw [<- hw7] at hb17 |-;clear hw7;have HB17 := Bx.mk (HB14.out.trans (hb17.mono HB14.out.size));have HW7 := Bx.mk (HW5.out.trans (hb17.mono HW5.out.size));clear hb17
     cases BB with
     | true =>
      have HE := Bx.mk (show R = false from HNK.out (by simp));go_wp2_with fail
      go_ret
      exact ⟨by rw [HE.out]; rfl, HW7.out⟩
     | false =>
     have HM7 := Bx.mk (show MB w7 qm (mkB AN (fN (vxs L.vs) k x.n.par 0)) by
      rw [mkB_cong (fun r => fN_zero _ _ _ r)]
      exact (HB17.out.block qm (lt_of_some hMB.out)).trans hMB.out)
     have HB7 := Bx.mk (hBw.out.trans (HB17.out.mono hBw.out.size))
     have HFT2 := Bx.mk (show ∀ j, j < k + 1 -> (gfitB (vxs L.vs)[j]! (vxs A.vs) && ordB (vxs L.vs) j) = true from fun j hj => by
      rcases Nat.lt_or_ge j k with e | e
      ·exact hFT.out j e
      ·obtain rfl : j = k := by omega
       rw [HXE.out, gfit_tst, vxs_len, <- HAN.out, HOB.out.1, HOB.out.2, <- HBB.out]; rfl)
     clear hMB hBw hFT HB14 HB17 HNK HSP HBB;go_wp2_with fail
     go_loopw [9] (fun nv wy => ∃ n : Nat, n <= PN /\ nv = .int .i64 n /\ Bx (MB wy qm (mkB AN (fN (vxs L.vs) k x.n.par n))) /\ Bx (Below wo.heap.size wo wy)) (fun nv _ => PN - (intOf nv).toNat)
     case atStart => exact ⟨0, by omega, rfl, HM7, HB7⟩
     case round =>
      clear HM7 HB7;obtain ⟨n, hn2, rfl, hM3, hB3⟩ := hrel;have HW9 := Bx.mk (HBO.out.trans (hB3.out.mono HBO.out.size));obtain ⟨-, -, x2'⟩ := HVC.out wr HW9.out;by_cases hlt3 : n < PN
      ·have hnl : n < x.n.par.length := by rw [<- HPN.out]; exact hlt3
       obtain ⟨b4, o4, rfl, -, d0⟩ := HPR.out.cells wr HW9.out n hnl;have hpi := HPI.out _ (zM hnl);obtain ⟨p, hp⟩ : ∃ p : Nat, x.n.par[n] = (p : Int) := ⟨(x.n.par[n]).toNat, by omega⟩
       have HFS := Bx.mk (fun r => fN_succ (vxs L.vs) k x.n.par n hnl p hp r);rw [hp] at d0 hpi;have hpl : p < AN := (by omega);have z1 := Go.Proofs.YtmagjdocondmhaaGreat.Rg.frozen_row (i := p) hM3.out;have mc := hM3.out.cell p (by rw [mkB_len]; exact hpl);obtain ⟨W5, hW5⟩ : ∃ W5, W5 = wr.setCell ⟨qm, p, none⟩ (.bool true) := ⟨_, rfl⟩
       have HM5 := Bx.mk (show MB W5 qm (mkB AN (fN (vxs L.vs) k x.n.par (n + 1))) by
        have := hM3.out.set p true;rw [mkB_set HFS.out] at this
        rw [hW5]; exact this)
       have HB5 := Bx.mk (show Below wo.heap.size wo W5 by
        rw [hW5]
        exact hB3.out.setCell (by show wo.heap.size <= qm; have := HQM.out; omega) _)
       have HW5' := Bx.mk hW5;clear hp hpi hnl hW5;go_wp2_with fail
       rw [<- HW5'.out];go_roundw
       case rel => exact ⟨n + 1, by omega, by go_num, HM5, HB5⟩
       case measure => simp [intOf]; omega
      ·obtain rfl : n = PN := by omega
       have HME := Bx.mk (show MB wr qm (mkB AN (fI (vxs L.vs) (k + 1))) by
        have := hM3.out;rw [HPN.out, <- HXE.out] at this
        rwa [mkB_cong (fun r => fN_all (vxs L.vs) k (by rw [vxs_len]; exact hkl) r)])
       go_wp2_with fail
       go_roundw
       case rel => exact ⟨k + 1, by omega, by go_num, HME, HFT2, hB3⟩
       case measure => simp [intOf]; omega
    ·obtain rfl : k = M := by omega
     go_wp2_with fail
     go_loopw [10] (fun nv wx => ∃ n : Nat, n <= AN /\ nv = .int .i64 n /\ Bx (MB wx qm (mkB AN (fI (vxs L.vs) k))) /\ Bx (∀ j, j < n -> fI (vxs L.vs) k j = true) /\ Bx (Below wo.heap.size wo wx)) (fun nv _ => AN - (intOf nv).toNat)
     case atStart => exact ⟨0, by omega, rfl, hMB, ⟨fun j hj => by omega⟩, hBw⟩
     case round =>
      clear hMB hBw;obtain ⟨n, hn2, rfl, hMB, hKD, hBw⟩ := hrel;by_cases hltn : n < AN
      ·have mc := hMB.out.cell n (by rw [mkB_len]; exact hltn)
       rw [show (mkB AN (fI (vxs L.vs) k))[n]! = fI (vxs L.vs) k n by
        rw [getElem!_pos _ n (by rw [mkB_len]; exact hltn)]; simp [mkB]] at mc
       obtain ⟨F, hF⟩ : ∃ F, F = fI (vxs L.vs) k n := ⟨_, rfl⟩
       rw [<- hF] at mc;have HF := Bx.mk hF;clear hF
       cases F with
       | true =>
        have HK2 := Bx.mk (show ∀ j, j < n + 1 -> fI (vxs L.vs) k j = true from fun j hj => by
         rcases Nat.lt_or_ge j n with e | e
         ·exact hKD.out j e
         ·obtain rfl : j = n := by omega
          exact HF.out.symm)
        go_wp2_with fail
        go_roundw
        case rel => exact ⟨n + 1, by omega, by go_num, hMB, HK2, hBw⟩
        case measure => simp [intOf]; omega
       | false =>
        have HE := Bx.mk (show R = false from HNO.out (lvl_no2 (j := n) (by rw [vxs_len, <- HAN.out]; exact hltn) (by rw [vxs_len, <- HM.out]; exact HF.out.symm)));go_wp2_with fail
        go_ret;exact ⟨by rw [HE.out]; rfl, HBO.out.trans (hBw.out.mono HBO.out.size)⟩
      ·obtain rfl : n = AN := by omega
       by_cases hM0 : k = 0
       ·have HE := Bx.mk (show R = false from HNO.out (lvl_no3 (by rw [vxs_len, <- HM.out]; exact hM0)));have tm : ((k : Int) == 0) = true := (by simp; omega);clear hM0;go_wp2_with fail
        go_ret;exact ⟨by rw [HE.out]; rfl, HBO.out.trans (hBw.out.mono HBO.out.size)⟩
       ·have HV2 := Bx.mk (show ∀ h', h' + 1 < i + 1 -> lvlB (gxs g)[h']! (gxs g)[h' + 1]! = true from fun h' hh => by
         have hih := HIH.out;rcases Nat.lt_or_ge h' h with e | e
         ·exact hV.out h' (by omega)
         ·obtain rfl : h' = h := by omega
          rw [<- hih, HXA.out, HXL.out]
          exact lvl_yes (fun j hj => hFT.out j (by rw [vxs_len, <- HM.out] at hj; exact hj)) (fun j hj => by rw [vxs_len, <- HM.out]; exact hKD.out j (by rw [vxs_len, <- HAN.out] at hj; exact hj)) (by rw [vxs_len, <- HM.out]; exact hM0))
        have tm : ((k : Int) == 0) = false := (by simp; omega);have HB9 := Bx.mk (HBO.out.trans (hBw.out.mono HBO.out.size));clear hM0;go_wp2_with fail
        go_roundw
        case rel => exact ⟨i + 1, by omega, by omega, by go_num, HV2, HB9⟩
        case measure => simp [intOf]; omega
  ·obtain rfl : i = N := by omega
   have HE := Bx.mk (show R = true from HYT2.out hV.out);go_wp2_with fail
   go_ret;exact ⟨by rw [HE.out]; rfl, hB.out⟩
end Go.Proofs.YtmagjdocondmhaaGreat.Tr.Gr
namespace Go.Proofs.YtmagjdocondmhaaGreat.Tr
open Go Go.RowKit Slc St Mp Rg
attribute [local go_sem] Oper.semAt_some
def sK (l : List (B × B)) (k : Nat) : List B := ((l.take k).filter okM).map (·.1)
theorem sK_succ (l : List (B × B)) (k : Nat) (hk : k < l.length) : sK l (k + 1) = sK l k ++ if okM l[k] then [l[k].1] else [] := by
 unfold sK;rw [zA hk, List.filter_append, List.map_append]
 cases h : okM l[k] <;> simp [List.filter_cons, h]
theorem sK_all (l : List (B × B)) : setB (sK l l.length) = srcL l := by unfold sK srcL; rw [List.take_length]
theorem sources_any (w : World) (v : Value) (l : List (B × B)) (h : Rd w encP v l) (hn : l.length <= 100000) :
  Calls Tryz.prog 66 #[v] w fun e w' => ∃ v', e = .returned v' /\ Slc.Own w' w.heap.size 9 1 encS v' (srcL l) /\ Below w.heap.size w w' := by
 obtain ⟨i0, hi0, hz0, hz1, hz2⟩ := info_parts info_str;obtain ⟨ad, c, rfl, -⟩ := h.form;have HC := Bx.mk (maps_cells h).2;obtain ⟨N, hN⟩ : ∃ N, N = l.length := ⟨_, rfl⟩
 have HN := Bx.mk hN;rw [<- hN] at hn |-;clear h hN;go_enter Tryz.func66, Tryz.ntmps66;go_wp2_with fail
 go_loopw [3, 4] (fun ov i wr => ∃ (k : Nat) (out : List B), k <= N /\ i = .int .i64 k /\ out.length <= k /\ Bx (GS w w.heap.size wr ov out) /\ Bx (out = sK l k)) (fun _ i _ => N - (intOf i).toNat)
 case atStart => exact ⟨0, [], by omega, rfl, by simp, ⟨GS.nil w _ (zR _)⟩, ⟨by simp [sK, gK]⟩⟩
 case round =>
  obtain ⟨k, out, hk, rfl, hlen, hG, hF⟩ := hrel;obtain ⟨av, cv, rfl, -⟩ := hG.out.form;have hb0 : Below w.heap.size w wr := hG.out.bel;by_cases hlt : k < N
  ·have hkl : k < l.length := by rw [<- HN.out]; exact hlt
   obtain ⟨b, o, rfl, hbl, c0, c1⟩ := HC.out wr hb0 k hkl;have HKS := Bx.mk (sK_succ l k hkl);obtain ⟨x, hx⟩ : ∃ x, x = l[k] := ⟨_, rfl⟩
   rw [<- hx] at c0 c1 HKS;obtain ⟨R, hR⟩ : ∃ R, R = (okM x) := ⟨_, rfl⟩
   rw [<- hR] at HKS;have HR := Bx.mk hR;have l0 := same_any x.1;have l1 := same_any x.2;clear hx hkl hbl hR hb0;go_upto_region 5 with fail
   go_cut [24] (fun c wx => c = .bool R /\ wx = wr)
   case first =>
    have HR1 := Bx.mk (show R = okM x from HR.out);by_cases q0 : x.1 = anyP
    ·rw [zT q0] at l0;have HRR := Bx.mk (show R = false by rw [HR1.out]; unfold okM; rw [q0]; simp);generalize bstr x.1 = X at *;clear q0;go_wp2_with fail
     go_meet;exact ⟨by rw [HRR.out], rfl⟩
    ·rw [zF q0] at l0;by_cases q1 : x.2 = anyP
     ·rw [zT q1] at l1;have HRR := Bx.mk (show R = false by rw [HR1.out]; unfold okM; rw [q1]; simp);generalize bstr x.1 = X at *;generalize bstr x.2 = Y at *;clear q0 q1;go_wp2_with fail
      go_meet;exact ⟨by rw [HRR.out], rfl⟩
     ·rw [zF q1] at l1;have HRR := Bx.mk (show R = true by rw [HR1.out]; unfold okM; simp [q0, q1]);generalize bstr x.1 = X at *;generalize bstr x.2 = Y at *;clear q0 q1;go_wp2_with fail
      go_meet;exact ⟨by rw [HRR.out], rfl⟩
   case rest =>
    obtain ⟨rfl, hwc⟩ := hcut;subst hwc;clear l0 l1
    cases R with
    | true =>
     have HSRC := Bx.mk (src_str wc x.1);have HOWN := Bx.mk (show Slc.Own (wc.alloc (.cells #[.string (bstr x.1)] 9)) w.heap.size 9 1 encS (.slice av out.length cv) out from hG.out.own.below ((Below.refl _ _).alloc (zR _) _));have HG3 := Bx.mk (hG.out.below (show Below wc.heap.size wc (wc.alloc (.cells #[.string (bstr x.1)] 9)) from (Below.refl _ _).alloc (zR _) _));have hm1 : out.length + 1 <= maxLen := (by unfold maxLen; omega);have hm2 : (out.length + 1) * 16 <= 140737488355328 := (by omega);have hbz : w.heap.size <= (wc.alloc (.cells #[.string (bstr x.1)] 9)).heap.size := HG3.out.sz;go_wp2_with (at_builtin; refine wpList_append_any rfl _ _ _ rfl w.heap.size 9 i0 _ 1 16 und_strs hi0 hz0 hz1 hz2 rfl (by decide) _ out.length (out.flatMap encS) rfl HOWN.out _ 1 ([x.1].flatMap encS) rfl HSRC.out hm1 hm2 hbz ?_)
     intro v9 w9 hapd;have HG9 := Bx.mk (HG3.out.apd (m := [x.1]) hapd);have HF9 := Bx.mk (show out ++ [x.1] = sK l (k + 1) by rw [HKS.out, hF.out]; rfl);clear hapd hm1 hm2 hbz;go_wp2_with fail
     go_roundw
     case rel => exact ⟨k + 1, out ++ [x.1], by omega, by go_num, by simp; omega, HG9, HF9⟩
     case measure => simp [intOf]; omega
    | false =>
     have HF9 := Bx.mk (show out = sK l (k + 1) by rw [HKS.out, hF.out]; simp);go_wp2_with fail
     go_roundw
     case rel => exact ⟨k + 1, out, by omega, by go_num, by omega, hG, HF9⟩
     case measure => simp [intOf]; omega
  ·obtain rfl : k = N := by omega
   have hset := rset_any wr _ out hG.out.own.rd (by omega);have HF2 := Bx.mk (show srcL l = setB out by rw [hF.out, HN.out]; exact (sK_all l).symm);clear hF;have HBW := Bx.mk hb0;clear hb0;go_wp2_with fail
   go_at_call 54;refine hset.mono ?_;rintro e w2 ⟨v2, rfl, ho, hb2⟩;obtain ⟨a2, c2, rfl, -⟩ := ho.rd.form;have HO := Bx.mk ho;have HB2 := Bx.mk hb2;clear hset ho hb2;go_wp2_with fail
   go_ret;refine ⟨_, rfl, ?_, HBW.out.trans (HB2.out.mono HBW.out.size)⟩;rw [HF2.out];exact HO.out.mono HBW.out.size
theorem subjects_any (w : World) (v : Value) (l : List (B × B)) (p : B) (h : Rd w encP v l) (hn : l.length <= 100000) :
  Calls Tryz.prog 67 #[v, .string (bstr p)] w fun e w' => ∃ v', e = .returned v' /\ Slc.Own w' w.heap.size 9 1 encS v' (subL l p) /\ Below w.heap.size w w' := by
 obtain ⟨i0, hi0, hz0, hz1, hz2⟩ := info_parts info_str;obtain ⟨ad, c, rfl, -⟩ := h.form;have HC := Bx.mk (maps_cells h).2;obtain ⟨N, hN⟩ : ∃ N, N = l.length := ⟨_, rfl⟩
 have HN := Bx.mk hN;rw [<- hN] at hn |-;clear h hN;obtain ⟨P, hP⟩ : ∃ P, P = bstr p := ⟨_, rfl⟩
 have HP := Bx.mk hP;rw [<- hP];clear hP;go_enter Tryz.func67, Tryz.ntmps67;go_wp2_with fail
 go_loopw [5, 6] (fun ov i wr => ∃ (k : Nat) (out : List B), k <= N /\ i = .int .i64 k /\ out.length <= k /\ Bx (GS w w.heap.size wr ov out) /\ Bx (out = gK l k p)) (fun _ i _ => N - (intOf i).toNat)
 case atStart => exact ⟨0, [], by omega, rfl, by simp, ⟨GS.nil w _ (zR _)⟩, ⟨by simp [sK, gK]⟩⟩
 case round =>
  obtain ⟨k, out, hk, rfl, hlen, hG, hF⟩ := hrel;obtain ⟨av, cv, rfl, -⟩ := hG.out.form;have hb0 : Below w.heap.size w wr := hG.out.bel;by_cases hlt : k < N
  ·have hkl : k < l.length := by rw [<- HN.out]; exact hlt
   obtain ⟨b, o, rfl, hbl, c0, c1⟩ := HC.out wr hb0 k hkl;have HKS := Bx.mk (gK_succ l k hkl p);obtain ⟨x, hx⟩ : ∃ x, x = l[k] := ⟨_, rfl⟩
   rw [<- hx] at c0 c1 HKS;obtain ⟨R, hR⟩ : ∃ R, R = (decide (x.1 = p) && okM x) := ⟨_, rfl⟩
   rw [<- hR] at HKS;have HR := Bx.mk hR;have l0 := same_any x.1;have l1 := same_any x.2;have l2 := same_bytes x.1 p;rw [<- HP.out] at l2;clear hx hkl hbl hR hb0;go_upto_region 5 with fail
   go_cut [35] (fun c wx => c = .bool R /\ wx = wr)
   case first =>
    by_cases q2 : x.1 = p
    ·rw [zT q2] at l2;have HR1 := Bx.mk (show R = okM x by rw [HR.out, zT q2, Bool.true_and]);clear q2;by_cases q0 : x.1 = anyP
     ·rw [zT q0] at l0;have HRR := Bx.mk (show R = false by rw [HR1.out]; unfold okM; rw [q0]; simp);generalize bstr x.1 = X at *;clear q0;go_wp2_with fail
      go_meet;exact ⟨by rw [HRR.out], rfl⟩
     ·rw [zF q0] at l0;by_cases q1 : x.2 = anyP
      ·rw [zT q1] at l1;have HRR := Bx.mk (show R = false by rw [HR1.out]; unfold okM; rw [q1]; simp);generalize bstr x.1 = X at *;generalize bstr x.2 = Y at *;clear q0 q1;go_wp2_with fail
       go_meet;exact ⟨by rw [HRR.out], rfl⟩
      ·rw [zF q1] at l1;have HRR := Bx.mk (show R = true by rw [HR1.out]; unfold okM; simp [q0, q1]);generalize bstr x.1 = X at *;generalize bstr x.2 = Y at *;clear q0 q1;go_wp2_with fail
       go_meet;exact ⟨by rw [HRR.out], rfl⟩
    ·rw [zF q2] at l2;have HRR := Bx.mk (show R = false by rw [HR.out, zF q2, Bool.false_and]);generalize bstr x.1 = X at *;clear q2;go_wp2_with fail
     go_meet;exact ⟨by rw [HRR.out], rfl⟩
   case rest =>
    obtain ⟨rfl, hwc⟩ := hcut;subst hwc;clear l0 l1 l2
    cases R with
    | true =>
     have HSRC := Bx.mk (src_str wc x.2);have HOWN := Bx.mk (show Slc.Own (wc.alloc (.cells #[.string (bstr x.2)] 9)) w.heap.size 9 1 encS (.slice av out.length cv) out from hG.out.own.below ((Below.refl _ _).alloc (zR _) _));have HG3 := Bx.mk (hG.out.below (show Below wc.heap.size wc (wc.alloc (.cells #[.string (bstr x.2)] 9)) from (Below.refl _ _).alloc (zR _) _));have hm1 : out.length + 1 <= maxLen := (by unfold maxLen; omega);have hm2 : (out.length + 1) * 16 <= 140737488355328 := (by omega);have hbz : w.heap.size <= (wc.alloc (.cells #[.string (bstr x.2)] 9)).heap.size := HG3.out.sz;go_wp2_with (at_builtin; refine wpList_append_any rfl _ _ _ rfl w.heap.size 9 i0 _ 1 16 und_strs hi0 hz0 hz1 hz2 rfl (by decide) _ out.length (out.flatMap encS) rfl HOWN.out _ 1 ([x.2].flatMap encS) rfl HSRC.out hm1 hm2 hbz ?_)
     intro v9 w9 hapd;have HG9 := Bx.mk (HG3.out.apd (m := [x.2]) hapd);have HF9 := Bx.mk (show out ++ [x.2] = gK l (k + 1) p by rw [HKS.out, hF.out]; rfl);clear hapd hm1 hm2 hbz;go_wp2_with fail
     go_roundw
     case rel => exact ⟨k + 1, out ++ [x.2], by omega, by go_num, by simp; omega, HG9, HF9⟩
     case measure => simp [intOf]; omega
    | false =>
     have HF9 := Bx.mk (show out = gK l (k + 1) p by rw [HKS.out, hF.out]; simp);go_wp2_with fail
     go_roundw
     case rel => exact ⟨k + 1, out, by omega, by go_num, by omega, hG, HF9⟩
     case measure => simp [intOf]; omega
  ·obtain rfl : k = N := by omega
   have hset := rset_any wr _ out hG.out.own.rd (by omega);have HF2 := Bx.mk (show subL l p = setB out by rw [hF.out, HN.out]; exact (gK_all l p).symm);clear hF;have HBW := Bx.mk hb0;clear hb0;go_wp2_with fail
   go_at_call 54;refine hset.mono ?_;rintro e w2 ⟨v2, rfl, ho, hb2⟩;obtain ⟨a2, c2, rfl, -⟩ := ho.rd.form;have HO := Bx.mk ho;have HB2 := Bx.mk hb2;clear hset ho hb2;go_wp2_with fail
   go_ret;refine ⟨_, rfl, ?_, HBW.out.trans (HB2.out.mono HBW.out.size)⟩;rw [HF2.out];exact HO.out.mono HBW.out.size
end Go.Proofs.YtmagjdocondmhaaGreat.Tr
namespace Go.Proofs.YtmagjdocondmhaaGreat.Tr
open Go Go.RowKit Slc St Mp Rg
attribute [local go_sem] Oper.semAt_some
end Go.Proofs.YtmagjdocondmhaaGreat.Tr
namespace Go.Proofs.YtmagjdocondmhaaGreat.Tr.Gr
open Go Go.RowKit Slc St Mp Tr Rg
structure LQ (l : List Vx) : Prop where
 ord : OrdP l
 ex : ∀ v ∈ l, ascB v.ex = true
 ns : ∀ v ∈ l, specV v = false -> anyP ∉ v.ex
theorem valid_lq {g : List (List Vx)} (h : gvalidB g = true) {k : Nat} (hk : k < g.length) : LQ g[k]! := by
 have hp := valid_pv h
 cases k with
 | zero =>
  obtain ⟨v, hv, -, ho, hs⟩ := gvalid_top h hk;rw [hv];refine ⟨List.pairwise_singleton _ _, fun u hu => ?_, fun u hu hs' => ?_⟩
  ·rw [zS] at hu; subst hu
   have : u.ex = [anyP] := of_decide_eq_true ho;rw [this]; rfl
  ·rw [zS] at hu; subst hu; rw [hs] at hs'; cases hs'
 | succ k => exact ⟨hp.ord (k + 1), fun v hv => (hp.fit k hk v hv).ex, fun v hv => (hp.fit k hk v hv).ns⟩
theorem exJ_succ (l : List Vx) (k : Nat) (p : B) : exJ l (k + 1) p = exJ l k p ++ ((l[k]!).ex.filter fun q => decide (q = p)).map fun _ => (k : Int) := by
 unfold exJ;rw [List.range_succ, List.flatMap_append]; simp
theorem filt_one {l : List B} (h : l.Pairwise (· < ·)) (p : B) : (l.filter fun q => decide (q = p)) = if p ∈ l then [p] else [] := by
 induction l with
 | nil => simp
 | cons x l ih =>
  rw [List.pairwise_cons] at h;rw [List.filter_cons, ih h.2];by_cases e : x = p
  ·subst e;have : x ∉ l := fun hm => ltB_irr _ (h.1 x hm)
   simp [this]
  ·have e' : ¬ p = x := fun q => e q.symm
   simp [e, e']
theorem ascB_pw {l : List B} (h : ascB l = true) : l.Pairwise (· < ·) := (ascB_iff.1 h).1
theorem exJ_one {l : List Vx} (h : LQ l) {k : Nat} (hk : k < l.length) (p : B) : exJ l (k + 1) p = exJ l k p ++ if p ∈ (l[k]!).ex then [(k : Int)] else [] := by
 rw [exJ_succ, filt_one (ascB_pw (h.ex _ (by rw [getElem!_pos l k hk]; exact zM hk)))];split <;> simp
theorem ord_one {l : List Vx} (h : OrdP l) {i j : Nat} (hi : i < l.length) (hj : j < l.length) (he : (l[i]!).pol = (l[j]!).pol) : i = j := by
 rw [getElem!_pos l i hi, getElem!_pos l j hj] at he;have h2 := List.pairwise_iff_getElem.1 h;rcases Nat.lt_trichotomy i j with q | q | q
 ·have := h2 i j hi hj q;rw [he] at this; exact absurd this (ltB_irr _)
 ·exact q
 ·have := h2 j i hj hi q;rw [he] at this; exact absurd this (ltB_irr _)
theorem levP_ord (l : List Vx) (ps : List B) (cnt : Bool) : OrdP (levP l ps cnt) := by
 unfold levP OrdP;rw [List.pairwise_map];exact keyL_asc l ps cnt
theorem tw_mem {p : Vx -> Bool} : ∀ {l : List Vx} {v : Vx}, v ∈ l.takeWhile p -> p v = true
 | [], v, h => by cases h
 | x :: l, v, h => by
  rw [List.takeWhile_cons] at h;split at h
  ·rename_i hx
   rcases List.mem_cons.1 h with rfl | h
   ·exact hx
   ·exact tw_mem h
  ·cases h
theorem tw_take (p : Vx -> Bool) (l : List Vx) : l.take (l.takeWhile p).length = l.takeWhile p := by
 have h3 := List.takeWhile_append_dropWhile (p := p) (l := l)
 conv => lhs; arg 2; rw [<- h3]
 exact List.take_left' rfl
theorem insV_ord {l : List Vx} (h : OrdP l) {x : Vx} (hx : ∀ v ∈ l, v.pol ≠ x.pol) : OrdP (insV l x) := by
 unfold insV
 have e1 : l.take (plc l x.pol) = l.takeWhile fun v => decide (v.pol < x.pol) := by
  unfold plc;exact tw_take _ _
 have hlt : ∀ v ∈ l.take (plc l x.pol), v.pol < x.pol := fun v hv => by
  rw [e1] at hv;exact of_decide_eq_true (tw_mem hv)
 have hp : (l.take (plc l x.pol) ++ l.drop (plc l x.pol)).Pairwise fun a b => a.pol < b.pol := by rw [List.take_append_drop]; exact h
 obtain ⟨a1, a2, a3⟩ := List.pairwise_append.1 hp
 have hge : ∀ v ∈ l.drop (plc l x.pol), x.pol < v.pol := by
  intro v hv
  have hd : ∀ y r, l.drop (plc l x.pol) = y :: r -> ¬ y.pol < x.pol := by
   intro y r hyr hlt'
   have h2 : l.dropWhile (fun v => decide (v.pol < x.pol)) = y :: r := by
    rw [<- hyr];unfold plc;have h3 := List.takeWhile_append_dropWhile (p := fun v : Vx => decide (v.pol < x.pol)) (l := l)
    conv => rhs; rw [<- h3]
    rw [List.drop_left' (by rw [h3])]
   have h4 := List.head_dropWhile_not (p := fun v : Vx => decide (v.pol < x.pol)) (l := l) (by rw [h2]; simp);simp only [h2, List.head_cons] at h4
   rw [zT hlt'] at h4
   cases h4
  cases hr : l.drop (plc l x.pol) with
  | nil => rw [hr] at hv; cases hv
  | cons y r =>
   have h1 := hd y r hr;have hy : y ∈ l := List.mem_of_mem_drop (by rw [hr]; simp);have h2 : x.pol < y.pol := ltB_or h1 (hx y hy);rw [hr] at hv a2;rcases List.mem_cons.1 hv with rfl | hv
   ·exact h2
   ·exact ltB_tr h2 ((List.pairwise_cons.1 a2).1 v hv)
 refine List.pairwise_append.2 ⟨a1, List.pairwise_cons.2 ⟨hge, a2⟩, fun a ha b hb => ?_⟩;rcases List.mem_cons.1 hb with rfl | hb
 ·exact hlt a ha
 ·exact a3 a ha b hb
theorem OrdP.set {l : List Vx} (h : OrdP l) (i : Nat) {x : Vx} (hx : i < l.length -> x.pol = (l[i]!).pol) : OrdP (l.set i x) := by
 refine List.pairwise_iff_getElem.2 fun a b ha hb hab => ?_
 have ha' : a < l.length := by simpa using ha
 have hb' : b < l.length := by simpa using hb
 have h2 := List.pairwise_iff_getElem.1 h a b ha' hb' hab
 have hat : ∀ (j : Nat) (hj : j < l.length), ((l.set i x)[j]'(by simpa using hj)).pol = (l[j]).pol := fun j hj => by
  rw [List.getElem_set];split
  ·rename_i e
   subst e;rw [hx hj, getElem!_pos l i hj]
  ·rfl
 rw [hat a ha', hat b hb']; exact h2
def SubL (l l' : List Vx) : Prop := l.length <= l'.length /\ ∀ v ∈ l, ∃ u ∈ l', v.pol = u.pol /\ v.ex = u.ex
theorem SubL.refl (l : List Vx) : SubL l l := ⟨zR _, fun v hv => ⟨v, hv, rfl, rfl⟩⟩
theorem SubL.trans {a b c : List Vx} (h : SubL a b) (h' : SubL b c) : SubL a c := ⟨Nat.le_trans h.1 h'.1, fun v hv => by
 obtain ⟨u, hu, e1, e2⟩ := h.2 v hv;obtain ⟨z, hz, e3, e4⟩ := h'.2 u hu
 exact ⟨z, hz, e1.trans e3, e2.trans e4⟩⟩
theorem filtG_sub {g : List (List Vx)} {k : Nat} (hk : k < g.length) (m : List Bool) (j : Nat) : SubL (filtG g k m)[j]! g[j]! := by
 rw [filtG_at hk j];split
 ·rename_i e
  subst e;exact ⟨keepT_le _ _, fun v hv => ⟨v, keepT_mem (zR _) hv, rfl, rfl⟩⟩
 ·split
  ·refine ⟨by rw [List.length_map]; exact zR _, fun v hv => ?_⟩;obtain ⟨u, hu, rfl⟩ := List.mem_map.1 hv;exact ⟨u, hu, rfl, rfl⟩
  ·exact SubL.refl _
theorem fwdG_sub (g : List (List Vx)) (j : Nat) : ∀ n, n < g.length \/ n = 0 -> SubL (fwdG g n)[j]! g[j]!
 | 0, _ => SubL.refl _
 | n + 1, hn => by
  rw [fwdG];exact (filtG_sub (by rw [fwdG_len]; omega) _ j).trans (fwdG_sub g j n (by omega))
theorem bwdG_sub (g : List (List Vx)) (j : Nat) : ∀ n, n < g.length \/ n = 0 -> SubL (bwdG g n)[j]! g[j]!
 | 0, _ => SubL.refl _
 | n + 1, hn => by
  rw [bwdG];exact (filtG_sub (by rw [bwdG_len]; omega) _ j).trans (bwdG_sub g j n (by omega))
theorem pruneG_sub (g : List (List Vx)) : pruneG g = [] \/ ((pruneG g).length = g.length /\ ∀ (j : Nat), SubL (pruneG g)[j]! g[j]!) := by
 rcases Nat.eq_zero_or_pos g.length with h0 | hl
 ·have : g = [] := List.length_eq_zero_iff.1 h0;subst this;exact .inl rfl
 unfold pruneG;simp only
 split
 ·exact .inl rfl
 ·right
  refine ⟨by rw [bwdG_len, fwdG_len], fun j => ?_⟩;exact (bwdG_sub _ j _ (by rw [fwdG_len]; omega)).trans (fwdG_sub g j _ (by omega))
theorem nodup_le : ∀ (l m : List B), l.Nodup -> (∀ x ∈ l, x ∈ m) -> l.length <= m.length
 | [], m, _, _ => by simp
 | x :: l, m, hn, hs => by
  rw [List.nodup_cons] at hn;have hx := hs x (by simp);have h1 := nodup_le l (m.erase x) hn.2 fun y hy => (List.mem_erase_of_ne (show y ≠ x from fun e => by subst e; exact hn.1 hy)).2 (hs y (List.mem_cons_of_mem _ hy))
  rw [List.length_erase_of_mem hx] at h1;have := List.length_pos_of_mem hx;rw [List.length_cons]; omega
attribute [local go_sem] Oper.semAt_some
def expK (l : List Vx) (p : B) (k : Nat) : List Int := ((List.range k).filter fun i => decide (p ∈ (l[i]!).ex)).map fun (i : Nat) => (i : Int)
def expL (l : List Vx) (p : B) : List Int := expK l p l.length
theorem expK_succ (l : List Vx) (p : B) (k : Nat) : expK l p (k + 1) = expK l p k ++ (if p ∈ (l[k]!).ex then [(k : Int)] else []) := by
 unfold expK;rw [List.range_succ, List.filter_append, List.map_append];congr 1
 by_cases h : p ∈ (l[k]!).ex
 ·rw [if_pos h, show List.filter (fun i => decide (p ∈ (l[i]!).ex)) [k] = [k] from by unfold List.filter; rw [zT h]; rfl]; rfl
 ·rw [if_neg h, show List.filter (fun i => decide (p ∈ (l[i]!).ex)) [k] = [] from by unfold List.filter; rw [zF h]; rfl]; rfl
theorem expK_len (l : List Vx) (p : B) (k : Nat) : (expK l p k).length <= k := by
 unfold expK;rw [List.length_map];exact Nat.le_trans (List.length_filter_le _ _) (by simp)
theorem src_int' (w : World) (y : Int) : SrcV (w.alloc (.cells #[.int .i64 y] 3)) 1 (.slice (some ⟨w.heap.size, 0, none⟩) 1 1) 1 ([y].flatMap encI) := src_new encI_ok (heap_alloc_new _ _)
theorem rexp_any (w : World) (v : Value) (l : List Vt) (h : VQ w v l) (hn : l.length <= 100000) (p : B) :
  Calls Tryz.prog 55 #[v, .string (bstr p)] w fun e w' => ∃ v', e = .returned v' /\ Slc.Own w' w.heap.size 3 1 encI v' (expL (vxs l) p) /\ Below w.heap.size w w' := by
 obtain ⟨i0, hi0, hz0, hz1, hz2⟩ := info_parts info_int;obtain ⟨ad, c, rfl, -⟩ := h.rd.form;have HC := Bx.mk h.at3;have HAT := Bx.mk h.at_;obtain ⟨N, hN⟩ : ∃ N, N = l.length := ⟨_, rfl⟩
 have HN := Bx.mk hN;rw [<- hN] at hn |-;clear h hN;go_enter Tryz.func55, Tryz.ntmps55;go_wp2_with fail
 go_loopw [5, 6] (fun ov i wr => ∃ (k : Nat) (out : List Int), k <= N /\ i = .int .i64 k /\ out.length <= k /\ Bx (out = expK (vxs l) p k) /\ Bx (Slc.Own wr w.heap.size 3 1 encI ov out) /\ Bx (Below w.heap.size w wr)) (fun _ i _ => N - (intOf i).toNat)
 case atStart => exact ⟨0, [], by omega, rfl, by simp, ⟨rfl⟩, ⟨Slc.Own.nil _ _⟩, ⟨Below.refl _ _⟩⟩
 case round =>
  obtain ⟨k, out, hk, rfl, hol, hF, hO, hBw⟩ := hrel;obtain ⟨oa, oc, rfl, -⟩ := hO.out.rd.form;by_cases hlt : k < N
  ·have hkl : k < l.length := by rw [<- HN.out]; exact hlt
   obtain ⟨b, o, rfl, hbl, -, c1, -⟩ := HC.out wr hBw.out k hkl;have HX := Bx.mk (show (vxs l)[k]! = (l[k]).n from vxs_at l k hkl);have hat := HAT.out _ (zM hkl);obtain ⟨x, hx⟩ : ∃ x, x = l[k] := ⟨_, rfl⟩
   rw [<- hx] at c1 HX hat;obtain ⟨ua, uc, hup, -⟩ := hat.1.form;have hin := in_q wr x.u.val x.n.ex p (hat.1.below hBw.out) (by have := hat.2.2.1.1; omega);rw [hup] at c1 hin;obtain ⟨UN, hUN⟩ : ∃ UN, UN = x.n.ex.length := ⟨_, rfl⟩
   rw [<- hUN] at c1 hin;obtain ⟨r, hr⟩ : ∃ r, r = decide (p ∈ x.n.ex) := ⟨_, rfl⟩
   rw [<- hr] at hin;have HR := Bx.mk hr;have HS := Bx.mk (expK_succ (vxs l) p k);rw [HX.out] at HS;obtain ⟨ON, hON⟩ : ∃ n, n = out.length := ⟨_, rfl⟩
   have HON := Bx.mk hON;rw [<- hON] at hol |-;clear hx hbl hat hup hr hUN hON hkl;go_wp2_with fail
   go_at_call 47;refine hin.mono ?_;rintro e w2 ⟨rfl, rfl⟩;clear hin c1
   cases r with
   | true =>
    have hp : p ∈ x.n.ex := (by have := HR.out; simpa using this.symm);have HF2 := Bx.mk (show out ++ [(k : Int)] = expK (vxs l) p (k + 1) by rw [HS.out, if_pos hp, <- hF.out]);have hw2 : Below wr.heap.size wr (wr.alloc (.cells #[.int .i64 (k : Int)] 3)) := (Below.refl _ _).alloc (zR _) _;have HO2 := Bx.mk (hO.out.below hw2);have HB2 := Bx.mk (hBw.out.trans (hw2.mono hBw.out.size));have HSRC := Bx.mk (src_int' wr (k : Int));have hm1 : ON + 1 <= maxLen := (by unfold maxLen; omega);have hm2 : (ON + 1) * 8 <= 140737488355328 := (by omega);have hbz : w.heap.size <= (wr.alloc (.cells #[.int .i64 (k : Int)] 3)).heap.size := HB2.out.size
    have HOA := Bx.mk (show World.ownsRow (wr.alloc (.cells #[.int .i64 (k : Int)] 3)) w.heap.size 3 1 (.slice oa ON oc) ON (out.flatMap encI) by
     have := HO2.out;unfold Slc.Own at this
     rw [<- HON.out] at this; exact this)
    clear hp hw2;go_wp2_with (at_builtin; refine wpList_append_any rfl _ _ _ rfl w.heap.size 3 i0 _ 1 8 und_ints hi0 hz0 hz1 hz2 rfl (by decide) _ ON (out.flatMap encI) rfl HOA.out _ 1 ([(k : Int)].flatMap encI) rfl HSRC.out hm1 hm2 hbz ?_)
    intro v9 w9 hapd
    have HO9 := Bx.mk (show Slc.Own w9 w.heap.size 3 1 encI v9 (out ++ [(k : Int)]) from by
     have h2 := HO2.out;rw [<- HON.out] at h2
     exact h2.apd (m := [(k : Int)]) rfl rfl HON.out rfl hapd)
    have HB9 := Bx.mk (HB2.out.grown hapd.grown HB2.out.size fun j hj => (HO2.out.lt j (by rw [<- HON.out]; exact hj)).1);have HL9 := Bx.mk (show (out ++ [(k : Int)]).length <= k + 1 by rw [List.length_append, <- HON.out]; simp; omega);clear hapd hm1 hm2 hbz;go_wp2_with fail
    go_roundw
    case rel => exact ⟨k + 1, _, by omega, by go_num, HL9.out, HF2, HO9, HB9⟩
    case measure => simp [intOf]; omega
   | false =>
    have hp : ¬ p ∈ x.n.ex := (by have := HR.out; simpa using this.symm);have HF2 := Bx.mk (show out = expK (vxs l) p (k + 1) by rw [HS.out, if_neg hp, <- hF.out, List.append_nil]);have HO2 := Bx.mk (show Slc.Own wr w.heap.size 3 1 encI (.slice oa ON oc) out by rw [HON.out]; exact hO.out);have HL2 := Bx.mk (show out.length <= k + 1 by rw [<- HON.out]; omega);clear hp;go_wp2_with fail
    go_roundw
    case rel => exact ⟨k + 1, out, by omega, by go_num, HL2.out, HF2, HO2, hBw⟩
    case measure => simp [intOf]; omega
  ·obtain rfl : N = k := by omega
   go_wp2_with fail
   go_ret
   exact ⟨_, rfl, by
    have := hO.out;have e : expL (vxs l) p = out := by unfold expL; rw [vxs_len, <- HN.out, hF.out]
    rw [e]; exact this, hBw.out⟩
end Go.Proofs.YtmagjdocondmhaaGreat.Tr.Gr
namespace Go.Proofs.YtmagjdocondmhaaGreat.Tr.Gr
open Go Go.RowKit Slc St Mp Tr Rg
theorem expK_exJ {l : List Vx} (h : LQ l) (p : B) : ∀ k, k <= l.length -> expK l p k = exJ l k p
 | 0, _ => by rw [exJ_zero]; simp [expK]
 | k + 1, hk => by rw [expK_succ, exJ_one h (by omega), expK_exJ h p k (by omega)]
theorem expL_exI {l : List Vx} (h : LQ l) (p : B) : expL l p = exI l p := expK_exJ h p l.length (zR _)
theorem ord_same {a b : List Vx} (ha : OrdP a) (hb : OrdP b) (h : ∀ v, v ∈ a ↔ v ∈ b) : a = b := by
 have irr : ∀ v : Vx, ¬ v.pol < v.pol := fun v => List.lt_irrefl _
 have asy : ∀ u v : Vx, u.pol < v.pol -> v.pol < u.pol -> False := fun u v h1 h2 => List.lt_irrefl _ (List.lt_trans h1 h2)
 induction a generalizing b with
 | nil =>
  cases b with
  | nil => rfl
  | cons y b => exact absurd ((h y).2 List.mem_cons_self) (by simp)
 | cons x a ih =>
  cases b with
  | nil => exact absurd ((h x).1 List.mem_cons_self) (by simp)
  | cons y b =>
   have hx := List.pairwise_cons.1 ha;have hy := List.pairwise_cons.1 hb
   have e : x = y := by
    rcases List.mem_cons.1 ((h x).1 List.mem_cons_self) with q | q
    ·exact q
    ·rcases List.mem_cons.1 ((h y).2 List.mem_cons_self) with r | r
     ·exact r.symm
     ·exact (asy _ _ (hx.1 y r) (hy.1 x q)).elim
   subst e;congr 1
   refine ih hx.2 hy.2 fun v => ⟨fun hv => ?_, fun hv => ?_⟩
   ·rcases List.mem_cons.1 ((h v).1 (List.mem_cons_of_mem _ hv)) with q | q
    ·subst q; exact absurd (hx.1 v hv) (irr v)
    ·exact q
   ·rcases List.mem_cons.1 ((h v).2 (List.mem_cons_of_mem _ hv)) with q | q
    ·subst q; exact absurd (hy.1 v hv) (irr v)
    ·exact q
theorem insV_iff {l : List Vx} {x v : Vx} : v ∈ insV l x ↔ v ∈ l \/ v = x := by
 refine ⟨insV_mem, fun h => ?_⟩;unfold insV;rw [List.mem_append, List.mem_cons];rcases h with h | h
 ·rw [<- List.take_append_drop (plc l x.pol) l, List.mem_append] at h;rcases h with q | q
  ·exact .inl q
  ·exact .inr (.inr q)
 ·exact .inr (.inl h)
def upF (l : List Vx) (p : B) : List Int := if expL l p = [] /\ 0 <= fndP l anyP then [fndP l anyP] else expL l p
def enS (l a : List Vx) (p : B) : List Vx := if p = anyP then a else if upF l p = [] then a else insV a ⟨p, [p], upF l p⟩
def enA (l : List Vx) (ps : List B) : List Vx := ps.foldl (enS l) []
theorem enA_snoc (l : List Vx) (ps : List B) (p : B) : enA l (ps ++ [p]) = enS l (enA l ps) p := by unfold enA; rw [List.foldl_append]; rfl
def enU (l a : List Vx) (p : B) : List Vx := if fndP a p < 0 then insV a ⟨p, [p], expL l p⟩ else a
def enB (l a : List Vx) (ps : List B) : List Vx := ps.foldl (enU l) a
theorem enB_snoc (l a : List Vx) (ps : List B) (p : B) : enB l a (ps ++ [p]) = enU l (enB l a ps) p := by unfold enB; rw [List.foldl_append]; rfl
def renL (l : List Vx) (ps : List B) (cnt : Bool) : List Vx := if cnt && decide (anyP ∈ setB ps) then enB l (enA l (setB ps)) (allJ l l.length) else enA l (setB ps)
theorem asc_snoc {ps : List B} {p : B} (h : Asc (ps ++ [p])) : Asc ps /\ ∀ q ∈ ps, q < p :=
 ⟨(List.pairwise_append.1 h).1, fun q hq => (List.pairwise_append.1 h).2.2 q hq p (by simp)⟩
theorem enA_good (l : List Vx) : ∀ (n : Nat) (ps : List B), ps.length = n -> Asc ps -> OrdP (enA l ps) /\ ∀ v, v ∈ enA l ps ↔ v.pol ∈ ps /\ v.pol ≠ anyP /\ upF l v.pol ≠ [] /\ v = ⟨v.pol, [v.pol], upF l v.pol⟩ := by
 intro n
 induction n with
 | zero =>
  intro ps hn _;rw [List.length_eq_zero_iff.1 hn];refine ⟨List.Pairwise.nil, fun v => ?_⟩
  simp [enA]
 | succ n ih =>
  intro ps hn ha;obtain ⟨qs, p, rfl⟩ : ∃ qs p, ps = qs ++ [p] := ⟨ps.dropLast, ps.getLast (by intro e; rw [e] at hn; simp at hn), (List.dropLast_concat_getLast _).symm⟩
  rw [List.length_append, List.length_singleton] at hn;obtain ⟨ha1, ha2⟩ := asc_snoc ha;obtain ⟨ho, hm⟩ := ih qs (by omega) ha1;rw [enA_snoc];unfold enS;by_cases e : p = anyP
  ·rw [if_pos e];refine ⟨ho, fun v => (hm v).trans ⟨fun h => ⟨List.mem_append_left _ h.1, h.2⟩, fun h => ⟨?_, h.2⟩⟩⟩;rcases List.mem_append.1 h.1 with q | q
   ·exact q
   ·rw [zS] at q; exact absurd (q.trans e) h.2.1
  ·rw [if_neg e];by_cases u : upF l p = []
   ·rw [if_pos u];refine ⟨ho, fun v => (hm v).trans ⟨fun h => ⟨List.mem_append_left _ h.1, h.2⟩, fun h => ⟨?_, h.2⟩⟩⟩;rcases List.mem_append.1 h.1 with q | q
    ·exact q
    ·rw [zS] at q; exact absurd (q ▸ u) h.2.2.1
   ·rw [if_neg u];refine ⟨insV_ord ho fun v hv => ?_, fun v => ?_⟩
    ·intro q;have h1 := ha2 v.pol ((hm v).1 hv).1;rw [q] at h1;exact List.lt_irrefl _ h1
    ·rw [insV_iff, hm v, List.mem_append, zS];constructor
     ·rintro (h | rfl)
      ·exact ⟨.inl h.1, h.2⟩
      ·exact ⟨.inr rfl, e, u, rfl⟩
     ·rintro ⟨h1 | h1, h2, h3, h4⟩
      ·exact .inl ⟨h1, h2, h3, h4⟩
      ·right; rw [h4, h1]
theorem fndP_neg {a : List Vx} {p : B} (h : fndP a p < 0) : ∀ v ∈ a, v.pol ≠ p := fun v hv e => by
 have := fndP_has hv e; omega
theorem enU_ord {l a : List Vx} (h : OrdP a) (p : B) : OrdP (enU l a p) := by
 unfold enU;split
 ·rename_i hf; exact insV_ord h fun v hv => fndP_neg hf v hv
 ·exact h
theorem enB_good (l : List Vx) : ∀ (n : Nat) (ps : List B) (a : List Vx), ps.length = n -> OrdP a -> OrdP (enB l a ps) /\ ∀ v, v ∈ enB l a ps ↔ v ∈ a \/ ((∀ u ∈ a, u.pol ≠ v.pol) /\ v.pol ∈ ps /\ v = ⟨v.pol, [v.pol], expL l v.pol⟩) := by
 intro n
 induction n with
 | zero =>
  intro ps a hn ho;rw [List.length_eq_zero_iff.1 hn]
  exact ⟨ho, fun v => by simp [enB]⟩
 | succ n ih =>
  intro ps a hn ho;obtain ⟨qs, p, rfl⟩ : ∃ qs p, ps = qs ++ [p] := ⟨ps.dropLast, ps.getLast (by intro e; rw [e] at hn; simp at hn), (List.dropLast_concat_getLast _).symm⟩
  rw [List.length_append, List.length_singleton] at hn;obtain ⟨ho1, hm⟩ := ih qs a (by omega) ho;rw [enB_snoc];refine ⟨enU_ord ho1 p, fun v => ?_⟩;unfold enU;by_cases hf : fndP (enB l a qs) p < 0
  ·rw [if_pos hf, insV_iff, hm v, List.mem_append, zS];constructor
   ·rintro ((h | ⟨h1, h2, h3⟩) | rfl)
    ·exact .inl h
    ·exact .inr ⟨h1, .inl h2, h3⟩
    ·exact .inr ⟨fun u hu => fndP_neg hf u ((hm u).2 (.inl hu)), .inr rfl, rfl⟩
   ·rintro (h | ⟨h1, h2 | h2, h3⟩)
    ·exact .inl (.inl h)
    ·exact .inl (.inr ⟨h1, h2, h3⟩)
    ·right; rw [h3, h2]
  ·rw [if_neg hf, hm v, List.mem_append, zS];constructor
   ·rintro (h | ⟨h1, h2, h3⟩)
    ·exact .inl h
    ·exact .inr ⟨h1, .inl h2, h3⟩
   ·rintro (h | ⟨h1, h2 | h2, h3⟩)
    ·exact .inl h
    ·exact .inr ⟨h1, h2, h3⟩
    ·obtain ⟨k, hk, -, hp, -⟩ := fndP_some (show 0 <= fndP (enB l a qs) p by omega);have hu : (enB l a qs)[k]! ∈ enB l a qs := (by rw [getElem!_pos _ k hk]; exact zM hk);rcases (hm _).1 hu with q | ⟨q1, q2, q3⟩
     ·exact absurd (hp.trans h2.symm) (h1 _ q)
     ·right
      refine ⟨h1, ?_, h3⟩;rw [hp] at q2; rw [h2]; exact q2
theorem renL_eq {l : List Vx} (h : LQ l) (ps : List B) (cnt : Bool) : renL l ps cnt = levP l ps cnt := by
 have hA := enA_good l _ (setB ps) rfl (setB_asc ps)
 have hlev : ∀ v, v ∈ levP l ps cnt ↔ parF l ps cnt v.pol ≠ [] /\ v = ⟨v.pol, [v.pol], parF l ps cnt v.pol⟩ := by
  intro v;unfold levP;rw [List.mem_map];constructor
  ·rintro ⟨p, hp, rfl⟩;exact ⟨(keyL_mem _ _ _ _).1 hp, rfl⟩
  ·rintro ⟨h1, h2⟩;exact ⟨v.pol, (keyL_mem _ _ _ _).2 h1, h2.symm⟩
 have hup : ∀ p, upF l p = if exI l p ≠ [] then exI l p else if 0 <= fndP l anyP then [fndP l anyP] else [] := by
  intro p;unfold upF;rw [expL_exI h];by_cases e : exI l p = []
  ·simp [e]
  ·simp [e]
 unfold renL;by_cases hc : (cnt && decide (anyP ∈ setB ps)) = true
 ·rw [if_pos hc];have hc' : (cnt && decide (anyP ∈ ps)) = true := by rw [<- hc]; congr 1; exact decide_eq_decide.2 setB_mem.symm
  have hB := enB_good l _ (allJ l l.length) _ rfl hA.1
  have hpF : ∀ p, parF l ps cnt p = if exI l p ≠ [] then exI l p else if p ∈ ps /\ p ≠ anyP then upF l p else [] := by
   intro p;unfold parF;rw [hc', hup p];by_cases e : exI l p = []
   ·simp [e]
   ·simp [e]
  refine ord_same hB.1 (levP_ord l ps cnt) fun v => ?_
  rw [hB.2, hlev, hA.2, hpF];constructor
  ·rintro (⟨h1, h2, h3, h4⟩ | ⟨h1, h2, h3⟩)
   ·by_cases e : exI l v.pol = []
    ·rw [if_neg (by simpa using e), if_pos ⟨setB_mem.1 h1, h2⟩]; exact ⟨h3, h4⟩
    ·rw [if_pos e];refine ⟨e, ?_⟩;have := hup v.pol;rw [if_pos e] at this;rw [<- this]; exact h4
   ·have e := (exJ_mem l l.length v.pol).2 h2;rw [if_pos (show exI l v.pol ≠ [] from e)];refine ⟨e, ?_⟩;rw [<- expL_exI h]; exact h3
  ·intro hv;by_cases e : exI l v.pol = []
   ·rw [if_neg (by simpa using e)] at hv;by_cases q : v.pol ∈ ps /\ v.pol ≠ anyP
    ·rw [if_pos q] at hv;exact .inl ⟨setB_mem.2 q.1, q.2, hv.1, hv.2⟩
    ·rw [if_neg q] at hv; exact absurd rfl hv.1
   ·rw [if_pos e] at hv;by_cases q : v.pol ∈ ps /\ v.pol ≠ anyP
    ·left
     have h1 := hup v.pol;rw [if_pos e] at h1;refine ⟨setB_mem.2 q.1, q.2, by rw [h1]; exact e, by rw [h1]; exact hv.2⟩
    ·right
     refine ⟨fun u hu hp => ?_, (exJ_mem l l.length v.pol).1 e, by rw [expL_exI h]; exact hv.2⟩;have h1 := (hA.2 u).1 hu;rw [hp] at h1;exact q ⟨setB_mem.1 h1.1, h1.2.1⟩
 ·rw [if_neg hc]
  have hc' : (cnt && decide (anyP ∈ ps)) = false := by
   rw [Bool.eq_false_iff];intro h1;apply hc
   rw [<- h1]; congr 1; exact decide_eq_decide.2 setB_mem
  have hpF : ∀ p, parF l ps cnt p = if p ∈ ps /\ p ≠ anyP then upF l p else [] := by
   intro p;unfold parF;rw [hc', hup p];simp
  refine ord_same hA.1 (levP_ord l ps cnt) fun v => ?_
  rw [hlev, hA.2, hpF];constructor
  ·rintro ⟨h1, h2, h3, h4⟩;rw [if_pos ⟨setB_mem.1 h1, h2⟩]; exact ⟨h3, h4⟩
  ·intro hv;by_cases q : v.pol ∈ ps /\ v.pol ≠ anyP
   ·rw [if_pos q] at hv;exact ⟨setB_mem.2 q.1, q.2, hv.1, hv.2⟩
   ·rw [if_neg q] at hv; exact absurd rfl hv.1
theorem fndP_iff {l : List Vx} {p : B} : 0 <= fndP l p ↔ ∃ v ∈ l, v.pol = p := by
 constructor
 ·intro h;obtain ⟨k, hk, -, hp, -⟩ := fndP_some h;exact ⟨l[k]!, by rw [getElem!_pos l k hk]; exact zM hk, hp⟩
 ·rintro ⟨v, hv, hp⟩;exact fndP_has hv hp
theorem fndP_at {l : List Vx} (ho : OrdP l) {k : Nat} (hk : k < l.length) : fndP l (l[k]!).pol = (k : Int) := by
 have h : 0 <= fndP l (l[k]!).pol := fndP_has (show l[k]! ∈ l by rw [getElem!_pos l k hk]; exact zM hk) rfl;obtain ⟨j, hj, he, hp, -⟩ := fndP_some h;rw [he, ord_one ho hj hk hp]
theorem delL_iff {l : List Vx} (ho : OrdP l) {k : Nat} (hk : k < l.length) {v : Vx} : v ∈ delL l k ↔ v ∈ l /\ v.pol ≠ (l[k]!).pol := by
 unfold delL;rw [List.mem_append];constructor
 ·rintro (h | h)
  ·obtain ⟨j, hj, rfl⟩ := List.getElem_of_mem h;rw [List.length_take] at hj;have hjl : j < l.length := by omega
   rw [List.getElem_take];refine ⟨zM _, fun e => ?_⟩;have := ord_one ho hjl hk (by rw [getElem!_pos l j hjl]; exact e);omega
  ·obtain ⟨j, hj, rfl⟩ := List.getElem_of_mem h;rw [List.length_drop] at hj;rw [List.getElem_drop];refine ⟨zM _, fun e => ?_⟩;have hjl : k + 1 + j < l.length := by omega
   have := ord_one ho hjl hk (by rw [getElem!_pos l _ hjl]; exact e);omega
 ·rintro ⟨h, hne⟩;obtain ⟨j, hj, rfl⟩ := List.getElem_of_mem h;have hjk : j ≠ k := fun e => by subst e; rw [getElem!_pos l j hj] at hne; exact hne rfl
  rcases Nat.lt_or_ge j k with q | q
  ·left; exact List.mem_take_iff_getElem.2 ⟨j, by omega, rfl⟩
  ·right
   refine List.mem_drop_iff_getElem.2 ⟨j - (k + 1), by omega, ?_⟩;congr 1; omega
theorem delL_ord {l : List Vx} (ho : OrdP l) (k : Nat) : OrdP (delL l k) := by
 unfold delL;refine ho.sublist ?_
 conv => rhs; rw [<- List.take_append_drop k l]
 exact List.Sublist.append (List.Sublist.refl _) (by rw [<- List.drop_drop]; exact List.drop_sublist _ _)
theorem delL_filt {l : List Vx} (ho : OrdP l) {p : B} (h : 0 <= fndP l p) : delL l (fndP l p).toNat = l.filter fun v => !decide (v.pol = p) := by
 obtain ⟨k, hk, he, hp, -⟩ := fndP_some h;rw [he, Int.toNat_natCast];refine ord_same (delL_ord ho k) (ho.filter _) fun v => ?_
 rw [delL_iff ho hk, List.mem_filter, hp];simp
theorem filt_no {l : List Vx} {p : B} (h : fndP l p < 0) : (l.filter fun v => !decide (v.pol = p)) = l := by
 rw [List.filter_eq_self];intro v hv;simp [fndP_neg h v hv]
def rmS (ms : List (B × B)) (ok : Bool) (above : Int) (l : List Vx) (p : B) : List Vx :=
 if 0 <= fndP l p then (if ok then l.set (fndP l p).toNat ⟨(l[(fndP l p).toNat]!).pol, subL ms p, (l[(fndP l p).toNat]!).par⟩ else delL l (fndP l p).toNat)
 else if ok && decide (0 <= fndP l anyP) then insV l ⟨p, subL ms p, [above]⟩ else l
def rmL (ms : List (B × B)) (ok : Bool) (above : Int) (l : List Vx) (ks : List B) : List Vx := ks.foldl (rmS ms ok above) l
theorem rmL_snoc (ms : List (B × B)) (ok : Bool) (above : Int) (l : List Vx) (ks : List B) (p : B) : rmL ms ok above l (ks ++ [p]) = rmS ms ok above (rmL ms ok above l ks) p := by
 unfold rmL; rw [List.foldl_append]; rfl
theorem rmS_ord {ms : List (B × B)} {ok : Bool} {above : Int} {l : List Vx} (h : OrdP l) (p : B) : OrdP (rmS ms ok above l p) := by
 unfold rmS;split
 ·split
  ·exact h.set _ fun _ => rfl
  ·exact delL_ord h _
 ·rename_i h0
  split
  ·exact insV_ord h fun v hv => fndP_neg (show fndP l p < 0 by omega) v hv
  ·exact h
theorem rmL_ord {ms : List (B × B)} {ok : Bool} {above : Int} : ∀ (ks : List B) {l : List Vx}, OrdP l -> OrdP (rmL ms ok above l ks)
 | [], _, h => h
 | p :: ks, _, h => rmL_ord ks (rmS_ord h p)
theorem set_pols {l : List Vx} {k : Nat} (hk : k < l.length) {x : Vx} (hx : x.pol = (l[k]!).pol) : (l.set k x).map (·.pol) = l.map (·.pol) := by
 apply List.ext_getElem
 ·simp
 ·intro j h1 h2;simp only [List.getElem_map, List.getElem_set]
  split
  ·rename_i e; subst e; rw [hx, getElem!_pos l k hk]
  ·rfl
theorem fndP_pols {a b : List Vx} (h : a.map (·.pol) = b.map (·.pol)) (p : B) : fndP a p = fndP b p := by
 have hl : a.length = b.length := by have := congrArg List.length h; simpa using this
 have hat : ∀ j, j < a.length -> (a[j]!).pol = (b[j]!).pol := fun j hj => by
  have h1 : (a.map (·.pol))[j]'(by simpa using hj) = (b.map (·.pol))[j]'(by rw [<- h]; simpa using hj) := by congr 1
  rw [getElem!_pos a j hj, getElem!_pos b j (by omega)];simpa using h1
 rcases Int.lt_or_le (fndP a p) 0 with q | q
 ·have h1 := fndP_none q;have e1 : fndP a p = -1 := idxG_no fun j hj => zF (h1 j hj)
  have e2 : fndP b p = -1 := idxG_no fun j hj => zF (by rw [<- hat j (by omega)]; exact h1 j (by omega))
  rw [e1, e2]
 ·obtain ⟨k, hk, he, hp, hn⟩ := fndP_some q;rw [he];exact (idxG_eq (t := b) (f := fun n => decide (n.pol = p)) (k := k) (by omega) (zT (by rw [<- hat k hk]; exact hp)) fun j hj => zF (by rw [<- hat j (by omega)]; exact hn j hj)).symm
theorem mapS_any {ms : List (B × B)} {star above : Int} {l : List Vx} {p : B} (hp : p ≠ anyP) : 0 <= fndP (mapS ms star above l p) anyP ↔ 0 <= fndP l anyP := by
 unfold mapS;split
 ·rename_i h0
  obtain ⟨k, hk, he, -, -⟩ := fndP_some h0;rw [he, Int.toNat_natCast];rw [fndP_pols (set_pols hk (x := ⟨(l[k]!).pol, subL ms p, (l[k]!).par⟩) rfl) anyP]
 ·split
  ·rw [fndP_iff, fndP_iff];constructor
   ·rintro ⟨v, hv, hq⟩;rcases insV_mem hv with q | rfl
    ·exact ⟨v, q, hq⟩
    ·exact absurd hq hp
   ·rintro ⟨v, hv, hq⟩;exact ⟨v, insV_iff.2 (.inl hv), hq⟩
  ·exact Iff.rfl
theorem rmL_map {ms : List (B × B)} {star above : Int} : ∀ (ks : List B) {l : List Vx}, anyP ∉ ks -> (0 <= star ↔ 0 <= fndP l anyP) -> rmL ms true above l ks = mapL ms star above l ks
 | [], l, _, _ => rfl
 | p :: ks, l, hk, hs => by
  have e : rmS ms true above l p = mapS ms star above l p := by
   unfold rmS mapS;by_cases h0 : 0 <= fndP l p
   ·rw [if_pos h0, if_pos h0]; rfl
   ·rw [if_neg h0, if_neg h0, Bool.true_and];by_cases h1 : 0 <= star
    ·rw [if_pos h1, if_pos (zT (hs.1 h1))]
    ·rw [if_neg h1, if_neg (by rw [decide_eq_true_eq]; exact fun q => h1 (hs.2 q))]
  have hp : p ≠ anyP := fun e => hk (e ▸ List.mem_cons_self)
  show rmL ms true above (rmS ms true above l p) ks = mapL ms star above (mapS ms star above l p) ks
  rw [e];exact rmL_map ks (fun h => hk (List.mem_cons_of_mem _ h)) (hs.trans (mapS_any hp).symm)
theorem rmL_del {ms : List (B × B)} {above : Int} : ∀ (ks : List B) {l : List Vx}, OrdP l -> rmL ms false above l ks = l.filter fun v => !decide (v.pol ∈ ks)
 | [], l, _ => by
  show l = _
  rw [eq_comm, List.filter_eq_self]
  intro v hv; simp
 | p :: ks, l, ho => by
  have e : rmS ms false above l p = l.filter fun v => !decide (v.pol = p) := by
   unfold rmS;by_cases h0 : 0 <= fndP l p
   ·rw [if_pos h0]; exact delL_filt ho h0
   ·rw [if_neg h0, filt_no (by omega)]; rfl
  show rmL ms false above (rmS ms false above l p) ks = _
  rw [e, rmL_del ks (ho.filter _), List.filter_filter];congr 1
  funext v
  by_cases h1 : v.pol = p <;> by_cases h2 : v.pol ∈ ks <;> simp [h1, h2]
theorem rmL_eq {g : List (List Vx)} (h : gvalidB g = true) (hg : 2 <= g.length) (ms : List (B × B)) (ok : Bool) : rmL ms ok (fndP g[g.length - 2]! anyP) g[g.length - 1]! (srcL ms) = gmapL g ms ok := by
 unfold gmapL
 cases ok with
 | true => rw [if_pos rfl]; exact rmL_map _ (srcL_any ms) Iff.rfl
 | false =>
  rw [if_neg (by simp)];exact rmL_del _ ((valid_pv h).ord _)
theorem rmL_take {ms : List (B × B)} {ok : Bool} {above : Int} {l : List Vx} {ks : List B} {i : Nat} (hi : i < ks.length) : rmL ms ok above l (ks.take (i + 1)) = rmS ms ok above (rmL ms ok above l (ks.take i)) ks[i] := by
 rw [zA hi, rmL_snoc]
theorem enA_take {l : List Vx} {ks : List B} {i : Nat} (hi : i < ks.length) : enA l (ks.take (i + 1)) = enS l (enA l (ks.take i)) ks[i] := by
 rw [zA hi, enA_snoc]
theorem rmS_len (ms : List (B × B)) (ok : Bool) (above : Int) (l : List Vx) (p : B) : (rmS ms ok above l p).length <= l.length + 1 := by
 unfold rmS;split
 ·split
  ·rw [zL]; omega
  ·exact Nat.le_trans (delL_len _ _) (by omega)
 ·split
  ·rw [insV_len]; omega
  ·omega
theorem rmL_len (ms : List (B × B)) (ok : Bool) (above : Int) : ∀ (ks : List B) (l : List Vx), (rmL ms ok above l ks).length <= l.length + ks.length
 | [], l => by simp [rmL]
 | p :: ks, l => by
  have h1 := rmL_len ms ok above ks (rmS ms ok above l p);have h2 := rmS_len ms ok above l p
  show (rmL ms ok above (rmS ms ok above l p) ks).length <= _
  rw [List.length_cons]; omega
end Go.Proofs.YtmagjdocondmhaaGreat.Tr.Gr
