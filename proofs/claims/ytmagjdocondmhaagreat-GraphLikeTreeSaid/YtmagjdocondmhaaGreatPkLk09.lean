/- packed -/
import Derived.Test.YtmagjdocondmhaaGreatPkLk08
import Derived.Deep.CutBlock
import Derived.Deep.DeepCutAuto
import Derived.Deep.QuietTactic
set_option linter.unusedVariables false
set_option linter.unusedSimpArgs false
set_option maxRecDepth 100000
set_option maxHeartbeats 64000000
namespace Go.Proofs.YtmagjdocondmhaaGreat.Tr
open Go Go.RowKit Slc St Mp
attribute [local go_sem] Oper.semAt_some
theorem u_str : Tryz.prog.underlying 9 = some .string := Tryz.underlying9
theorem u_mapSB : Tryz.prog.underlying 98 = some (.map 9 4) := Tryz.underlying98
noncomputable abbrev kS : Ky Tryz.prog 9 (List UInt8) := kyStr u_str
theorem src_str (w : World) (x : B) : SrcV (w.alloc (.cells #[.string (bstr x)] 9)) 1 (.slice (some ⟨w.heap.size, 0, none⟩) 1 1) 1 ([x].flatMap encS) := by
 refine .ro _ _ _ _ (by simp [encS]) (fun j u hj => ?_) (fun u hu => ?_)
 ·rw [add_at];have e : ([x].flatMap encS) = [.string (bstr x)] := by simp [encS]
  rw [e] at hj;unfold World.cell?;rw [heap_alloc_new];simp only [Nat.zero_add]
  simpa using hj
 ·rw [List.mem_flatMap] at hu;obtain ⟨y, -, hy⟩ := hu;exact encS_ok.one y u hy
structure GS (W : World) (Bk : Nat) (wr : World) (v : Value) (l : List B) : Prop where
 own : Slc.Own wr Bk 9 1 encS v l
 bel : Below Bk W wr
 le : Bk <= W.heap.size
theorem GS.nil (W : World) (Bk : Nat) (h : Bk <= W.heap.size) : GS W Bk W (.slice none 0 0) [] := ⟨Slc.Own.nil _ _, Below.refl _ _, h⟩
theorem GS.sz {W wr : World} {Bk : Nat} {v : Value} {l : List B} (h : GS W Bk wr v l) : Bk <= wr.heap.size := Nat.le_trans h.le h.bel.size
theorem GS.below {W wr w1 : World} {Bk : Nat} {v : Value} {l : List B} (h : GS W Bk wr v l) (hb : Below wr.heap.size wr w1) : GS W Bk w1 v l := ⟨h.own.below hb, h.bel.trans (hb.mono h.sz), h.le⟩
theorem GS.form {W wr : World} {Bk : Nat} {v : Value} {l : List B} (h : GS W Bk wr v l) : ∃ ad c, v = .slice ad l.length c /\ l.length <= c := h.own.rd.form
theorem GS.apd {W wr w' : World} {Bk : Nat} {v v' : Value} {l m : List B} (h : GS W Bk wr v l) (h' : Apd wr Bk 9 1 v l.length m.length (l.flatMap encS) (m.flatMap encS) v' w') : GS W Bk w' v' (l ++ m) :=
 ⟨h.own.apd rfl rfl rfl rfl h', h.bel.grown h'.grown h.sz fun k hk => (h.own.lt k hk).1, h.le⟩
def wantF (f : B -> Option Bool) (n : Nd) (p : B) : Bool := decide (p ≠ anyP) && (decide (p ∈ n.ex) || (!((f p).getD false) && spec n))
theorem children_any (w : World) (x : Nt) (pv : Value) (pol : List B) (b q : Nat) (f : B -> Option Bool) (all : Bool) (hx : NtAt w x) (hp : Rd w encS pv pol) (hpl : pol.length <= 100000) (hpx : ∀ p ∈ pol, p.length <= 1000000) (hm : OwnF w kS rdB edB b q f) :
  Calls Tryz.prog 82 #[nodV x, pv, .map (some b), .bool all] w fun e w' => ∃ v', e = .returned v' /\ Slc.Own w' w.heap.size 9 1 encS v' (setB (pol.filter (wantF f x.n) ++ if all then x.n.ex else [])) /\ Below w.heap.size w w' := by
 obtain ⟨i0, hi0, hz0, hz1, hz2⟩ := info_parts info_str;obtain ⟨pa, pc, rfl, -⟩ := hp.form;have HPC := Bx.mk (strs_cells hp).2;have HPX := Bx.mk hpx;have HX := Bx.mk hx;have HMM := Bx.mk hm;obtain ⟨N, hN⟩ : ∃ N, N = pol.length := ⟨_, rfl⟩
 have HN := Bx.mk hN;rw [<- hN] at hpl |-;clear hN hp hpx hx hm;unfold nodV;simp only [Sl.val]
 obtain ⟨q0, hq0⟩ : ∃ q0, q0 = w.heap.size := ⟨_, rfl⟩
 have HQ0 := Bx.mk hq0;obtain ⟨W0, hW0⟩ : ∃ W0, W0 = w.alloc (.cells #[.int .i64 x.n.d, .int .i64 x.n.p, .string (bstr x.n.pol), .slice x.u.ad x.u.n x.u.c] 111) := ⟨_, rfl⟩
 have HR0 := Bx.mk (show W0.heap[q0]? = some (.cells #[.int .i64 x.n.d, .int .i64 x.n.p, .string (bstr x.n.pol), .slice x.u.ad x.u.n x.u.c] 111 (0, 0)) by rw [hW0, hq0]; exact heap_alloc_new _ _);have HB0 := Bx.mk (show Below w.heap.size w W0 by rw [hW0]; exact (Below.refl _ _).alloc (zR _) _);have HS0 := Bx.mk (show W0.heap.size = q0 + 1 by rw [hW0, hq0]; simp);go_enter Tryz.func82, Tryz.ntmps82;go_upto_region 1 with fail
 rw [<- hW0, <- hq0];clear hW0 hq0;go_wp2_with fail
 go_loopw [9, 14] (fun ov i wr => ∃ (k : Nat) (out : List B), k <= N /\ i = .int .i64 k /\ out.length <= k /\ Bx (GS W0 (q0 + 1) wr ov out) /\ Bx (out = (pol.take k).filter (wantF f x.n))) (fun _ i _ => N - (intOf i).toNat)
 case atStart => exact ⟨0, [], by omega, rfl, by simp, ⟨GS.nil _ _ (by have := HS0.out; omega)⟩, ⟨by simp⟩⟩
 case round =>
  obtain ⟨k, out, hk, rfl, hlen, hG, hF⟩ := hrel;obtain ⟨av, cv, rfl, -⟩ := hG.out.form;have hb0 : Below w.heap.size w wr := HB0.out.trans (hG.out.bel.mono (by have := HQ0.out; omega));have HBW := Bx.mk hb0;have HR1 := Bx.mk ((hG.out.bel.block q0 (by omega)).trans HR0.out);by_cases hlt : k < N
  ·have hkl : k < pol.length := by rw [<- HN.out]; exact hlt
   obtain ⟨bp, op, rfl, hbl, c0⟩ := HPC.out wr hb0 k hkl
   have HTK := Bx.mk (show (pol.take (k + 1)).filter (wantF f x.n) = (pol.take k).filter (wantF f x.n) ++ if wantF f x.n pol[k] then [pol[k]] else [] by
    rw [zA hkl, List.filter_append]
    cases h : wantF f x.n pol[k] <;> simp [List.filter_cons, h])
   have hpk := HPX.out pol[k] (zM hkl);obtain ⟨p, hpp⟩ : ∃ p, p = pol[k] := ⟨_, rfl⟩
   rw [<- hpp] at c0 HTK hpk;clear hpp hkl hbl hb0;go_upto_region 5 with fail
   obtain ⟨R, hR⟩ : ∃ R, R = wantF f x.n p := ⟨_, rfl⟩
   have HRR := Bx.mk hR;rw [<- hR] at HTK;clear hR;go_cut [35] (fun c wx => c = .bool R /\ Below wr.heap.size wr wx)
   case first =>
    have hs := same_any p;have r0 := HR1.out;have m0 := cell_of_row _ _ 0 _ _ _ r0;have m1 := cell_of_row _ _ 1 _ _ _ r0;have m2 := cell_of_row _ _ 2 _ _ _ r0;have m3 := cell_of_row _ _ 3 _ _ _ r0;simp only [List.getElem?_toArray, List.getElem?_cons_zero, List.getElem?_cons_succ] at m0 m1 m2 m3
    have hct := contains_any wr x.u.val x.n.ex p (HX.out.1.below HBW.out) (by have := HX.out.2.1.1; omega);have hsp := special_any x wr;have hlk := ((HMM.out.below HBW.out).lookS u_mapSB Value.bool false (Tryz.zeroValue4 _) rdB_mk rdB_inv (k := p) (by unfold maxLen; omega)).1;have hRw := HRR.out;unfold wantF at hRw;unfold nodV at hsp;simp only [Sl.val] at hsp hct
    obtain ⟨tp, htp⟩ : ∃ t, t = decide (p = anyP) := ⟨_, rfl⟩
    obtain ⟨te, hte⟩ : ∃ t, t = decide (p ∈ x.n.ex) := ⟨_, rfl⟩
    obtain ⟨tf, htf⟩ : ∃ t, t = (f p).getD false := ⟨_, rfl⟩
    obtain ⟨ts, hts⟩ : ∃ t, t = spec x.n := ⟨_, rfl⟩
    rw [show decide (p ≠ anyP) = !tp by rw [htp]; exact decide_not, <- hte, <- htf, <- hts] at hRw;rw [<- htp] at hs;rw [<- hte] at hct;rw [<- htf] at hlk;rw [<- hts] at hsp;have HH := Bx.mk hRw;clear hRw htp hte htf hts r0 HRR;have hlk' : (Instr.lookup 98 (.map (some b)) (.string (bstr p)) false).run Tryz.prog wr = .ok (.bool tf) wr := hlk;clear hlk;generalize bstr p = PS at *
    cases tp with
    | true =>
     go_wp2_with fail
     go_meet
     exact ⟨by rw [HH.out]; rfl, Below.refl _ _⟩
    | false =>
     cases te with
     | true =>
      clear hsp hlk';go_wp2_with fail
      go_at_call 48;refine hct.mono ?_;rintro e w2 ⟨rfl, rfl⟩;go_wp2_with fail
      go_meet
      exact ⟨by rw [HH.out]; rfl, Below.refl _ _⟩
     | false =>
      cases tf with
      | true =>
       clear hsp;go_wp2_with fail
       go_at_call 48;refine hct.mono ?_;rintro e w2 ⟨rfl, rfl⟩;go_wp2_with fail
       go_meet
       exact ⟨by rw [HH.out]; rfl, Below.refl _ _⟩
      | false =>
       go_wp2_with fail
       go_at_call 48;refine hct.mono ?_;rintro e w2 ⟨rfl, rfl⟩;clear hct;go_wp2_with fail
       go_at_call 85;refine hsp.mono ?_;rintro e w2 ⟨rfl, hb2⟩;go_wp2_with fail
       go_meet;exact ⟨by rw [HH.out]; cases ts <;> rfl, hb2⟩
   case rest =>
   obtain ⟨rfl, hbW⟩ := hcut;have HG2 := Bx.mk (hG.out.below hbW);clear c0 hbW
   cases R with
   | true =>
    have HSRC := Bx.mk (src_str wc p);have HOWN := Bx.mk (show Slc.Own (wc.alloc (.cells #[.string (bstr p)] 9)) (q0 + 1) 9 1 encS (.slice av out.length cv) out from HG2.out.own.below ((Below.refl _ _).alloc (zR _) _));have HG3 := Bx.mk (HG2.out.below (show Below wc.heap.size wc (wc.alloc (.cells #[.string (bstr p)] 9)) from (Below.refl _ _).alloc (zR _) _));have hm1 : out.length + 1 <= maxLen := (by unfold maxLen; omega);have hm2 : (out.length + 1) * 16 <= 140737488355328 := (by omega);have hbz : q0 + 1 <= (wc.alloc (.cells #[.string (bstr p)] 9)).heap.size := HG3.out.sz;go_wp2_with (at_builtin; refine wpList_append_any rfl _ _ _ rfl (q0 + 1) 9 i0 _ 1 16 und_strs hi0 hz0 hz1 hz2 rfl (by decide) _ out.length (out.flatMap encS) rfl HOWN.out _ 1 ([p].flatMap encS) rfl HSRC.out hm1 hm2 hbz ?_)
    intro v9 w9 hapd;have HG9 := Bx.mk (HG3.out.apd (m := [p]) hapd);have HF9 := Bx.mk (show out ++ [p] = (pol.take (k + 1)).filter (wantF f x.n) by rw [HTK.out, hF.out]; rfl);clear hapd hm1 hm2 hbz;go_wp2_with fail
    go_roundw
    case rel => exact ⟨k + 1, out ++ [p], by omega, by go_num, by simp; omega, HG9, HF9⟩
    case measure => simp [intOf]; omega
   | false =>
    have HF9 := Bx.mk (show out = (pol.take (k + 1)).filter (wantF f x.n) by rw [HTK.out, hF.out]; simp);go_wp2_with fail
    go_roundw
    case rel => exact ⟨k + 1, out, by omega, by go_num, by omega, HG2, HF9⟩
    case measure => simp [intOf]; omega
  ·obtain rfl : k = N := by omega
   have HF2 := Bx.mk (show out = pol.filter (wantF f x.n) by rw [hF.out, HN.out, List.take_length]);clear hF hb0
   cases all with
   | false =>
    have hset := set_any wr _ out hG.out.own.rd (by omega);go_wp2_with fail
    go_at_call 81;refine hset.mono ?_;rintro e w2 ⟨v2, rfl, ho, hb2⟩;obtain ⟨a2, c2, rfl, -⟩ := ho.rd.form;have HO := Bx.mk ho;have HB2 := Bx.mk hb2;clear hset ho hb2;go_wp2_with fail
    go_ret;refine ⟨_, rfl, ?_, HBW.out.trans (HB2.out.mono HBW.out.size)⟩;rw [show pol.filter (wantF f x.n) = out from HF2.out.symm]
    exact HO.out.mono HBW.out.size
   | true =>
    have r0 := HR1.out;have m3 := cell_of_row _ _ 3 _ _ _ r0;simp only [List.getElem?_toArray, List.getElem?_cons_zero, List.getElem?_cons_succ] at m3
    have HSRC := Bx.mk ((HX.out.1.below HBW.out).src encS_ok);have HXL := HX.out.2.1.1;have hm1 : out.length + x.n.ex.length <= maxLen := (by unfold maxLen; omega);have hm2 : (out.length + x.n.ex.length) * 16 <= 140737488355328 := (by omega);have hbz := hG.out.sz;clear r0;go_wp2_with (at_builtin; refine wpList_append_any rfl _ _ _ rfl (q0 + 1) 9 i0 _ 1 16 und_strs hi0 hz0 hz1 hz2 rfl (by decide) _ out.length (out.flatMap encS) rfl hG.out.own _ x.n.ex.length (x.n.ex.flatMap encS) rfl HSRC.out hm1 hm2 hbz ?_)
    intro v9 w9 hapd;have hg9 := hG.out.apd (m := x.n.ex) hapd;have hset := set_any w9 _ (out ++ x.n.ex) hg9.own.rd (by simp; omega);have HB9 := Bx.mk (show Below w.heap.size w w9 from HB0.out.trans (hg9.bel.mono (by have := HQ0.out; omega)));obtain ⟨a9, c9, rfl, -⟩ := hg9.form;simp only [List.length_append] at hset
    clear hapd hm1 hm2 hbz hg9;go_wp2_with fail
    go_at_call 81;refine hset.mono ?_;rintro e w2 ⟨v2, rfl, ho, hb2⟩;obtain ⟨a2, c2, rfl, -⟩ := ho.rd.form;have HO := Bx.mk ho;have HB2 := Bx.mk hb2;clear hset ho hb2;go_wp2_with fail
    go_ret;refine ⟨_, rfl, ?_, HB9.out.trans (HB2.out.mono HB9.out.size)⟩;rw [show pol.filter (wantF f x.n) = out from HF2.out.symm];exact HO.out.mono HB9.out.size
end Go.Proofs.YtmagjdocondmhaaGreat.Tr
namespace Go.Proofs.YtmagjdocondmhaaGreat.Tr
open Go Go.RowKit Slc St Mp
attribute [local go_sem] Oper.semAt_some
theorem ppol_any (w : World) (v : Value) (l : List Nt) (h : TL w v l) (hn : l.length <= 100000) (D : Int) :
  Calls Tryz.prog 38 #[v, .int .i64 D] w fun e w' => ∃ v', e = .returned v' /\ Slc.Own w' w.heap.size 9 1 encS v' (polP (nds l) D) /\ Below w.heap.size w w' := by
 obtain ⟨i0, hi0, hz0, hz1, hz2⟩ := info_parts info_str;have hval := valid_any w v l h hn D;obtain ⟨ad, c, rfl, -⟩ := h.rd.form;have HL := Bx.mk h;have HC := Bx.mk h.cells.2;obtain ⟨V, hV⟩ : ∃ V, V = validB (nds l) D := ⟨_, rfl⟩
 rw [<- hV] at hval;have HV := Bx.mk hV;obtain ⟨N, hN⟩ : ∃ N, N = l.length := ⟨_, rfl⟩
 have HN := Bx.mk hN;rw [<- hN] at hn hval |-;clear h hV hN;go_enter Tryz.func38, Tryz.ntmps38;go_wp2_with fail
 go_at_call 80;refine hval.mono ?_;rintro e w1 ⟨rfl, hb1⟩;clear hval
 cases V with
 | false =>
  have HF := Bx.mk (show polP (nds l) D = [] by unfold polP; rw [<- HV.out]; rfl);go_wp2_with fail
  go_ret
  exact ⟨_, rfl, by rw [HF.out]; exact Slc.Own.nil _ _, hb1⟩
 | true =>
  have VV := (valid_iff _ _).1 HV.out.symm;have HVV := Bx.mk VV;have HF := Bx.mk (show polP (nds l) D = setB (polK (nds l) D N) by unfold polP; rw [<- HV.out, nds_len, HN.out]; rfl);have HB1 := Bx.mk hb1;clear VV hb1;go_wp2_with fail
  go_loopw [5, 14] (fun ov i wr => ∃ (k : Nat) (out : List B), k <= N /\ i = .int .i64 k /\ out.length <= k /\ Bx (GS w w.heap.size wr ov out) /\ Bx (out = polK (nds l) D k)) (fun _ i _ => N - (intOf i).toNat)
  case atStart => exact ⟨0, [], by omega, rfl, by simp, ⟨(GS.nil w _ (zR _)).below HB1.out⟩, ⟨by simp [polK]⟩⟩
  case round =>
   obtain ⟨k, out, hk, rfl, hlen, hG, hF⟩ := hrel;obtain ⟨av, cv, rfl, -⟩ := hG.out.form;have hb0 : Below w.heap.size w wr := hG.out.bel;by_cases hlt : k < N
   ·have hkl : k < l.length := by rw [<- HN.out]; exact hlt
    obtain ⟨b, o, rfl, hbl, c0, c1, c2, c3⟩ := HC.out wr hb0 k hkl;have HX := Bx.mk (show (nds l)[k]! = (l[k]).n from nds_at l k hkl);have hpp := HVV.out.pge (i := k) (by rw [nds_len]; exact hkl);have HPL := Bx.mk (HL.out.at_ l[k] (zM hkl)).2.2;obtain ⟨x, hx⟩ : ∃ x, x = l[k] := ⟨_, rfl⟩
    rw [<- hx] at c0 c1 c2 c3 HX HPL;rw [HX.out] at hpp;simp only [Sl.val] at c3
    clear hx hbl;obtain ⟨W1, hW1⟩ : ∃ W1, W1 = wr.alloc (.cells #[.int .i64 x.n.d, .int .i64 x.n.p, .string (bstr x.n.pol), .slice x.u.ad x.u.n x.u.c] 111) := ⟨_, rfl⟩
    obtain ⟨bn, hbn⟩ : ∃ bn, bn = wr.heap.size := ⟨_, rfl⟩
    have HQ1 := Bx.mk (show W1.heap[bn]? = some (.cells #[.int .i64 x.n.d, .int .i64 x.n.p, .string (bstr x.n.pol), .slice x.u.ad x.u.n x.u.c] 111 (0, 0)) by rw [hW1, hbn]; exact heap_alloc_new _ _);have HBA := Bx.mk (show Below wr.heap.size wr W1 by rw [hW1]; exact (Below.refl _ _).alloc (zR _) _);go_upto_region 7 with fail
    rw [<- hW1, <- hbn];clear hW1 hbn c0 c1 c2 c3;have hbW1 : Below w.heap.size w W1 := hb0.trans (HBA.out.mono hb0.size);have HBW1 := Bx.mk hbW1;obtain ⟨R, hR⟩ : ∃ R, R = polC (nds l) D x.n := ⟨_, rfl⟩
    have HRR := Bx.mk hR;have HKS := Bx.mk (show polK (nds l) D (k + 1) = polK (nds l) D k ++ if R then [x.n.pol] else [] by rw [polK_succ, HX.out, hR]);clear hR hb0;go_cut [39] (fun c wx => c = .bool R /\ Below W1.heap.size W1 wx)
    case first =>
     have r0 := HQ1.out;have m0 := cell_of_row _ _ 0 _ _ _ r0;have m1 := cell_of_row _ _ 1 _ _ _ r0;simp only [List.getElem?_toArray, List.getElem?_cons_zero, List.getElem?_cons_succ] at m0 m1
     have hRw := HRR.out;unfold polC at hRw;clear r0 HRR hkl;by_cases hp : x.n.p < 0
     ·have t0 : decide (x.n.p >= 0) = false := zF (by omega);have HH := Bx.mk (show R = false by rw [hRw, t0]; rfl);clear hRw;go_wp2_with fail
      go_meet;exact ⟨by rw [HH.out], Below.refl _ _⟩
     ·obtain ⟨pp, hppe⟩ : ∃ pp : Nat, x.n.p = (pp : Int) := ⟨x.n.p.toNat, by omega⟩
      have hppl : pp < N := (by omega);have hppl2 : pp < l.length := (by rw [<- HN.out]; exact hppl);obtain ⟨b', o', hbe, -, d0, d1, d2, d3⟩ := HC.out W1 hbW1 pp hppl2;simp only [zO, Addr.mk.injEq, and_true] at hbe
      obtain ⟨rfl, rfl⟩ := hbe;have HPN := Bx.mk (show pn (nds l) x.n = (l[pp]).n by unfold pn; rw [hppe, Int.toNat_natCast]; exact nds_at l pp hppl2);obtain ⟨y, hy⟩ : ∃ y, y = l[pp] := ⟨_, rfl⟩
      rw [<- hy] at d0 d1 d2 d3 HPN;simp only [Sl.val] at d3
      have hsp := special_any y W1;unfold nodV at hsp;simp only [Sl.val] at hsp
      rw [HPN.out, zT (show x.n.p >= 0 by omega), Bool.true_and] at hRw;rw [hppe] at m1;obtain ⟨s1, hs1⟩ : ∃ s, s = spec y.n := ⟨_, rfl⟩
      rw [<- hs1] at hsp hRw;have t0 : decide ((pp : Int) >= 0) = true := zT (by omega);have HH := Bx.mk hRw;clear hRw hs1 hy hppe hp hpp hppl2;go_wp2_with fail
      go_at_call 85;refine hsp.mono ?_;rintro e w2 ⟨rfl, hb2⟩;clear hsp d0 d1 d2 d3 m0 m1
      cases s1 with
      | false =>
       go_wp2_with fail
       go_meet
       exact ⟨by rw [HH.out]; rfl, hb2⟩
      | true =>
       have r2 := (hb2.block bn (lt_of_some HQ1.out)).trans HQ1.out;have m0 := cell_of_row _ _ 0 _ _ _ r2;have m1 := cell_of_row _ _ 1 _ _ _ r2;have m2 := cell_of_row _ _ 2 _ _ _ r2;have m3 := cell_of_row _ _ 3 _ _ _ r2;simp only [List.getElem?_toArray, List.getElem?_cons_zero, List.getElem?_cons_succ] at m0 m1 m2 m3
       have hsp := special_any x w2;unfold nodV at hsp;simp only [Sl.val] at hsp
       have hRw := HH.out;obtain ⟨s2, hs2⟩ : ∃ s, s = spec x.n := ⟨_, rfl⟩
       rw [<- hs2] at hsp hRw;have HH2 := Bx.mk hRw;have HB2 := Bx.mk hb2;clear hRw hs2 r2 hb2;go_wp2_with fail
       go_at_call 85;refine hsp.mono ?_;rintro e w3 ⟨rfl, hb3⟩;have r3 := ((HB2.out.trans (hb3.mono HB2.out.size)).block bn (lt_of_some HQ1.out)).trans HQ1.out;have HB3 := Bx.mk (HB2.out.trans (hb3.mono HB2.out.size));clear hsp m0 m1 m2 m3 hb3;have m0 := cell_of_row _ _ 0 _ _ _ r3;simp only [List.getElem?_toArray, List.getElem?_cons_zero, List.getElem?_cons_succ] at m0
       clear r3
       cases s2 with
       | false =>
        go_wp2_with fail
        go_meet
        exact ⟨by rw [HH2.out]; rfl, HB3.out⟩
       | true =>
        have hq : (x.n.d == D) = decide (x.n.d = D) := rfl;obtain ⟨q, hqq⟩ : ∃ q, q = decide (x.n.d = D) := ⟨_, rfl⟩
        rw [<- hqq] at hq;have HH3 := Bx.mk (show R = q by rw [HH2.out, hqq]; rfl);have hqc : (x.n.d = D) = (q = true) := (by rw [hqq]; simp);clear hqq;go_wp2_with fail
        go_meet;exact ⟨by rw [HH3.out], HB3.out⟩
    case rest =>
    obtain ⟨rfl, hbW⟩ := hcut;have HG2 := Bx.mk (hG.out.below (HBA.out.trans (hbW.mono HBA.out.size)))
    cases R with
    | true =>
     have r2 := (hbW.block bn (lt_of_some HQ1.out)).trans HQ1.out;have m2 := cell_of_row _ _ 2 _ _ _ r2;simp only [List.getElem?_toArray, List.getElem?_cons_zero, List.getElem?_cons_succ] at m2
     have HSRC := Bx.mk (src_str wc x.n.pol);have HOWN := Bx.mk (show Slc.Own (wc.alloc (.cells #[.string (bstr x.n.pol)] 9)) w.heap.size 9 1 encS (.slice av out.length cv) out from HG2.out.own.below ((Below.refl _ _).alloc (zR _) _));have HG3 := Bx.mk (HG2.out.below (show Below wc.heap.size wc (wc.alloc (.cells #[.string (bstr x.n.pol)] 9)) from (Below.refl _ _).alloc (zR _) _));have hm1 : out.length + 1 <= maxLen := (by unfold maxLen; omega);have hm2 : (out.length + 1) * 16 <= 140737488355328 := (by omega);have hbz : w.heap.size <= (wc.alloc (.cells #[.string (bstr x.n.pol)] 9)).heap.size := HG3.out.sz;clear r2 hbW hbW1;go_wp2_with (at_builtin; refine wpList_append_any rfl _ _ _ rfl w.heap.size 9 i0 _ 1 16 und_strs hi0 hz0 hz1 hz2 rfl (by decide) _ out.length (out.flatMap encS) rfl HOWN.out _ 1 ([x.n.pol].flatMap encS) rfl HSRC.out hm1 hm2 hbz ?_)
     intro v9 w9 hapd;have HG9 := Bx.mk (HG3.out.apd (m := [x.n.pol]) hapd);have HF9 := Bx.mk (show out ++ [x.n.pol] = polK (nds l) D (k + 1) by rw [HKS.out, hF.out]; rfl);clear hapd hm1 hm2 hbz;go_wp2_with fail
     go_roundw
     case rel => exact ⟨k + 1, out ++ [x.n.pol], by omega, by go_num, by simp; omega, HG9, HF9⟩
     case measure => simp [intOf]; omega
    | false =>
     have HF9 := Bx.mk (show out = polK (nds l) D (k + 1) by rw [HKS.out, hF.out]; simp);clear hbW hbW1;go_wp2_with fail
     go_roundw
     case rel => exact ⟨k + 1, out, by omega, by go_num, by omega, HG2, HF9⟩
     case measure => simp [intOf]; omega
   ·obtain rfl : k = N := by omega
    have hset := set_any wr _ out hG.out.own.rd (by omega);have HF2 := Bx.mk (show polP (nds l) D = setB out by rw [HF.out, hF.out]);clear hF;have HBW := Bx.mk hb0;clear hb0;go_wp2_with fail
    go_at_call 81;refine hset.mono ?_;rintro e w2 ⟨v2, rfl, ho, hb2⟩;obtain ⟨a2, c2, rfl, -⟩ := ho.rd.form;have HO := Bx.mk ho;have HB2 := Bx.mk hb2;clear hset ho hb2;go_wp2_with fail
    go_ret;refine ⟨_, rfl, ?_, HBW.out.trans (HB2.out.mono HBW.out.size)⟩;rw [HF2.out];exact HO.out.mono HBW.out.size
end Go.Proofs.YtmagjdocondmhaaGreat.Tr
namespace Go.Proofs.YtmagjdocondmhaaGreat.Tr
open Go Go.RowKit Slc St
attribute [local go_sem] Oper.semAt_some
theorem rsame_q (w : World) (v1 v2 : Value) (l m : List B) (h1 : Rq w v1 l) (h2 : Rq w v2 m) (hn : l.length <= 1000000) : Calls Tryz.prog 30 #[v1, v2] w fun e w' => e = .returned (.bool (decide (l = m))) /\ Below w.heap.size w w' := by
 obtain ⟨ad, c, rfl, -⟩ := h1.form;obtain ⟨ad2, c2, rfl, -⟩ := h2.form;have HC := Bx.mk (strs_cells_q h1).2;have HC2 := Bx.mk (strs_cells_q h2).2;obtain ⟨R, hR⟩ : ∃ R, R = decide (l = m) := ⟨_, rfl⟩
 rw [<- hR];have HR := Bx.mk hR;obtain ⟨N, hN⟩ : ∃ N, N = l.length := ⟨_, rfl⟩
 obtain ⟨M, hM⟩ : ∃ M, M = m.length := ⟨_, rfl⟩
 have HN := Bx.mk hN;have HM := Bx.mk hM;rw [<- hN] at hn |-;rw [<- hM];clear hR hN hM h1 h2;by_cases hNM : N = M
 ·subst hNM;go_enter Tryz.func30, Tryz.ntmps30;go_wp2_with fail
  go_loopw [5] (fun iv wr => ∃ i : Nat, iv = .int .i64 (i : Nat) /\ i <= N /\ Bx (∀ k (hk : k < l.length) (hk2 : k < m.length), k < i -> l[k] = m[k]) /\ Below w.heap.size w wr) (fun iv _ => N - (intOf iv).toNat)
  case atStart => exact ⟨0, rfl, by omega, ⟨fun k hk hk2 h => by omega⟩, Below.refl _ _⟩
  case round =>
   obtain ⟨i, rfl, hi, hB, hbel⟩ := hrel;by_cases hlt : i < N
   ·have hil : i < l.length := by rw [<- HN.out]; exact hlt
    have him : i < m.length := (by rw [<- HM.out]; exact hlt);obtain ⟨b, o, rfl, hbl, hx⟩ := HC.out wr hbel i hil;obtain ⟨b', o', rfl, hbl2, hy⟩ := HC2.out wr hbel i him;have l3 := same_bytes l[i] m[i];have HBEL := Bx.mk hbel;by_cases hc : l[i] = m[i]
    ·rw [zT hc] at l3
     have HX := Bx.mk (show ∀ k (hk : k < l.length) (hk2 : k < m.length), k < i + 1 -> l[k] = m[k] by
      intro k hk hk2 hki;rcases Nat.lt_or_ge k i with q | q
      ·exact hB.out k hk hk2 q
      ·obtain rfl : k = i := by omega
       exact hc)
     generalize bstr l[i] = X at *;generalize bstr m[i] = Y at *;clear hbel hc hbl hbl2;go_wp2_with fail
     go_quiet (fail)
     go_wp2_with fail
     go_roundw
     case rel => exact ⟨i + 1, by go_num, by omega, HX, below_drawn HBEL.out _⟩
     case measure => simp [intOf]; omega
    ·rw [zF hc] at l3;have HF := Bx.mk (show R = false by rw [HR.out]; exact zF fun e => hc (by subst e; rfl));generalize bstr l[i] = X at *;generalize bstr m[i] = Y at *;clear hbel hc hbl hbl2;go_wp2_with fail
     go_quiet (fail)
     go_wp2_with fail
     go_ret;exact ⟨by rw [HF.out]; rfl, below_drawn HBEL.out _⟩
   ·have HF := Bx.mk (show R = true by
     rw [HR.out]
     refine zT (List.ext_getElem (HN.out.symm.trans HM.out) fun k h1 h2 => hB.out k h1 h2 (by have := HN.out; omega))) 
    have HBEL := Bx.mk hbel;clear hbel;go_wp2_with fail
    go_ret;exact ⟨by rw [HF.out]; rfl, HBEL.out⟩
 ·have t0 : ((N : Int) == (M : Int)) = false := by simp; omega
  have t1 : ((N : Int) != (M : Int)) = true := by simp; omega
  have HF := Bx.mk (show R = false by rw [HR.out]; exact zF fun e => hNM (by rw [HN.out, HM.out, e]));go_enter Tryz.func30, Tryz.ntmps30;go_wp2_with fail
  go_ret;exact ⟨by rw [HF.out]; rfl, Below.refl _ _⟩
theorem rsame_any (w : World) (v1 v2 : Value) (l m : List B) (h1 : Rd w encS v1 l) (h2 : Rd w encS v2 m) (hn : l.length <= 1000000) : Calls Tryz.prog 30 #[v1, v2] w fun e w' => e = .returned (.bool (decide (l = m))) /\ Below w.heap.size w w' := rsame_q w v1 v2 l m (.inr h1) (.inr h2) hn
end Go.Proofs.YtmagjdocondmhaaGreat.Tr
namespace Go.Proofs.YtmagjdocondmhaaGreat.Tr
open Go Go.RowKit Slc St Mp Rg
attribute [local go_sem] Oper.semAt_some
def MI (w : World) (b : Nat) (m : List Int) : Prop := w.heap[b]? = some (.cells (m.map (Value.int .i64)).toArray 3 (0, 0))
theorem MI.cell {w : World} {b : Nat} {m : List Int} (h : MI w b m) (i : Nat) (hi : i < m.length) : w.cell? ⟨b, i, none⟩ = some (.int .i64 m[i]!) := by
 have := cell_of_row _ _ i _ _ _ h;rw [this, getElem!_pos m i hi];simp [hi]
theorem MI.set {w : World} {b : Nat} {m : List Int} (h : MI w b m) (i : Nat) (x : Int) : MI (w.setCell ⟨b, i, none⟩ (.int .i64 x)) b (m.set i x) := by
 have := row_set h (i := i) (.int .i64 x);unfold MI;rw [this, List.map_set];simp
theorem MI.other {w : World} {b p i : Nat} {m : List Int} (h : MI w b m) (hne : b ≠ p) (v : Value) : MI (w.setCell ⟨p, i, none⟩ v) b m := row_other h hne v
theorem made_ints (n : Nat) : madeCells (Value.int .i64 0).cells (n * 1) = ((List.replicate n (0 : Int)).map (Value.int .i64)).toArray := by
 have := toList_madeCells_one (.int .i64 0) n;have e : (Value.int .i64 0).cells = #[.int .i64 0] := rfl;rw [e, Nat.mul_one, List.map_replicate, <- this]
end Go.Proofs.YtmagjdocondmhaaGreat.Tr
namespace Go.Proofs.YtmagjdocondmhaaGreat.Tr
open Go Go.RowKit Slc St
attribute [local go_sem] Oper.semAt_some
end Go.Proofs.YtmagjdocondmhaaGreat.Tr
namespace Go.Proofs.YtmagjdocondmhaaGreat.Tr
open Go Go.RowKit Slc St
attribute [local go_sem] Oper.semAt_some
def InF (W0 : World) (sv u1 u2 : Value) (p : Nat) (cur : List Nt) (x : Nt) : Nat -> Value -> World -> Prop
 | 0, v, w => ∃ g, v = .slice (some ⟨g, 0, none⟩) 0 0 /\ w.heap[g]? = some (.cells #[] 111 (0, 0)) /\ W0.heap.size <= g
 | 1, v, _ => v = sv
 | 2, v, _ => v = .int .i64 p
 | 3, v, _ => v = u1
 | 4, v, w => Slc.Own w W0.heap.size 111 4 encN v (cur.take p)
 | 5, v, _ => v = .agg #[.int .i64 x.n.d, .int .i64 x.n.p, .string (bstr x.n.pol), .slice x.u.ad x.u.n x.u.c]
 | 6, v, w => ∃ g : Nat, v = .slice (some ⟨g, 0, none⟩) 1 1 /\ w.heap[g]? = some (.cells (encN x).toArray 111 (0, 0))
 | 7, v, w => Slc.Own w W0.heap.size 111 4 encN v (cur.take p ++ [x])
 | 8, v, _ => v = sv
 | 9, v, _ => v = .int .i64 p
 | 10, v, _ => v = u2
 | _, _, _ => True
end Go.Proofs.YtmagjdocondmhaaGreat.Tr
namespace Go.Proofs.YtmagjdocondmhaaGreat.Tr.Gr
open Go Go.RowKit Slc St Mp Tr
attribute [local go_sem] Oper.semAt_some
def keepT {α : Type} [Inhabited α] (l : List α) (m : List Bool) (k : Nat) : List α := ((List.range k).filter fun j => m[j]!).map fun j => l[j]!
theorem keepT_succ {α : Type} [Inhabited α] (l : List α) (m : List Bool) (k : Nat) : keepT l m (k + 1) = keepT l m k ++ if m[k]! then [l[k]!] else [] := by
 unfold keepT;rw [List.range_succ, List.filter_append, List.map_append]
 cases h : m[k]! <;> simp [List.filter_cons, h, -List.getElem!_eq_getElem?_getD]
theorem keepT_len {α : Type} [Inhabited α] (l : List α) (m : List Bool) (k : Nat) : (keepT l m k).length = rk m k := by unfold keepT rk; rw [List.length_map]
theorem keepT_mem {α : Type} [Inhabited α] {l : List α} {m : List Bool} {k : Nat} {x : α} (hk : k <= l.length) (h : x ∈ keepT l m k) : x ∈ l := by
 unfold keepT at h;obtain ⟨j, hj, rfl⟩ := List.mem_map.1 h;have := List.mem_range.1 (List.mem_filter.1 hj).1;rw [getElem!_pos l j (by omega)];exact zM _
theorem keepT_vxs (l : List Vt) (m : List Bool) (k : Nat) (hk : k <= l.length) : vxs (keepT l m k) = keepT (vxs l) m k := by
 unfold keepT vxs;rw [List.map_map];apply List.map_congr_left
 intro j hj;have := List.mem_range.1 (List.mem_filter.1 hj).1;rw [getElem!_pos (List.map _ l) j (by simp; omega)];simp only [Function.comp_apply, List.getElem_map]
 rw [getElem!_pos l j (by omega)]
def plJ (m : List Bool) (N k : Nat) : List Int := (List.range N).map fun j => if j < k then ((rk m j : Nat) : Int) else 0
theorem plJ_length (m : List Bool) (N k : Nat) : (plJ m N k).length = N := by simp [plJ]
theorem plJ_zero (m : List Bool) (N : Nat) : plJ m N 0 = List.replicate N 0 := by
 unfold plJ;apply List.ext_getElem
 ·simp
 ·intro i h1 h2; simp
theorem plJ_at (m : List Bool) (N j : Nat) (hj : j < N) : (plJ m N N)[j]! = ((rk m j : Nat) : Int) := by
 unfold plJ;rw [getElem!_pos _ j (by simpa using hj)];simp [hj]
theorem plJ_succ {m : List Bool} {N k : Nat} (hk : k < N) : plJ m N (k + 1) = (plJ m N k).set k ((rk m k : Nat) : Int) := by
 apply List.ext_getElem
 ·simp [plJ]
 ·intro j h1 h2;rw [List.getElem_set];simp only [plJ, List.getElem_map, List.getElem_range]
  by_cases e : k = j
  ·subst e; rw [if_pos rfl, if_pos (by omega)]
  ·rw [if_neg e];by_cases q : j < k
   ·rw [if_pos q, if_pos (by omega)]
   ·rw [if_neg q, if_neg (by omega)]
def renP (m : List Bool) (ps : List Int) : List Int := (ps.filter fun p => m[p.toNat]!).map fun p => ((rk m p.toNat : Nat) : Int)
theorem renP_snoc (m : List Bool) (ps : List Int) (p : Int) : renP m (ps ++ [p]) = renP m ps ++ if m[p.toNat]! then [((rk m p.toNat : Nat) : Int)] else [] := by
 unfold renP;rw [List.filter_append, List.map_append]
 cases h : m[p.toNat]! <;> simp [List.filter_cons, h, -List.getElem!_eq_getElem?_getD]
theorem renP_len (m : List Bool) (ps : List Int) : (renP m ps).length <= ps.length := by
 unfold renP; rw [List.length_map]; exact List.length_filter_le _ _
def renV (m : List Bool) (v : Vx) : Vx := ⟨v.pol, v.ex, renP m v.par⟩
def filtG (g : List (List Vx)) (k : Nat) (m : List Bool) : List (List Vx) :=
 if k + 1 < g.length then (g.set k (keepT g[k]! m (g[k]!).length)).set (k + 1) ((g[k + 1]!).map (renV m)) else g.set k (keepT g[k]! m (g[k]!).length)
theorem filtG_len (g : List (List Vx)) (k : Nat) (m : List Bool) : (filtG g k m).length = g.length := by unfold filtG; split <;> simp
structure GStep (w : World) (B : Nat) (v : Value) (g : List Lv) (w' : World) (g' : List Lv) : Prop where
 go : GO w' B v g'
 fr : Fr (GB v g) w w'
 nb : ∀ k, GB v g' k -> GB v g k \/ w.heap.size <= k
theorem GStep.trans {w w1 w2 : World} {B : Nat} {v : Value} {g g1 g2 : List Lv} (h : GStep w B v g w1 g1) (h' : GStep w1 B v g1 w2 g2) : GStep w B v g w2 g2 :=
 ⟨h'.go, h.fr.trans h'.fr fun k hk q => (h.nb k q).elim id fun h => absurd hk (by omega), fun k hk => by
  rcases h'.nb k hk with q | q
  ·exact h.nb k q
  ·exact .inr (Nat.le_trans h.fr.size q)⟩
theorem GStep.below {w w1 w2 : World} {B : Nat} {v : Value} {g g1 : List Lv} (h : GStep w B v g w1 g1) (hb : Below w1.heap.size w1 w2) : GStep w B v g w2 g1 :=
 ⟨h.go.below hb, h.fr.trans (Fr.of_below (S := fun _ => False) hb) (fun k _ q => q.elim), h.nb⟩
theorem GStep.refl {w : World} {B : Nat} {v : Value} {g : List Lv} (h : GO w B v g) : GStep w B v g w g := ⟨h, Fr.refl _ _, fun k hk => .inl hk⟩
theorem GStep.bel {w w' : World} {B : Nat} {v : Value} {g g' : List Lv} (h : GStep w B v g w' g') (hg : GO w B v g) (hB : B <= w.heap.size) : Below B w w' := h.fr.below (fun k hk => (hg.lt hk).1) hB
def QA (x y : Vt) : Prop := ∀ k, x.q.val.ownBlock = some k -> y.q.val.ownBlock ≠ some k
theorem QA.symm {x y : Vt} (h : QA x y) : QA y x := fun k h1 h2 => h k h2 h1
structure FX (w : World) (B : Nat) (vs us : List Vt) (q : Nat) : Prop where
 u : ∀ r, r < q -> (vs[r]!).u = (us[r]!).u
 own : ∀ r, r < q -> Slc.Own w B 3 1 encI (vs[r]!).q.val (vs[r]!).n.par
 ap : ∀ r1 r2, r1 < r2 -> r2 < q -> QA vs[r1]! vs[r2]!
theorem FX.zero (w : World) (B : Nat) (vs us : List Vt) : FX w B vs us 0 := ⟨fun r h => by omega, fun r h => by omega, fun r1 r2 h h' => by omega⟩
theorem FX.below {w w' : World} {B : Nat} {vs us : List Vt} {q : Nat} (h : FX w B vs us q) (hb : Below w.heap.size w w') : FX w' B vs us q := ⟨h.u, fun r hr => (h.own r hr).below hb, h.ap⟩
theorem FX.setCell {w : World} {B : Nat} {vs us : List Vt} {q : Nat} (h : FX w B vs us q) {nb : Nat} (hnb : nb < B) (o : Nat) (u : Value) : FX (w.setCell ⟨nb, o, none⟩ u) B vs us q :=
 ⟨h.u, fun r hr => (h.own r hr).keep fun k hk _ => heap_setCell_other _ _ _ _ (by have := ((h.own r hr).lt k hk).1; show k ≠ nb; omega), h.ap⟩
theorem FX.set {w : World} {B C : Nat} {vs us : List Vt} {q : Nat} {y : Vt} (h : FX w B vs us q) (hq : q < vs.length) (hu : y.u = (us[q]!).u) (ho : Slc.Own w C 3 1 encI y.q.val y.n.par) (hB : B <= C) (hC : ∀ r, r < q -> ∀ k, (vs[r]!).q.val.ownBlock = some k -> k < C) : FX w B (vs.set q y) us (q + 1) := by
 have e1 : (vs.set q y)[q]! = y := by rw [getElem!_pos _ q (by simpa using hq)]; simp
 have e2 : ∀ r, r < q -> (vs.set q y)[r]! = vs[r]! := fun r hr => by
  rw [getElem!_pos _ r (by simp; omega), getElem!_pos vs r (by omega), List.getElem_set, if_neg (by omega)]
 refine ⟨fun r hr => ?_, fun r hr => ?_, fun r1 r2 h1 h2 => ?_⟩
 ·by_cases e : r = q
  ·subst e; rw [e1]; exact hu
  ·rw [e2 r (by omega)]; exact h.u r (by omega)
 ·by_cases e : r = q
  ·subst e; rw [e1]; exact ho.mono hB
  ·rw [e2 r (by omega)]; exact h.own r (by omega)
 ·by_cases e : r2 = q
  ·subst e;rw [e1, e2 r1 (by omega)];intro k hk hk';have := hC r1 (by omega) k hk;have := (ho.lt k hk').1;omega
  ·rw [e2 r1 (by omega), e2 r2 (by omega)]; exact h.ap r1 r2 h1 (by omega)
structure FiltR (w w' : World) (g g' : List Lv) (k : Nat) (m : List Bool) : Prop where
 len : g'.length = g.length
 lo : ∀ j (h : j < g.length) (h' : j < g'.length), j ≠ k -> j ≠ k + 1 -> g'[j] = g[j]
 mid : ∀ (h : k < g.length) (h' : k < g'.length), (g'[k]).vs = keepT (g[k]).vs m (g[k]).vs.length
 nx : ∀ (h : k + 1 < g.length) (h' : k + 1 < g'.length), (g'[k + 1]).vs.length = (g[k + 1]).vs.length /\ FX w' w.heap.size (g'[k + 1]).vs (g[k + 1]).vs (g[k + 1]).vs.length
end Go.Proofs.YtmagjdocondmhaaGreat.Tr.Gr
namespace Go.Proofs.YtmagjdocondmhaaGreat.Tr.Gr
open Go Go.RowKit Slc St Mp Tr Rg
attribute [local go_sem] Oper.semAt_some
theorem gxs_at' (g : List Lv) (i : Nat) (h : i < g.length) : (gxs g)[i]! = vxs (g[i]).vs := by
 rw [getElem!_pos (gxs g) i (by simpa [gxs] using h)]; simp [gxs]
theorem gxs_len (g : List Lv) : (gxs g).length = g.length := by simp [gxs]
theorem mk_cells {w : World} {S : Nat -> Prop} {ad : Option Addr} {n c : Nat} {l : List Bool} (h : RdIn w S encM (.slice ad n c) l) (W : World) (hW : ∀ k, k < w.heap.size -> S k -> W.heap[k]? = w.heap[k]?) (k : Nat) (hk : k < l.length) : ∃ b o, ad = some ⟨b, o, none⟩ /\ b < w.heap.size /\ W.cell? ⟨b, o + k, none⟩ = some (.bool l[k]!) := by
 obtain ⟨b, o, c, hv', _, hlt, hc⟩ := h.1.cells encM_ok (by omega);simp only [Value.slice.injEq] at hv'
 have q := hc W (fun k' hk' => hW k' (h.1.lt k' hk') (h.2 k' hk')) k hk 0 _ (by omega) rfl;rw [Nat.mul_one, Nat.add_zero] at q;exact ⟨b, o, hv'.1, hlt, by rw [q, getElem!_pos l k hk]⟩
theorem src_ver (w : World) (y : Vt) : SrcV (w.alloc (.cells #[.string (bstr y.n.pol), y.u.val, y.q.val] 65)) 3 (.slice (some ⟨w.heap.size, 0, none⟩) 1 1) 1 ([y].flatMap encV) := src_new encV_ok (heap_alloc_new _ _)
theorem src_int (w : World) (y : Int) : SrcV (w.alloc (.cells #[.int .i64 y] 3)) 1 (.slice (some ⟨w.heap.size, 0, none⟩) 1 1) 1 ([y].flatMap encI) := src_new encI_ok (heap_alloc_new _ _)
theorem sl_of {α : Type} {w : World} {Bk z : Nat} {t : TypeId} {enc : α -> List Value} {v : Value} {l : List α} (h : Slc.Own w Bk t z enc v l) : ∃ s : Sl, v = s.val := by
 obtain ⟨ad, c, h, -⟩ := h.rd.form;exact ⟨⟨ad, _, c⟩, h⟩
theorem renV_ok {m : List Bool} {n : Vx} (h : Vx.Ok n) (hm : ∀ p ∈ n.par, 0 <= p /\ p < (m.length : Int)) (hml : m.length <= 100000) : Vx.Ok (renV m n) := by
 refine ⟨h.1, h.2.1, Nat.le_trans (renP_len _ _) h.2.2.1, fun p hp => ?_⟩;unfold renV renP at hp;obtain ⟨q, hq, rfl⟩ := List.mem_map.1 hp;have hq' := hm q (List.mem_filter.1 hq).1;have := rk_le m q.toNat;omega
theorem filter_r (w : World) (B : Nat) (v : Value) (g : List Lv) (h : GO w B v g) (hn : g.length <= 100000) (hln : ∀ L ∈ g, L.vs.length <= 100000) (k : Nat) (hk : k < g.length) (mv : Value) (m : List Bool) (hm : RdIn w (fun j => ¬ GB v g j) encM mv m) (hml : m.length = (g[k]).vs.length)
  (hpar : ∀ (h1 : k + 1 < g.length), ∀ x ∈ (g[k + 1]).vs, ∀ p ∈ x.n.par, 0 <= p /\ p < (m.length : Int)) :
  Calls Tryz.prog 96 #[v, .int .i64 k, mv] w fun e w' => (∃ u, e = .returned u) /\ ∃ g', GStep w B v g w' g' /\ gxs g' = filtG (gxs g) k m /\ FiltR w w' g g' k m := by
 obtain ⟨i0, hi0, hz0, hz1, hz2⟩ := info_parts info_ver;obtain ⟨ib, hib, hib0, hib1, hib2⟩ := info_parts info_int;have HG := Bx.mk h;have HLN := Bx.mk hln;have HMK := Bx.mk hm;have HPAR := Bx.mk hpar;obtain ⟨ad, c, rfl, -⟩ := h.own.rd.form;obtain ⟨md, mc, rfl, -⟩ := hm.1.form;have HMC := Bx.mk (mk_cells hm);have HMC' := Bx.mk HMC.out;obtain ⟨gb, rfl, l0, hgfr⟩ := h.cellL k hk;have HGLT := Bx.mk (show gb < w.heap.size from World.block_lt_of_cell? w _ l0);have HVL := Bx.mk (h.gl.lv _ (zM hk));have hll := hln _ (zM hk);obtain ⟨L, hL⟩ : ∃ L, L = g[k] := ⟨_, rfl⟩
 rw [<- hL] at l0 HVL hll hml;have HL := Bx.mk hL;obtain ⟨la, lc, hls, -⟩ := HVL.out.rd.form;rw [hls] at l0 HVL;obtain ⟨N, hN⟩ : ∃ N, N = g.length := ⟨_, rfl⟩
 have HN := Bx.mk hN;obtain ⟨M, hM⟩ : ∃ M, M = m.length := ⟨_, rfl⟩
 have HM := Bx.mk hM;obtain ⟨NV, hNV⟩ : ∃ NV, NV = L.vs.length := ⟨_, rfl⟩
 have HNV := Bx.mk hNV;have HMNV := Bx.mk (show M = NV by omega);have hMb : M <= 100000 := by omega
 have hNVb : NV <= 100000 := by omega
 have HK := Bx.mk hk;rw [<- hNV] at l0;rw [<- hN] at hn hk |-;rw [<- hM];have hkN : k < N := hk;have hmk := run_makeSlice (P := Tryz.prog) w 22 3 ib (.int .i64 0) Tryz.underlying22 hib hib0 .i64 .i64 (M : Nat) (M : Nat) (by omega) (by omega) (by rw [Int.toNat_natCast, hib1]; omega) (by rw [hib2]; omega) (by omega);simp only [Int.toNat_natCast, hib1, made_ints] at hmk
 obtain ⟨pb, hpb⟩ : ∃ q, q = w.heap.size := ⟨_, rfl⟩
 obtain ⟨W1, hW1⟩ : ∃ W1, W1 = w.alloc (.cells (Array.replicate M (Value.int .i64 0)) 3) := ⟨_, rfl⟩
 have hb1 : Below w.heap.size w W1 := by rw [hW1]; exact (Below.refl _ _).alloc (zR _) _
 have HB1 := Bx.mk (show Below pb w W1 by rw [hpb]; exact hb1);have HI1 := Bx.mk (show MI W1 pb (plJ m M 0) by rw [plJ_zero, hW1]; unfold MI; rw [List.map_replicate, List.toArray_replicate]; exact alloc_at hpb);have HP := Bx.mk hpb;have HS1 := Bx.mk (show W1.heap.size = pb + 1 by rw [hW1, hpb]; simp);have l1 := (hb1.cell (p := ⟨gb, k, none⟩) HGLT.out).trans l0;clear h hln hm hpar hL hls hN hM hNV hk hml hb1 hgfr;go_enter Tryz.func96, Tryz.ntmps96;go_upto_region 1 with fail
 rw [<- hW1, <- hpb];clear hmk hW1 hpb l0;go_wp2_with fail
 clear l1;go_loopw [7, 24] (fun hv i wr => ∃ j : Nat, j <= NV /\ i = .int .i64 j /\ Bx (Slc.Own wr (pb + 1) 65 3 encV hv (keepT L.vs m j)) /\ Bx (MI wr pb (plJ m M j)) /\ Bx (Below pb w wr)) (fun _ i _ => NV - (intOf i).toNat)
 case atStart => exact ⟨0, by omega, rfl, ⟨Slc.Own.nil _ _⟩, HI1, HB1⟩
 case round =>
  clear HI1 HB1;obtain ⟨j, hj, rfl, hO, hI, hBw⟩ := hrel;have hBw' : Below w.heap.size w wr := HP.out ▸ hBw.out;obtain ⟨av, cv, rfl, -⟩ := hO.out.rd.form;have hkl := keepT_len L.vs m j;obtain ⟨KL, hKL⟩ : ∃ KL, KL = (keepT L.vs m j).length := ⟨_, rfl⟩
  have HKL := Bx.mk hKL;have hKLb : KL <= j := by rw [hKL, hkl]; exact rk_le m j
  rw [<- hKL] at hkl |-;have HKR := Bx.mk hkl;clear hKL hkl;by_cases hlt : j < NV
  ·have hjl : j < L.vs.length := by rw [<- HNV.out]; exact hlt
   have hjM : j < M := by have := HMNV.out; omega
   obtain ⟨b, o, rfl, hbl, c0, c1, c2⟩ := HVL.out.at3 wr hBw' j hjl;obtain ⟨bm, om, rfl, hbm, cm⟩ := HMC.out wr (fun q hq _ => hBw'.block q hq) j (by rw [<- HM.out]; exact hjM);have HX := Bx.mk (getElem!_pos L.vs j hjl);obtain ⟨x, hx⟩ : ∃ x, x = L.vs[j] := ⟨_, rfl⟩
   rw [<- hx] at c0 c1 c2 HX;obtain ⟨mk, hmk⟩ : ∃ b, b = m[j]! := ⟨_, rfl⟩
   rw [<- hmk] at cm;have HMKJ := Bx.mk hmk;simp only [Sl.val] at c1 c2
   have hbmlt := World.block_lt_of_cell? wr _ cm;obtain ⟨W2, hW2⟩ : ∃ W2, W2 = wr.alloc (.cells #[.string (bstr x.n.pol), .slice x.u.ad x.u.n x.u.c, .slice x.q.ad x.q.n x.q.c] 65) := ⟨_, rfl⟩
   have hb2 : Below wr.heap.size wr W2 := by rw [hW2]; exact (Below.refl _ _).alloc (zR _) _
   obtain ⟨q9, hq9⟩ : ∃ q, q = wr.heap.size := ⟨_, rfl⟩
   have hr9 : W2.heap[q9]? = some (.cells #[.string (bstr x.n.pol), .slice x.u.ad x.u.n x.u.c, .slice x.q.ad x.q.n x.q.c] 65 (0, 0)) := by rw [hW2, hq9]; exact heap_alloc_new _ _
   have hI2 : MI W2 pb (plJ m M j) := (hb2.block pb (lt_of_some hI.out)).trans hI.out;have hpblt := lt_of_some hI.out;have z1 := Go.Proofs.YtmagjdocondmhaaGreat.Rg.frozen_row (i := j) hI2;have m1 := hI2.cell j (by rw [plJ_length]; exact hjM);obtain ⟨W3, hW3⟩ : ∃ W3, W3 = W2.setCell ⟨pb, j, none⟩ (.int .i64 KL) := ⟨_, rfl⟩
   have hI3 : MI W3 pb (plJ m M (j + 1)) := by rw [hW3, plJ_succ hjM, <- HKR.out]; exact hI2.set j _
   have hne9 : q9 ≠ pb := by omega
   have hr93 := Go.Proofs.YtmagjdocondmhaaGreat.Rg.row_other (q := pb) (i := j) hr9 hne9 (.int .i64 KL);rw [<- hW3] at hr93;have hcm2 := (hb2.cell (p := ⟨bm, om + j, none⟩) hbmlt).trans cm
   have hBw2 : Below pb w W3 := by
    rw [hW3];refine (hBw.out.trans (hb2.mono (by omega))).setCell (zR _) _
   have HB3 := Bx.mk hBw2;have HI3 := Bx.mk hI3;have HR9 := Bx.mk hr93
   have hO3 : Slc.Own W3 (pb + 1) 65 3 encV (.slice av KL cv) (keepT L.vs m j) := by
    have hO' := hO.out;rw [<- HKL.out] at hO';rw [hW3];refine (hO'.below hb2).keep fun q hq hql => ?_
    have := (hO'.lt q hq).1;exact heap_setCell_other _ _ _ _ (by show q ≠ pb; omega)
   have HO3 := Bx.mk hO3;have HPBL := Bx.mk (show pb + 1 <= W3.heap.size by rw [hW3]; have := hb2.size; simp; omega)
   have HCM3 := Bx.mk (show bm ≠ pb -> W3.cell? ⟨bm, om + j, none⟩ = some (.bool mk) from fun hne => by
    rw [hW3];have : (W2.setCell ⟨pb, j, none⟩ (.int .i64 KL)).heap[bm]? = W2.heap[bm]? := heap_setCell_other _ _ _ _ hne;unfold World.cell? at hcm2 |-
    rw [this]; exact hcm2)
   have cm3 := HCM3.out (by have := HP.out; omega);clear hI3 hr93 hO3 hBw2 hr9 hI2 hb2 hbl hx hmk hjl;go_upto_region 5 with fail
   rw [<- hW2, <- hq9];have HW3 := Bx.mk hW3;clear c0 c1 c2 cm hq9 hW2 hW3 hcm2 cm3;go_upto_region 6 with fail
   rw [<- HW3.out];have cm3 := HCM3.out (by have := HP.out; omega);clear HW3 z1 m1 hne9
   cases mk with
   | false =>
    go_wp2_with fail
    go_roundw
    case rel => exact ⟨j + 1, by omega, by go_num, ⟨by rw [keepT_succ, <- HMKJ.out]; simpa using HO3.out⟩, HI3, HB3⟩
    case measure => simp [intOf]; omega
   | true =>
    have m0 := cell_of_row _ _ 0 _ _ _ HR9.out;have m1 := cell_of_row _ _ 1 _ _ _ HR9.out;have m2 := cell_of_row _ _ 2 _ _ _ HR9.out;simp only [List.getElem?_toArray, List.getElem?_cons_zero, List.getElem?_cons_succ] at m0 m1 m2
    have hsrc := src_ver W3 x;simp only [Sl.val] at hsrc
    have HSRC := Bx.mk hsrc;have hown4 := HO3.out.below ((Below.refl _ _).alloc (zR _) (.cells #[.string (bstr x.n.pol), .slice x.u.ad x.u.n x.u.c, .slice x.q.ad x.q.n x.q.c] 65));have HOWN := Bx.mk hown4
    have HOWR := Bx.mk (show World.ownsRow (W3.alloc (.cells #[.string (bstr x.n.pol), .slice x.u.ad x.u.n x.u.c, .slice x.q.ad x.q.n x.q.c] 65)) (pb + 1) 65 3 (.slice av KL cv) KL ((keepT L.vs m j).flatMap encV) by
     have := hown4;unfold Slc.Own at this
     rwa [<- HKL.out] at this)
    have hm1 : KL + 1 <= maxLen := (by unfold maxLen; omega);have hm2 : (KL + 1) * 64 <= 140737488355328 := (by omega);have hbz : pb + 1 <= (W3.alloc (.cells #[.string (bstr x.n.pol), .slice x.u.ad x.u.n x.u.c, .slice x.q.ad x.q.n x.q.c] 65)).heap.size := (by have := HPBL.out; simp; omega);have hba := ((Below.refl W3.heap.size W3).alloc (zR _) (.cells #[.string (bstr x.n.pol), .slice x.u.ad x.u.n x.u.c, .slice x.q.ad x.q.n x.q.c] 65));have HBA := Bx.mk hba;clear hsrc hown4 hba;go_wp2_with (at_builtin; refine wpList_append_any rfl _ _ _ rfl (pb + 1) 65 i0 _ 3 64 und_vers hi0 hz0 hz1 hz2 rfl (by decide) _ KL ((keepT L.vs m j).flatMap encV) rfl HOWR.out _ 1 ([x].flatMap encV) rfl HSRC.out hm1 hm2 hbz ?_)
    intro v9 w9 hapd
    have HO9 := Bx.mk (show Slc.Own w9 (pb + 1) 65 3 encV v9 (keepT L.vs m (j + 1)) by
     rw [keepT_succ, <- HMKJ.out, if_pos rfl, HX.out]
     exact HOWN.out.apd rfl rfl HKL.out rfl hapd)
    have hbig : ∀ q, (Value.slice av KL cv).ownBlock = some q -> pb + 1 <= q := fun q hq => (HOWN.out.lt q hq).1
    have HB9 := Bx.mk (show Below pb w w9 from (HB3.out.trans (HBA.out.mono (by have := HPBL.out; omega))).grown hapd.grown (by have := HPBL.out; simp; omega) fun q hq => by have := hbig q hq; omega);have HI9 := Bx.mk (show MI w9 pb (plJ m M (j + 1)) from (hapd.grown.block pb (by have := HPBL.out; simp; omega) (fun e => by have := hbig pb e.symm; omega)).trans ((HBA.out.block pb (by have := HPBL.out; omega)).trans HI3.out));clear hapd hm1 hm2 hbz m0 m1 m2 hbig;go_wp2_with fail
    go_roundw
    case rel => exact ⟨j + 1, by omega, by go_num, HO9, HI9, HB9⟩
    case measure => simp [intOf]; omega
  ·obtain rfl : j = NV := by omega
   have hGw := HG.out;have HBL := Bx.mk (show B <= w.heap.size from by have := hGw.lt (k := gb) (.inl rfl); omega);have hO' := hO.out;have hGr := hGw.below hBw';have hblk : ∀ q, (Value.slice av KL cv).ownBlock = some q -> pb + 1 <= q := fun q hq => (hO'.lt q (by rw [<- HKL.out]; exact hq)).1
   obtain ⟨gb', cap', hgv, hgl, hgfz, hgo9, hgr9⟩ := hGr.setL k HK.out ⟨keepT L.vs m j, ⟨av, KL, cv⟩⟩ (by
     have := hO'.mono (B' := B) (by have := HBL.out; have := HP.out; omega);rw [<- HKL.out] at this
     exact this) (fun q hq => by
     have h1 := hblk q hq;refine ⟨fun e => ?_, fun i hi _ e => ?_⟩
     ·have := hGw.lt (k := q) (.inl e); have := HP.out; omega
     ·have := hGw.lt (k := q) (.inr ⟨_, zM hi, e⟩); have := HP.out; omega) (fun i hi _ x hx => by
     refine ((hGw.nm _ (zM hi) x hx).at_.below hBw' |> fun h => (VtIn.mono (S' := fun q => (Value.slice av KL cv).ownBlock ≠ some q) (VtIn.below (hGw.nm _ (zM hi) x hx).at_ hBw') fun q _ hq e => ?_))
     have := hblk q e; have := HP.out; omega) (fun x hx => by
     have hxL : x ∈ (g[k]'HK.out).vs := (by rw [<- HL.out]; exact keepT_mem (by rw [<- HNV.out]; exact zR _) hx);have h0 := hGw.nm _ (zM HK.out) x hxL;refine ((VtIn.and h0 h0.at_).below hBw').mono fun q _ hq hn => ?_
     rcases GB.set hn with e | e
     ·exact hq.1 e
     ·have := hblk q e; have := HP.out; have := hq.2; omega)
   simp only [Value.slice.injEq, zO, Addr.mk.injEq, and_true] at hgv
   obtain ⟨rfl, -, rfl⟩ := hgv;have hcell := hGr.cellL k HK.out;obtain ⟨gb2, he2, l9, -⟩ := hcell;simp only [zO, Addr.mk.injEq, and_true] at he2
   subst he2;obtain ⟨W9, hW9⟩ : ∃ W9, W9 = wr.setCell ⟨gb, k, none⟩ (.slice av KL cv) := ⟨_, rfl⟩
   have hz9 := hgfz k;have hgr9' : wr.grownBy W9 (some gb) := by rw [hW9]; exact hgr9
   have hgo9' : GO W9 B (.slice (some ⟨gb, 0, none⟩) g.length c) (g.set k ⟨keepT L.vs m j, ⟨av, KL, cv⟩⟩) := by rw [hW9]; exact hgo9
   have HS9 := Bx.mk (show GStep w B (.slice (some ⟨gb, 0, none⟩) g.length c) g W9 (g.set k ⟨keepT L.vs m j, ⟨av, KL, cv⟩⟩) from
    ⟨hgo9', (Fr.of_below (S := GB (.slice (some ⟨gb, 0, none⟩) g.length c) g) hBw').trans (Fr.of_grown (S := GB (.slice (some ⟨gb, 0, none⟩) g.length c) g) hgr9' fun q hq => by
      simp only [zO] at hq; subst hq; exact .inl rfl) (fun _ _ q => q), fun q hq => by
     rcases GB.set hq with e | e
     ·exact .inl e
     ·have := hblk q e; have := HP.out; exact .inr (by omega)⟩)
   have HI9 := Bx.mk (show MI W9 pb (plJ m M M) by
    have e : j = M := HMNV.out.symm;have h1 := hI.out;rw [e] at h1
    exact (hgr9'.block pb (lt_of_some h1) (by simp only [ne_eq, zO]; have := HGLT.out; have := HP.out; omega)).trans h1)
   have HG1 := Bx.mk (show gxs (g.set k ⟨keepT L.vs m j, ⟨av, KL, cv⟩⟩) = (gxs g).set k (keepT (gxs g)[k]! m ((gxs g)[k]!).length) by
    rw [gxs_at' g k HK.out, <- HL.out, vxs_len, <- HNV.out, <- keepT_vxs _ _ _ (by rw [<- HNV.out]; exact zR _)]
    exact List.map_set)
   clear hGw hO' hGr hblk hgl hgfz hgo9 hgr9 hgr9' hgo9' hO hI hBw hBw' HVL HMC;have HW9 := Bx.mk hW9;clear hW9;go_upto_region 10 with fail
   rw [<- HW9.out];clear l9 hz9 HW9;by_cases hlast : k + 1 = N
   ·have t1 : (((k : Int) + 1) == (N : Int)) = true := by simp; omega
    have HFE := Bx.mk (show gxs (g.set k ⟨keepT L.vs m j, ⟨av, KL, cv⟩⟩) = filtG (gxs g) k m by
     rw [HG1.out]; unfold filtG; rw [gxs_len, <- HN.out, if_neg (by omega)])
    have t2 : ((k : Int) + 1) = (N : Int) := by omega
    have HFR := Bx.mk (show FiltR w W9 g (g.set k ⟨keepT L.vs m j, ⟨av, KL, cv⟩⟩) k m from
     ⟨by simp, fun i h1 h2 h3 _ => by rw [List.getElem_set, if_neg (fun e => h3 e.symm)], fun h1 h2 => by
      rw [List.getElem_set_self, <- HL.out, <- HNV.out], fun h1 => by rw [<- HN.out] at h1; omega⟩)
    clear hlast;go_wp2_with fail
    refine bodyPost_ret (results_none rfl _ _ _) rfl ?_;rw [HN.out];exact ⟨⟨_, rfl⟩, _, HS9.out, HFE.out, HFR.out⟩
   ·have t1 : (((k : Int) + 1) == (N : Int)) = false := by simp; omega
    have t2 : ¬ ((k : Int) + 1) = (N : Int) := (by omega);have hk1N : k + 1 < N := (by omega);have HK1 := Bx.mk (show k + 1 < g.length by rw [<- HN.out]; exact hk1N);obtain ⟨X, hX⟩ : ∃ X, X = g[k + 1]'HK1.out := ⟨_, rfl⟩
    have HXG := Bx.mk hX;have HPX := Bx.mk (show ∀ x ∈ X.vs, ∀ p ∈ x.n.par, 0 <= p /\ p < (m.length : Int) by rw [hX]; exact HPAR.out HK1.out);have hXl : X.vs.length <= 100000 := (by rw [hX]; exact HLN.out _ (zM HK1.out));obtain ⟨g1, hg1⟩ : ∃ g1, g1 = g.set k ⟨keepT L.vs m j, ⟨av, KL, cv⟩⟩ := ⟨_, rfl⟩
    rw [<- hg1] at HS9 HG1;have HG1L := Bx.mk (show g1.length = g.length by rw [hg1]; simp);have HKX := Bx.mk (show k + 1 < g1.length by rw [HG1L.out]; exact HK1.out)
    have HX1 := Bx.mk (show g1[k + 1]'HKX.out = X by
     rw [hX]; simp only [hg1]
     rw [List.getElem_set, if_neg (by omega)])
    obtain ⟨gb3, he3, x9, -⟩ := HS9.out.go.cellL (k + 1) HKX.out;simp only [zO, Addr.mk.injEq, and_true] at he3
    subst he3;rw [HX1.out] at x9;have hXo := HS9.out.go.lv _ (zM HKX.out);rw [HX1.out] at hXo;obtain ⟨xa, xc, hxs, -⟩ := hXo.rd.form;rw [hxs] at x9;obtain ⟨NX, hNX⟩ : ∃ NX, NX = X.vs.length := ⟨_, rfl⟩
    have HNX := Bx.mk hNX;rw [<- hNX] at x9 hxs hXl;have HXS := Bx.mk hxs
    have HS := Bx.mk (show GStep w B (.slice (some ⟨gb, 0, none⟩) g.length c) g W9 (g1.set (k + 1) ⟨X.vs, X.s⟩) by
     have e : g1.set (k + 1) ⟨X.vs, X.s⟩ = g1 := by
      apply List.ext_getElem
      ·simp
      ·intro i h1 h2;rw [List.getElem_set];split
       ·rename_i e; subst e; exact HX1.out.symm
       ·rfl
     rw [e]; exact HS9.out)
    have w1k : IntKind.i64.wrap ((k : Int) + 1) = ((k + 1 : Nat) : Int) := (by rw [IntWalk.i64_in _ (by omega)]; omega);have HPB0 := Bx.mk (show pb + 0 = w.heap.size from HP.out);have HG1D := Bx.mk hg1;clear hlast hg1 hX hNX hXo hxs;go_wp2_with fail
    clear x9 w1k t1 t2;go_loopw [60] (fun i wr => ∃ (q : Nat) (vs2 : List Vt), q <= NX /\ i = .int .i64 q /\ Bx (vs2.length = NX) /\ Bx (∀ r, r < NX -> (r < q -> (vs2[r]!).n = renV m (X.vs[r]!).n) /\ (q <= r -> vs2[r]! = X.vs[r]!)) /\ Bx (FX wr w.heap.size vs2 X.vs q) /\ Bx (GStep w B (.slice (some ⟨gb, 0, none⟩) g.length c) g wr (g1.set (k + 1) ⟨vs2, X.s⟩)) /\ Bx (MI wr pb (plJ m M M))) (fun i _ => NX - (intOf i).toNat)
    case atStart => exact ⟨0, X.vs, by omega, rfl, ⟨HNX.out.symm⟩, ⟨fun r hr => ⟨fun h => by omega, fun _ => rfl⟩⟩, ⟨FX.zero _ _ _ _⟩, HS, HI9⟩
    case round =>
     clear HS HI9 HS9;obtain ⟨q, vs2, hq, rfl, hvl, hvs, hFX, hS, hI⟩ := hrel;obtain ⟨g2, hg2⟩ : ∃ g2, g2 = g1.set (k + 1) ⟨vs2, X.s⟩ := ⟨_, rfl⟩
     have HG2 := Bx.mk hg2;rw [<- hg2] at hS;have HK2 := Bx.mk (show k + 1 < g2.length by rw [hg2, zL]; exact HKX.out);have HX2 := Bx.mk (show g2[k + 1]'HK2.out = ⟨vs2, X.s⟩ by simp only [hg2]; rw [List.getElem_set, if_pos rfl]);clear hg2;by_cases hlt2 : q < NX
     ·have HQL := Bx.mk (show q < vs2.length by rw [hvl.out]; exact hlt2);have hql := HQL.out;have hqX : q < X.vs.length := (by rw [<- HNX.out]; exact hlt2);have hown := hS.out.go.lv _ (zM HK2.out);rw [HX2.out] at hown
      have hxe : vs2[q] = X.vs[q] := by
       have := (hvs.out q hlt2).2 (zR _);rwa [getElem!_pos vs2 q hql, getElem!_pos X.vs q hqX] at this
      have hxm := HPX.out _ (zM hqX);have hnm := hS.out.go.nm _ (zM HK2.out) (vs2[q]) (by rw [HX2.out]; exact zM hql);obtain ⟨x, hx⟩ : ∃ x, x = vs2[q]'HQL.out := ⟨_, rfl⟩
      rw [<- hxe, <- hx] at hxm;rw [<- hx] at hnm;have HXE := Bx.mk hx;have HXM := Bx.mk hxm;have HNM := Bx.mk hnm;have hown' := hown;rw [HXS.out] at hown'
      obtain ⟨nb, hnb, c0, c1, c2, hfz⟩ : ∃ nb, xa = some ⟨nb, 0, none⟩ /\ wr.cell? ⟨nb, q * 3, none⟩ = some (.string (bstr x.n.pol)) /\ wr.cell? ⟨nb, q * 3 + 1, none⟩ = some x.u.val /\ wr.cell? ⟨nb, q * 3 + 2, none⟩ = some x.q.val /\ ∀ i, wr.frozen? ⟨nb, i, none⟩ = false := by
       obtain ⟨nb, cap, hv, -, -, hfr, -, -⟩ := hown'.set1 encV_ok q 0 hql (by omega) (.string (bstr (vs2[q]).n.pol)) vs2[q] rfl;simp only [Value.slice.injEq] at hv
       obtain ⟨rfl, -, -⟩ := hv;have hc := fun i u (hi : i < 3) (hu : (encV vs2[q])[i]? = some u) => hown'.cell encV_ok q hql i hi u hu
       rw [<- hx] at hc;exact ⟨nb, rfl, hc 0 _ (by omega) rfl, hc 1 _ (by omega) rfl, hc 2 _ (by omega) rfl, hfr⟩
      subst hnb;obtain ⟨pa, pc, hpq, -⟩ := RqIn.form hnm.2.1;obtain ⟨ua, uc, hup, -⟩ := hnm.1.1.form;have HPC := Bx.mk (Ri.cells (hpq ▸ hnm.2.1.all));obtain ⟨PN, hPN⟩ : ∃ PN, PN = x.n.par.length := ⟨_, rfl⟩
      have HPN := Bx.mk hPN;have hPNb : PN <= 100000 := (by rw [hPN]; exact hnm.2.2.2.2.1);rw [hup] at c1;rw [hpq, <- hPN] at c2;obtain ⟨W4, hW4⟩ : ∃ W4, W4 = wr.alloc (.cells #[.string (bstr x.n.pol), .slice ua x.n.ex.length uc, .slice pa PN pc] 65) := ⟨_, rfl⟩
      have hb4 : Below wr.heap.size wr W4 := (by rw [hW4]; exact (Below.refl _ _).alloc (zR _) _);obtain ⟨q11, hq11⟩ : ∃ q, q = wr.heap.size := ⟨_, rfl⟩
      have hr11 : W4.heap[q11]? = some (.cells #[.string (bstr x.n.pol), .slice ua x.n.ex.length uc, .slice pa PN pc] 65 (0, 0)) := (by rw [hW4, hq11]; exact heap_alloc_new _ _);have HB4 := Bx.mk hb4;have HS4 := Bx.mk (hS.out.below hb4);have HI4 := Bx.mk (show MI W4 pb (plJ m M M) from (hb4.block pb (lt_of_some hI.out)).trans hI.out);have m11 := cell_of_row _ _ 2 _ _ _ hr11;simp only [List.getElem?_toArray, List.getElem?_cons_zero, List.getElem?_cons_succ] at m11
      have HFZ := Bx.mk hfz;have HSZ4 := Bx.mk (show wr.heap.size + 1 = W4.heap.size by rw [hW4]; simp);have HFX4 := Bx.mk (hFX.out.below hb4)
      have HFXC := Bx.mk (show ∀ r, r < q -> ∀ k, (vs2[r]!).q.val.ownBlock = some k -> k < W4.heap.size from fun r hr k hk => by
       have := ((hFX.out.own r hr).lt k hk).2
       have := hb4.size; omega)
      have HXU := Bx.mk (show x.u = (X.vs[q]!).u by rw [<- (hvs.out q hlt2).2 (zR _), getElem!_pos vs2 q hql, hx]);clear hown hown' hxe hxm hnm hx hpq hup hPN hr11 hb4 hql hqX hfz;go_upto_region 15 with fail
      rw [<- hW4, <- hq11];clear hW4 hq11 c0 c1 c2;go_wp2_with fail
      clear m11;go_loopw [12, 68] (fun pv i wz => ∃ n : Nat, n <= PN /\ i = .int .i64 n /\ Bx (Slc.Own wz W4.heap.size 3 1 encI pv (renP m (x.n.par.take n))) /\ Bx (Below W4.heap.size W4 wz)) (fun _ i _ => PN - (intOf i).toNat)
      case atStart => exact ⟨0, by omega, rfl, ⟨Slc.Own.nil _ _⟩, ⟨Below.refl _ _⟩⟩
      case round =>
       obtain ⟨n, hn', rfl, hO5, hB5⟩ := hrel;obtain ⟨ra, rc, rfl, -⟩ := hO5.out.rd.form;obtain ⟨RL, hRL⟩ : ∃ RL, RL = (renP m (x.n.par.take n)).length := ⟨_, rfl⟩
       have HRL := Bx.mk hRL;have hRLb : RL <= n := (by rw [hRL]; exact Nat.le_trans (renP_len _ _) (by rw [List.length_take]; omega));rw [<- hRL];clear hRL;by_cases hlt3 : n < PN
       ·have hnl : n < x.n.par.length := by rw [<- HPN.out]; exact hlt3
        obtain ⟨bp, op, rfl, hbp, d0⟩ := HPC.out wr (HB4.out.trans (hB5.out.mono HB4.out.size)) n hnl;have hpi := HXM.out _ (zM hnl);have HTK := Bx.mk (zA hnl);obtain ⟨p, hp⟩ : ∃ p, p = x.n.par[n] := ⟨_, rfl⟩
        rw [<- hp] at d0 hpi HTK;obtain ⟨pp, rfl⟩ : ∃ pp : Nat, p = (pp : Int) := ⟨p.toNat, by omega⟩
        have hppM : pp < M := (by rw [HM.out]; omega);have HRS := Bx.mk (show renP m (x.n.par.take (n + 1)) = renP m (x.n.par.take n) ++ if m[pp]! then [((rk m pp : Nat) : Int)] else [] by rw [HTK.out, renP_snoc]; rfl);obtain ⟨bm, om, rfl, hbm, cm⟩ := HMC'.out wr (fun q hq hn => (hB5.out.block q (by have := HS4.out.fr.size; omega)).trans (HS4.out.fr.block q hq hn)) pp (by rw [<- HM.out]; exact hppM);have hI5 : MI wr pb (plJ m M M) := (hB5.out.block pb (lt_of_some HI4.out)).trans HI4.out;have i0 := hI5.cell pp (by rw [plJ_length]; exact hppM);rw [plJ_at m M pp hppM] at i0;obtain ⟨mk, hmk⟩ : ∃ b, b = m[pp]! := ⟨_, rfl⟩
        rw [<- hmk] at cm HRS;obtain ⟨rp, hrp⟩ : ∃ r, r = rk m pp := ⟨_, rfl⟩
        rw [<- hrp] at i0 HRS;clear hI5 hp hpi hnl hmk hrp
        cases mk with
        | false =>
         go_wp2_with fail
         go_roundw
         case rel => exact ⟨n + 1, by omega, by go_num, ⟨by rw [HRS.out]; have := hO5.out; rw [<- HRL.out] at this; simpa using this⟩, hB5⟩
         case measure => simp [intOf]; omega
        | true =>
         have HSRC := Bx.mk (src_int wr (rp : Nat));have HBA := Bx.mk ((Below.refl wr.heap.size wr).alloc (zR _) (.cells #[.int .i64 (rp : Nat)] 3));have HOWN := Bx.mk (hO5.out.below HBA.out)
         have HOWR := Bx.mk (show World.ownsRow (wr.alloc (.cells #[.int .i64 (rp : Nat)] 3)) W4.heap.size 3 1 (.slice ra RL rc) RL ((renP m (x.n.par.take n)).flatMap encI) by
          have := HOWN.out;unfold Slc.Own at this
          rwa [<- HRL.out] at this)
         have hm1 : RL + 1 <= maxLen := (by unfold maxLen; omega);have hm2 : (RL + 1) * 8 <= 140737488355328 := (by omega);have hbz : W4.heap.size <= (wr.alloc (.cells #[.int .i64 (rp : Nat)] 3)).heap.size := (by have := hB5.out.size; simp; omega);go_wp2_with (at_builtin; refine wpList_append_any rfl _ _ _ rfl W4.heap.size 3 ib _ 1 8 und_ints hib hib0 hib1 hib2 rfl (by decide) _ RL ((renP m (x.n.par.take n)).flatMap encI) rfl HOWR.out _ 1 ([((rp : Nat) : Int)].flatMap encI) rfl HSRC.out hm1 hm2 hbz ?_)
         intro v6 w6 hapd
         have HO6 := Bx.mk (show Slc.Own w6 W4.heap.size 3 1 encI v6 (renP m (x.n.par.take (n + 1))) by
          rw [HRS.out];simp only [if_true]
          have h3 : Slc.Own (wr.alloc (.cells #[.int .i64 (rp : Nat)] 3)) W4.heap.size 3 1 encI (.slice ra RL rc) (renP m (x.n.par.take n)) := by have := HOWN.out; rwa [<- HRL.out] at this
          exact h3.apd (m := [((rp : Nat) : Int)]) rfl (by simp) HRL.out rfl hapd)
         have HB6 := Bx.mk (show Below W4.heap.size W4 w6 from (hB5.out.trans (HBA.out.mono hB5.out.size)).grown hapd.grown hbz fun q hq => (HOWN.out.lt q (by rw [<- HRL.out]; exact hq)).1);clear hapd hm1 hm2 hbz d0 cm i0;go_wp2_with fail
         go_roundw
         case rel => exact ⟨n + 1, by omega, by go_num, HO6, HB6⟩
         case measure => simp [intOf]; omega
       ·obtain rfl : n = PN := by omega
        have hRV : x.n.par.take n = x.n.par := (by rw [HPN.out, List.take_length]);have hgoz := HS4.out.go.below hB5.out;have hbz := HB4.out.trans (hB5.out.mono HB4.out.size);have hq2 : q < (g2[k + 1]'HK2.out).vs.length := (by rw [HX2.out]; exact HQL.out);have hgx : (g2[k + 1]'HK2.out).vs[q]'hq2 = x := (by rw [HXE.out]; congr 1; rw [HX2.out]);have hO6 := hO5.out;rw [hRV, <- show RL = (renP m x.n.par).length by rw [HRL.out, hRV]] at hO6
        have hpar : RqIn wr (fun j => ¬ GB (.slice (some ⟨gb, 0, none⟩) g.length c) g2 j) encI (.slice ra RL rc) (renP m x.n.par) := .inr ⟨hO6.rd, fun r hr hn => by
         have h1 := (hO6.lt r hr).1;have h2 := (HS4.out.go.lt hn).2
         omega⟩
        have hxin : VtIn wr (fun j => ¬ GB (.slice (some ⟨gb, 0, none⟩) g.length c) g2 j) ⟨renV m x.n, x.u, ⟨ra, RL, rc⟩⟩ :=
         ⟨(HNM.out.below hbz).1, hpar, renV_ok HNM.out.2.2 HXM.out (by rw [<- HM.out]; exact hMb)⟩
        obtain ⟨nb', cap', hv', hnl', hfr', hgo', hgr'⟩ := hgoz.setV (k + 1) HK2.out q hq2 2 (by omega) (.slice ra RL rc) ⟨renV m x.n, x.u, ⟨ra, RL, rc⟩⟩ (by rw [hgx]; rfl) hxin;have hv2 : (g2[k + 1]'HK2.out).s.val = .slice (some ⟨nb, 0, none⟩) NX xc := (by rw [HX2.out]; exact HXS.out);rw [hv2] at hv';simp only [Value.slice.injEq, zO, Addr.mk.injEq, and_true] at hv'
        obtain ⟨rfl, -, -⟩ := hv'
        have hset : g2.set (k + 1) ⟨(g2[k + 1]'HK2.out).vs.set q ⟨renV m x.n, x.u, ⟨ra, RL, rc⟩⟩, (g2[k + 1]'HK2.out).s⟩ = g1.set (k + 1) ⟨vs2.set q ⟨renV m x.n, x.u, ⟨ra, RL, rc⟩⟩, X.s⟩ := by
         rw [HX2.out, HG2.out, List.set_set]
        rw [hset] at hgo';obtain ⟨gb5, he5, x9, -⟩ := hgoz.cellL (k + 1) HK2.out;simp only [zO, Addr.mk.injEq, and_true] at he5
        subst he5;rw [hv2] at x9;have hnbG : GB (.slice (some ⟨gb, 0, none⟩) g.length c) g nb := .inr ⟨X, by rw [HXG.out]; exact zM _, by rw [HXS.out]; rfl⟩;have hnbp : pb ≠ nb := by have := (HG.out.lt hnbG).2; have := HP.out; omega
        have c2 : wr.cell? ⟨nb, q * 3 + 2, none⟩ = some (x.q.val) := by
         have h1 := hgoz.lv _ (zM HK2.out);rw [hv2] at h1;have := h1.cell encV_ok q hq2 2 (by omega) x.q.val (by rw [hgx]; rfl);exact this
        have z2 := hfr' (q * 3 + 2);obtain ⟨W8, hW8⟩ : ∃ W8, W8 = wr.setCell ⟨nb, q * 3 + 2, none⟩ (.slice ra RL rc) := ⟨_, rfl⟩
        have HW8 := Bx.mk hW8
        have HI8 := Bx.mk (show MI W8 pb (plJ m M M) by
         rw [hW8]
         exact MI.other ((hB5.out.block pb (lt_of_some HI4.out)).trans HI4.out) hnbp _)
        rw [<- hW8] at hgo' hgr'
        have HS8 := Bx.mk (show GStep w B (.slice (some ⟨gb, 0, none⟩) g.length c) g W8 (g1.set (k + 1) ⟨vs2.set q ⟨renV m x.n, x.u, ⟨ra, RL, rc⟩⟩, X.s⟩) from
         ⟨hgo', (HS4.out.below hB5.out).fr.trans (Fr.of_grown (S := GB (.slice (some ⟨gb, 0, none⟩) g.length c) g) hgr' fun r hr => by
           simp only [zO] at hr; subst hr; exact hnbG) (fun _ _ h => h), fun r hr => by
          rw [<- hset] at hr
          exact HS4.out.nb r ((GB.same HK2.out _).1 hr)⟩)
        have HV8 := Bx.mk (show ∀ r, r < NX -> (r < q + 1 -> ((vs2.set q ⟨renV m x.n, x.u, ⟨ra, RL, rc⟩⟩)[r]!).n = renV m (X.vs[r]!).n) /\ (q + 1 <= r -> (vs2.set q ⟨renV m x.n, x.u, ⟨ra, RL, rc⟩⟩)[r]! = X.vs[r]!) from fun r hr => by
         have hr2 : r < vs2.length := (by rw [hvl.out]; exact hr);have h0 := hvs.out r hr;rw [getElem!_pos vs2 r hr2] at h0;rw [getElem!_pos (vs2.set q _) r (by simpa using hr2), List.getElem_set];by_cases e : q = r
         ·subst e;rw [if_pos rfl];refine ⟨fun _ => ?_, fun h => by omega⟩;rw [<- h0.2 (zR _)]
          show renV m x.n = renV m (vs2[q]).n
          rw [HXE.out]
         ·rw [if_neg e]
          exact ⟨fun h => h0.1 (by omega), fun h => h0.2 (by omega)⟩)
        have HVL8 := Bx.mk (show (vs2.set q ⟨renV m x.n, x.u, ⟨ra, RL, rc⟩⟩).length = NX by rw [zL]; exact hvl.out)
        have HFX8 := Bx.mk (show FX W8 w.heap.size (vs2.set q ⟨renV m x.n, x.u, ⟨ra, RL, rc⟩⟩) X.vs (q + 1) by
         rw [hW8];refine FX.setCell ?_ ((HG.out.lt hnbG).2) _ _
         refine FX.set (C := W4.heap.size) (HFX4.out.below hB5.out) HQL.out HXU.out hO6 (by have := HS4.out.fr.size; omega) HFXC.out)
        have w1k : IntKind.i64.wrap ((k : Int) + 1) = ((k + 1 : Nat) : Int) := (by rw [IntWalk.i64_in _ (by omega)]; omega);clear hW8 hgo' hgr' hset hv2 hfr' hnbp hnbG hO6 hpar hxin hgoz hbz hgx hRV hnl';simp only [Sl.val] at c2
        go_wp2_with fail
        rw [<- HW8.out];go_roundw
        case rel => exact ⟨q + 1, _, by omega, by go_num, HVL8, HV8, HFX8, HS8, HI8⟩
        case measure => simp [intOf]; omega
     ·obtain rfl : q = NX := by omega
      have HFE := Bx.mk (show gxs g2 = filtG (gxs g) k m by
       rw [HG2.out];unfold filtG;rw [gxs_len, <- HN.out, if_pos hk1N, <- HG1.out];have e1 : gxs (g1.set (k + 1) ⟨vs2, X.s⟩) = (gxs g1).set (k + 1) (vxs vs2) := List.map_set;rw [e1, gxs_at' g (k + 1) HK1.out, <- HXG.out];congr 1
       apply List.ext_getElem
       ·simp [vxs, hvl.out, HNX.out]
       ·intro r h1 h2;have hr1 : r < vs2.length := (by simpa [vxs] using h1);have hr2 : r < X.vs.length := (by rw [<- HNX.out, <- hvl.out]; exact hr1);have := (hvs.out r (by rw [<- hvl.out]; exact hr1)).1 (by rw [<- hvl.out]; exact hr1);rw [getElem!_pos vs2 r hr1, getElem!_pos X.vs r hr2] at this;simp only [vxs, List.getElem_map]
        exact this)
      have HFR := Bx.mk (show FiltR w wr g g2 k m by
       have hl2 : g2.length = g.length := (by rw [HG2.out, zL, HG1L.out]);refine ⟨hl2, fun i h1 h2 h3 h4 => ?_, fun h1 h2 => ?_, fun h1 h2 => ?_⟩
       ·simp only [HG2.out, HG1D.out]
        rw [List.getElem_set, if_neg (fun e => h4 e.symm), List.getElem_set, if_neg (fun e => h3 e.symm)]
       ·simp only [HG2.out, HG1D.out]
        rw [List.getElem_set, if_neg (by omega), List.getElem_set_self, <- HL.out, <- HNV.out]
       ·have e : g2[k + 1]'h2 = ⟨vs2, X.s⟩ := HX2.out;rw [e, <- HXG.out, <- HNX.out]
        exact ⟨hvl.out, hFX.out⟩)
      go_wp2_with fail
      go_end0
      rw [HN.out];exact ⟨⟨_, rfl⟩, _, hS.out, HFE.out, HFR.out⟩
end Go.Proofs.YtmagjdocondmhaaGreat.Tr.Gr
namespace Go.Proofs.YtmagjdocondmhaaGreat.Tr.Gr
open Go Go.RowKit Slc St Mp Tr
attribute [local go_sem] Oper.semAt_some
theorem cloneI_any (w : World) (v : Value) (l : List Int) (h : Ri w v l) (hl : l.length <= 1000000) :
  Calls Tryz.prog 101 #[v] w fun e w' => ∃ u, e = .returned u /\ Slc.Own w' w.heap.size 3 1 encI u l /\ Below w.heap.size w w' := by
 obtain ⟨i0, hi, hz0, hz1, hz2⟩ := info_parts info_int;obtain ⟨ad, c, rfl, -⟩ := RqIn.form h
 cases ad with
 | none =>
  have hl0 : l = [] := by
   rcases h with ⟨h, -⟩ | h
   ·exact h
   ·rcases h.1 with ⟨-, h⟩ | ⟨b, o, c', h, -⟩
    ·exact h
    ·cases h
  subst hl0;have hq := fun W : World => Lib.run_eql_slice_nil (P := Tryz.prog) W 22 _ none 0 c 0 0 und_ints
  go_enter Tryz.func101, Tryz.ntmps101;go_wp2
  go_ret
  exact ⟨_, rfl, Slc.Own.nil _ _, Below.refl _ _⟩
 | some a =>
  have hsrc : SrcV w 1 (.slice (some a) l.length c) l.length (l.flatMap encI) := by
   rcases h with ⟨rfl, -⟩ | h
   ·exact .ro a 0 c [] rfl (fun j u hj => by simp at hj) (fun u hu => by cases hu)
   ·exact h.1.src encI_ok
  have hs1 := hsrc.below ((Below.refl w.heap.size w).alloc (zR _) (.cells #[] 3));have HS := Bx.mk hs1;have hn := heap_alloc_new w (.cells #[] 3);have HN := Bx.mk hn;have hq := fun W : World => Lib.run_eql_slice_nil (P := Tryz.prog) W 22 _ (some a) l.length c 0 0 und_ints
  clear hs1 hsrc hn h;go_enter Tryz.func101, Tryz.ntmps101;have hs2 := HS.out;have hn2 := HN.out;go_wp2_with (at_builtin; refine wpList_append_fresh rfl _ _ _ rfl w.heap.size 3 i0 _ 1 8 und_ints hi hz0 hz1 hz2 rfl (by decide) w.heap.size rfl hn2 (zR _) (by simp) _ l.length (l.flatMap encI) rfl hs2 ?ap1 ?ap2 ?_)
  case ap1 => unfold maxLen; omega
  case ap2 => omega
  intro v' w4 hown hb _;have HO := Bx.mk (show Slc.Own w4 w.heap.size 3 1 encI v' l from hown);have HB := Bx.mk (((Below.refl w.heap.size w).alloc (zR _) (.cells #[] 3)).trans (hb.mono (by simp)));clear hown hb hs2 hn2 hq;go_wp2
  go_ret;exact ⟨_, rfl, HO.out, HB.out⟩
theorem cloneV_any (w : World) (v : Value) (l : List Vt) (h : VL w v l) (hl : l.length <= 1000000) :
  Calls Tryz.prog 99 #[v] w fun e w' => ∃ u, e = .returned u /\ Slc.Own w' w.heap.size 65 3 encV u l /\ Below w.heap.size w w' := by
 obtain ⟨i0, hi, hz0, hz1, hz2⟩ := info_parts info_ver;have hsrc := h.rd.src encV_ok;obtain ⟨hrd, -⟩ := h;rcases hrd with ⟨rfl, rfl⟩ | ⟨b, o, c, rfl, hlt, hc, hcell⟩
 ·have hq := fun W : World => Lib.run_eql_slice_nil (P := Tryz.prog) W 61 _ none 0 0 0 0 und_vers
  go_enter Tryz.func99, Tryz.ntmps99;go_wp2
  go_ret;exact ⟨_, rfl, Slc.Own.nil _ _, Below.refl _ _⟩
 ·clear hcell;have hs1 := hsrc.below ((Below.refl w.heap.size w).alloc (zR _) (.cells #[] 65));have HS := Bx.mk hs1;have hn := heap_alloc_new w (.cells #[] 65);have HN := Bx.mk hn;have hq := fun W : World => Lib.run_eql_slice_nil (P := Tryz.prog) W 61 _ (some ⟨b, o, none⟩) l.length c 0 0 und_vers
  clear hs1 hsrc hn;go_enter Tryz.func99, Tryz.ntmps99;have hs2 := HS.out;have hn2 := HN.out;go_wp2_with (at_builtin; refine wpList_append_fresh rfl _ _ _ rfl w.heap.size 65 i0 _ 3 64 und_vers hi hz0 hz1 hz2 rfl (by decide) w.heap.size rfl hn2 (zR _) (by simp) _ l.length (l.flatMap encV) rfl hs2 ?ap1 ?ap2 ?_)
  case ap1 => unfold maxLen; omega
  case ap2 => omega
  intro v' w4 hown hb _;have HO := Bx.mk (show Slc.Own w4 w.heap.size 65 3 encV v' l from hown);have HB := Bx.mk (((Below.refl w.heap.size w).alloc (zR _) (.cells #[] 65)).trans (hb.mono (by simp)));clear hown hb hs2 hn2 hq;go_wp2
  go_ret;exact ⟨_, rfl, HO.out, HB.out⟩
end Go.Proofs.YtmagjdocondmhaaGreat.Tr.Gr
