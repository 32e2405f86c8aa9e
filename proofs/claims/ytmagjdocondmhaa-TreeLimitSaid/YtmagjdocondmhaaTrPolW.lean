/-
  ptree.children.
-/
/-
  ptree.Policies.
-/
import Derived.Test.YtmagjdocondmhaaTrSetB
import Derived.Test.YtmagjdocondmhaaTrKeep
namespace Go.Proofs.Ytmagjdocondmhaa.Tr
open Go Go.RowKit Go.Proofs.Ytmagjdocondmhaa.Slc Go.Proofs.Ytmagjdocondmhaa.St Go.Proofs.Ytmagjdocondmhaa.Mp
set_option linter.unusedVariables false
set_option linter.unusedSimpArgs false
attribute [local go_sem] Oper.semAt_some

theorem u_str : Try.prog.underlying 9 = some .string := Try.underlying9
theorem u_mapSB : Try.prog.underlying 66 = some (.map 9 4) := Try.underlying66
noncomputable abbrev kS : Ky Try.prog 9 (List UInt8) := kyStr u_str
theorem src_str (w : World) (x : B) : SrcV (w.alloc (.cells #[.string (bstr x)] 9)) 1 (.slice (some ⟨w.heap.size, 0, none⟩) 1 1) 1 ([x].flatMap encS) := by
  refine .ro _ _ _ _ (by simp [encS]) (fun j u hj => ?_) (fun u hu => ?_)
  · rw [add_at]
    have e : ([x].flatMap encS) = [.string (bstr x)] := by simp [encS]
    rw [e] at hj
    unfold World.cell?
    rw [heap_alloc_new]
    simp only [Nat.zero_add]
    simpa using hj
  · rw [List.mem_flatMap] at hu
    obtain ⟨y, -, hy⟩ := hu
    exact encS_ok.one y u hy
/-- strings that the call owns, grown from W on -/
structure GS (W : World) (Bk : Nat) (wr : World) (v : Value) (l : List B) : Prop where
  own : Slc.Own wr Bk 9 1 encS v l
  bel : Below Bk W wr
  le : Bk ≤ W.heap.size
theorem GS.nil (W : World) (Bk : Nat) (h : Bk ≤ W.heap.size) : GS W Bk W (.slice none 0 0) [] := ⟨Slc.Own.nil _ _, Below.refl _ _, h⟩
theorem GS.sz {W wr : World} {Bk : Nat} {v : Value} {l : List B} (h : GS W Bk wr v l) : Bk ≤ wr.heap.size := Nat.le_trans h.le h.bel.size
theorem GS.below {W wr w1 : World} {Bk : Nat} {v : Value} {l : List B} (h : GS W Bk wr v l) (hb : Below wr.heap.size wr w1) : GS W Bk w1 v l := ⟨h.own.below hb, h.bel.trans (hb.mono h.sz), h.le⟩
theorem GS.form {W wr : World} {Bk : Nat} {v : Value} {l : List B} (h : GS W Bk wr v l) : ∃ ad c, v = .slice ad l.length c ∧ l.length ≤ c := h.own.rd.form
theorem GS.apd {W wr w' : World} {Bk : Nat} {v v' : Value} {l m : List B} (h : GS W Bk wr v l) (h' : Apd wr Bk 9 1 v l.length m.length (l.flatMap encS) (m.flatMap encS) v' w') : GS W Bk w' v' (l ++ m) :=
  ⟨h.own.apd rfl rfl rfl rfl h', h.bel.grown h'.grown h.sz fun k hk => (h.own.lt k hk).1, h.le⟩
/-- what children takes -/
def wantF (f : B → Option Bool) (n : Nd) (p : B) : Bool := decide (p ≠ anyP) && (decide (p ∈ n.ex) || (!((f p).getD false) && spec n))
set_option maxRecDepth 100000 in
set_option maxHeartbeats 4000000 in
theorem children_any (w : World) (x : Nt) (pv : Value) (pol : List B) (b q : Nat) (f : B → Option Bool) (all : Bool) (hx : NtAt w x) (hp : Rd w encS pv pol) (hpl : pol.length ≤ 100000) (hpx : ∀ p ∈ pol, p.length ≤ 1000000) (hm : OwnF w kS rdB edB b q f) :
    Calls Try.prog 40 #[nodV x, pv, .map (some b), .bool all] w fun e w' => ∃ v', e = .returned v' ∧ Slc.Own w' w.heap.size 9 1 encS v' (setB (pol.filter (wantF f x.n) ++ if all then x.n.ex else [])) ∧ Below w.heap.size w w' := by
  obtain ⟨i0, hi0, hz0, hz1, hz2⟩ := info_parts info_str
  obtain ⟨pa, pc, rfl, -⟩ := hp.form
  have HPC := Bx.mk (strs_cells hp).2
  have HPX := Bx.mk hpx
  have HX := Bx.mk hx
  have HMM := Bx.mk hm
  obtain ⟨N, hN⟩ : ∃ N, N = pol.length := ⟨_, rfl⟩
  have HN := Bx.mk hN
  rw [← hN] at hpl ⊢
  clear hN hp hpx hx hm
  unfold nodV
  simp only [Sl.val]
  obtain ⟨q0, hq0⟩ : ∃ q0, q0 = w.heap.size := ⟨_, rfl⟩
  have HQ0 := Bx.mk hq0
  obtain ⟨W0, hW0⟩ : ∃ W0, W0 = w.alloc (.cells #[.int .i64 x.n.d, .int .i64 x.n.p, .string (bstr x.n.pol), .slice x.u.ad x.u.n x.u.c] 56) := ⟨_, rfl⟩
  have HR0 := Bx.mk (show W0.heap[q0]? = some (.cells #[.int .i64 x.n.d, .int .i64 x.n.p, .string (bstr x.n.pol), .slice x.u.ad x.u.n x.u.c] 56 (0, 0)) by rw [hW0, hq0]; exact heap_alloc_new _ _)
  have HB0 := Bx.mk (show Below w.heap.size w W0 by rw [hW0]; exact (Below.refl _ _).alloc (Nat.le_refl _) _)
  have HS0 := Bx.mk (show W0.heap.size = q0 + 1 by rw [hW0, hq0]; simp)
  go_enter Try.func40, Try.ntmps40
  go_upto_region 1 with fail
  rw [← hW0, ← hq0]
  clear hW0 hq0
  go_wp2_with fail
  go_loopw [9, 14] (fun ov i wr => ∃ (k : Nat) (out : List B), k ≤ N ∧ i = .int .i64 k ∧ out.length ≤ k ∧ Bx (GS W0 (q0 + 1) wr ov out) ∧ Bx (out = (pol.take k).filter (wantF f x.n))) (fun _ i _ => N - (intOf i).toNat)
  case atStart => exact ⟨0, [], by omega, rfl, by simp, ⟨GS.nil _ _ (by have := HS0.out; omega)⟩, ⟨by simp⟩⟩
  case round =>
    obtain ⟨k, out, hk, rfl, hlen, hG, hF⟩ := hrel
    obtain ⟨av, cv, rfl, -⟩ := hG.out.form
    have hb0 : Below w.heap.size w wr := HB0.out.trans (hG.out.bel.mono (by have := HQ0.out; omega))
    have HBW := Bx.mk hb0
    have HR1 := Bx.mk ((hG.out.bel.block q0 (by omega)).trans HR0.out)
    by_cases hlt : k < N
    · have hkl : k < pol.length := by rw [← HN.out]; exact hlt
      obtain ⟨bp, op, rfl, hbl, c0⟩ := HPC.out wr hb0 k hkl
      have HTK := Bx.mk (show (pol.take (k + 1)).filter (wantF f x.n) = (pol.take k).filter (wantF f x.n) ++ if wantF f x.n pol[k] then [pol[k]] else [] by
        rw [List.take_succ_eq_append_getElem hkl, List.filter_append]
        cases h : wantF f x.n pol[k] <;> simp [List.filter_cons, h])
      have hpk := HPX.out pol[k] (List.getElem_mem hkl)
      obtain ⟨p, hpp⟩ : ∃ p, p = pol[k] := ⟨_, rfl⟩
      rw [← hpp] at c0 HTK hpk
      clear hpp hkl hbl hb0
      go_upto_region 5 with fail
      obtain ⟨R, hR⟩ : ∃ R, R = wantF f x.n p := ⟨_, rfl⟩
      have HRR := Bx.mk hR
      rw [← hR] at HTK
      clear hR
      go_cut [35] (fun c wx => c = .bool R ∧ Below wr.heap.size wr wx)
      case first =>
        have hs := same_any p
        have r0 := HR1.out
        have m0 := cell_of_row _ _ 0 _ _ _ r0
        have m1 := cell_of_row _ _ 1 _ _ _ r0
        have m2 := cell_of_row _ _ 2 _ _ _ r0
        have m3 := cell_of_row _ _ 3 _ _ _ r0
        simp only [List.getElem?_toArray, List.getElem?_cons_zero, List.getElem?_cons_succ] at m0 m1 m2 m3
        have hct := contains_any wr x.u.val x.n.ex p (HX.out.1.below HBW.out) (by have := HX.out.2.1.1; omega)
        have hsp := special_any x wr
        have hlk := ((HMM.out.below HBW.out).lookS u_mapSB Value.bool false (Try.zeroValue4 _) rdB_mk rdB_inv (k := p) (by unfold maxLen; omega)).1
        have hRw := HRR.out
        unfold wantF at hRw
        unfold nodV at hsp
        simp only [Sl.val] at hsp hct
        obtain ⟨tp, htp⟩ : ∃ t, t = decide (p = anyP) := ⟨_, rfl⟩
        obtain ⟨te, hte⟩ : ∃ t, t = decide (p ∈ x.n.ex) := ⟨_, rfl⟩
        obtain ⟨tf, htf⟩ : ∃ t, t = (f p).getD false := ⟨_, rfl⟩
        obtain ⟨ts, hts⟩ : ∃ t, t = spec x.n := ⟨_, rfl⟩
        rw [show decide (p ≠ anyP) = !tp by rw [htp]; exact decide_not, ← hte, ← htf, ← hts] at hRw
        rw [← htp] at hs
        rw [← hte] at hct
        rw [← htf] at hlk
        rw [← hts] at hsp
        have HH := Bx.mk hRw
        clear hRw htp hte htf hts r0 HRR
        have hlk' : (Instr.lookup 66 (.map (some b)) (.string (bstr p)) false).run Try.prog wr = .ok (.bool tf) wr := hlk
        clear hlk
        generalize bstr p = PS at *
        cases tp with
        | true =>
          go_wp2_with fail
          go_meet
          exact ⟨by rw [HH.out]; rfl, Below.refl _ _⟩
        | false =>
          cases te with
          | true =>
            clear hsp hlk'
            go_wp2_with fail
            go_at_call 39
            refine hct.mono ?_
            rintro e w2 ⟨rfl, rfl⟩
            go_wp2_with fail
            go_meet
            exact ⟨by rw [HH.out]; rfl, Below.refl _ _⟩
          | false =>
            cases tf with
            | true =>
              clear hsp
              go_wp2_with fail
              go_at_call 39
              refine hct.mono ?_
              rintro e w2 ⟨rfl, rfl⟩
              go_wp2_with fail
              go_meet
              exact ⟨by rw [HH.out]; rfl, Below.refl _ _⟩
            | false =>
              go_wp2_with fail
              go_at_call 39
              refine hct.mono ?_
              rintro e w2 ⟨rfl, rfl⟩
              clear hct
              go_wp2_with fail
              go_at_call 51
              refine hsp.mono ?_
              rintro e w2 ⟨rfl, hb2⟩
              go_wp2_with fail
              go_meet
              exact ⟨by rw [HH.out]; cases ts <;> rfl, hb2⟩
      case rest =>
      obtain ⟨rfl, hbW⟩ := hcut
      have HG2 := Bx.mk (hG.out.below hbW)
      clear c0 hbW
      cases R with
      | true =>
        have HSRC := Bx.mk (src_str wc p)
        have HOWN := Bx.mk (show Slc.Own (wc.alloc (.cells #[.string (bstr p)] 9)) (q0 + 1) 9 1 encS (.slice av out.length cv) out from HG2.out.own.below ((Below.refl _ _).alloc (Nat.le_refl _) _))
        have HG3 := Bx.mk (HG2.out.below (show Below wc.heap.size wc (wc.alloc (.cells #[.string (bstr p)] 9)) from (Below.refl _ _).alloc (Nat.le_refl _) _))
        have hm1 : out.length + 1 ≤ maxLen := by unfold maxLen; omega
        have hm2 : (out.length + 1) * 16 ≤ 140737488355328 := by omega
        have hbz : q0 + 1 ≤ (wc.alloc (.cells #[.string (bstr p)] 9)).heap.size := HG3.out.sz
        go_wp2_with (at_builtin; refine wpList_append_any rfl _ _ _ rfl (q0 + 1) 9 i0 _ 1 16 und_strs hi0 hz0 hz1 hz2 rfl (by decide) _ out.length (out.flatMap encS) rfl HOWN.out _ 1 ([p].flatMap encS) rfl HSRC.out hm1 hm2 hbz ?_)
        intro v9 w9 hapd
        have HG9 := Bx.mk (HG3.out.apd (m := [p]) hapd)
        have HF9 := Bx.mk (show out ++ [p] = (pol.take (k + 1)).filter (wantF f x.n) by rw [HTK.out, hF.out]; rfl)
        clear hapd hm1 hm2 hbz
        go_wp2_with fail
        go_roundw
        case rel => exact ⟨k + 1, out ++ [p], by omega, by go_num, by simp; omega, HG9, HF9⟩
        case measure => simp [intOf]; omega
      | false =>
        have HF9 := Bx.mk (show out = (pol.take (k + 1)).filter (wantF f x.n) by rw [HTK.out, hF.out]; simp)
        go_wp2_with fail
        go_roundw
        case rel => exact ⟨k + 1, out, by omega, by go_num, by omega, HG2, HF9⟩
        case measure => simp [intOf]; omega
    · obtain rfl : k = N := by omega
      have HF2 := Bx.mk (show out = pol.filter (wantF f x.n) by rw [hF.out, HN.out, List.take_length])
      clear hF hb0
      cases all with
      | false =>
        have hset := set_any wr _ out hG.out.own.rd (by omega)
        go_wp2_with fail
        go_at_call 38
        refine hset.mono ?_
        rintro e w2 ⟨v2, rfl, ho, hb2⟩
        obtain ⟨a2, c2, rfl, -⟩ := ho.rd.form
        have HO := Bx.mk ho
        have HB2 := Bx.mk hb2
        clear hset ho hb2
        go_wp2_with fail
        go_ret
        refine ⟨_, rfl, ?_, HBW.out.trans (HB2.out.mono HBW.out.size)⟩
        rw [show pol.filter (wantF f x.n) = out from HF2.out.symm]
        exact HO.out.mono HBW.out.size
      | true =>
        have r0 := HR1.out
        have m3 := cell_of_row _ _ 3 _ _ _ r0
        simp only [List.getElem?_toArray, List.getElem?_cons_zero, List.getElem?_cons_succ] at m3
        have HSRC := Bx.mk ((HX.out.1.below HBW.out).src encS_ok)
        have HXL := HX.out.2.1.1
        have hm1 : out.length + x.n.ex.length ≤ maxLen := by unfold maxLen; omega
        have hm2 : (out.length + x.n.ex.length) * 16 ≤ 140737488355328 := by omega
        have hbz := hG.out.sz
        clear r0
        go_wp2_with (at_builtin; refine wpList_append_any rfl _ _ _ rfl (q0 + 1) 9 i0 _ 1 16 und_strs hi0 hz0 hz1 hz2 rfl (by decide) _ out.length (out.flatMap encS) rfl hG.out.own _ x.n.ex.length (x.n.ex.flatMap encS) rfl HSRC.out hm1 hm2 hbz ?_)
        intro v9 w9 hapd
        have hg9 := hG.out.apd (m := x.n.ex) hapd
        have hset := set_any w9 _ (out ++ x.n.ex) hg9.own.rd (by simp; omega)
        have HB9 := Bx.mk (show Below w.heap.size w w9 from HB0.out.trans (hg9.bel.mono (by have := HQ0.out; omega)))
        obtain ⟨a9, c9, rfl, -⟩ := hg9.form
        simp only [List.length_append] at hset
        clear hapd hm1 hm2 hbz hg9
        go_wp2_with fail
        go_at_call 38
        refine hset.mono ?_
        rintro e w2 ⟨v2, rfl, ho, hb2⟩
        obtain ⟨a2, c2, rfl, -⟩ := ho.rd.form
        have HO := Bx.mk ho
        have HB2 := Bx.mk hb2
        clear hset ho hb2
        go_wp2_with fail
        go_ret
        refine ⟨_, rfl, ?_, HB9.out.trans (HB2.out.mono HB9.out.size)⟩
        rw [show pol.filter (wantF f x.n) = out from HF2.out.symm]
        exact HO.out.mono HB9.out.size
end Go.Proofs.Ytmagjdocondmhaa.Tr

namespace Go.Proofs.Ytmagjdocondmhaa.Tr
open Go Go.RowKit Go.Proofs.Ytmagjdocondmhaa.Slc Go.Proofs.Ytmagjdocondmhaa.St Go.Proofs.Ytmagjdocondmhaa.Mp
set_option linter.unusedVariables false
set_option linter.unusedSimpArgs false
attribute [local go_sem] Oper.semAt_some

theorem polK_len (t : List Nd) (D : Int) (k : Nat) : (polK t D k).length ≤ k := by
  unfold polK; rw [List.length_map]
  exact Nat.le_trans (List.length_filter_le _ _) (by simp)
set_option maxRecDepth 100000 in
set_option maxHeartbeats 4000000 in
theorem ppol_any (w : World) (v : Value) (l : List Nt) (h : TL w v l) (hn : l.length ≤ 100000) (D : Int) :
    Calls Try.prog 29 #[v, .int .i64 D] w fun e w' => ∃ v', e = .returned v' ∧ Slc.Own w' w.heap.size 9 1 encS v' (polP (nds l) D) ∧ Below w.heap.size w w' := by
  obtain ⟨i0, hi0, hz0, hz1, hz2⟩ := info_parts info_str
  have hval := valid_any w v l h hn D
  obtain ⟨ad, c, rfl, -⟩ := h.rd.form
  have HL := Bx.mk h
  have HC := Bx.mk h.cells.2
  obtain ⟨V, hV⟩ : ∃ V, V = validB (nds l) D := ⟨_, rfl⟩
  rw [← hV] at hval
  have HV := Bx.mk hV
  obtain ⟨N, hN⟩ : ∃ N, N = l.length := ⟨_, rfl⟩
  have HN := Bx.mk hN
  rw [← hN] at hn hval ⊢
  clear h hV hN
  go_enter Try.func29, Try.ntmps29
  go_wp2_with fail
  go_at_call 15
  refine hval.mono ?_
  rintro e w1 ⟨rfl, hb1⟩
  clear hval
  cases V with
  | false =>
    have HF := Bx.mk (show polP (nds l) D = [] by unfold polP; rw [← HV.out]; rfl)
    go_wp2_with fail
    go_ret
    exact ⟨_, rfl, by rw [HF.out]; exact Slc.Own.nil _ _, hb1⟩
  | true =>
    have VV := (valid_iff _ _).1 HV.out.symm
    have HVV := Bx.mk VV
    have HF := Bx.mk (show polP (nds l) D = setB (polK (nds l) D N) by unfold polP; rw [← HV.out, nds_len, HN.out]; rfl)
    have HB1 := Bx.mk hb1
    clear VV hb1
    go_wp2_with fail
    go_loopw [5, 14] (fun ov i wr => ∃ (k : Nat) (out : List B), k ≤ N ∧ i = .int .i64 k ∧ out.length ≤ k ∧ Bx (GS w w.heap.size wr ov out) ∧ Bx (out = polK (nds l) D k)) (fun _ i _ => N - (intOf i).toNat)
    case atStart => exact ⟨0, [], by omega, rfl, by simp, ⟨(GS.nil w _ (Nat.le_refl _)).below HB1.out⟩, ⟨by simp [polK]⟩⟩
    case round =>
      obtain ⟨k, out, hk, rfl, hlen, hG, hF⟩ := hrel
      obtain ⟨av, cv, rfl, -⟩ := hG.out.form
      have hb0 : Below w.heap.size w wr := hG.out.bel
      by_cases hlt : k < N
      · have hkl : k < l.length := by rw [← HN.out]; exact hlt
        obtain ⟨b, o, rfl, hbl, c0, c1, c2, c3⟩ := HC.out wr hb0 k hkl
        have HX := Bx.mk (show (nds l)[k]! = (l[k]).n from nds_at l k hkl)
        have hpp := HVV.out.pge (i := k) (by rw [nds_len]; exact hkl)
        have HPL := Bx.mk (HL.out.at_ l[k] (List.getElem_mem hkl)).2.2
        obtain ⟨x, hx⟩ : ∃ x, x = l[k] := ⟨_, rfl⟩
        rw [← hx] at c0 c1 c2 c3 HX HPL
        rw [HX.out] at hpp
        simp only [Sl.val] at c3
        clear hx hbl
        obtain ⟨W1, hW1⟩ : ∃ W1, W1 = wr.alloc (.cells #[.int .i64 x.n.d, .int .i64 x.n.p, .string (bstr x.n.pol), .slice x.u.ad x.u.n x.u.c] 56) := ⟨_, rfl⟩
        obtain ⟨bn, hbn⟩ : ∃ bn, bn = wr.heap.size := ⟨_, rfl⟩
        have HQ1 := Bx.mk (show W1.heap[bn]? = some (.cells #[.int .i64 x.n.d, .int .i64 x.n.p, .string (bstr x.n.pol), .slice x.u.ad x.u.n x.u.c] 56 (0, 0)) by rw [hW1, hbn]; exact heap_alloc_new _ _)
        have HBA := Bx.mk (show Below wr.heap.size wr W1 by rw [hW1]; exact (Below.refl _ _).alloc (Nat.le_refl _) _)
        go_upto_region 7 with fail
        rw [← hW1, ← hbn]
        clear hW1 hbn c0 c1 c2 c3
        have hbW1 : Below w.heap.size w W1 := hb0.trans (HBA.out.mono hb0.size)
        have HBW1 := Bx.mk hbW1
        obtain ⟨R, hR⟩ : ∃ R, R = polC (nds l) D x.n := ⟨_, rfl⟩
        have HRR := Bx.mk hR
        have HKS := Bx.mk (show polK (nds l) D (k + 1) = polK (nds l) D k ++ if R then [x.n.pol] else [] by rw [polK_succ, HX.out, hR])
        clear hR hb0
        go_cut [39] (fun c wx => c = .bool R ∧ Below W1.heap.size W1 wx)
        case first =>
          have r0 := HQ1.out
          have m0 := cell_of_row _ _ 0 _ _ _ r0
          have m1 := cell_of_row _ _ 1 _ _ _ r0
          simp only [List.getElem?_toArray, List.getElem?_cons_zero, List.getElem?_cons_succ] at m0 m1
          have hRw := HRR.out
          unfold polC at hRw
          clear r0 HRR hkl
          by_cases hp : x.n.p < 0
          · have t0 : decide (x.n.p ≥ 0) = false := decide_eq_false (by omega)
            have HH := Bx.mk (show R = false by rw [hRw, t0]; rfl)
            clear hRw
            go_wp2_with fail
            go_meet
            exact ⟨by rw [HH.out], Below.refl _ _⟩
          · obtain ⟨pp, hppe⟩ : ∃ pp : Nat, x.n.p = (pp : Int) := ⟨x.n.p.toNat, by omega⟩
            have hppl : pp < N := by omega
            have hppl2 : pp < l.length := by rw [← HN.out]; exact hppl
            obtain ⟨b', o', hbe, -, d0, d1, d2, d3⟩ := HC.out W1 hbW1 pp hppl2
            simp only [Option.some.injEq, Addr.mk.injEq, and_true] at hbe
            obtain ⟨rfl, rfl⟩ := hbe
            have HPN := Bx.mk (show pn (nds l) x.n = (l[pp]).n by unfold pn; rw [hppe, Int.toNat_natCast]; exact nds_at l pp hppl2)
            obtain ⟨y, hy⟩ : ∃ y, y = l[pp] := ⟨_, rfl⟩
            rw [← hy] at d0 d1 d2 d3 HPN
            simp only [Sl.val] at d3
            have hsp := special_any y W1
            unfold nodV at hsp
            simp only [Sl.val] at hsp
            rw [HPN.out, decide_eq_true (show x.n.p ≥ 0 by omega), Bool.true_and] at hRw
            rw [hppe] at m1
            obtain ⟨s1, hs1⟩ : ∃ s, s = spec y.n := ⟨_, rfl⟩
            rw [← hs1] at hsp hRw
            have t0 : decide ((pp : Int) ≥ 0) = true := decide_eq_true (by omega)
            have HH := Bx.mk hRw
            clear hRw hs1 hy hppe hp hpp hppl2
            go_wp2_with fail
            go_at_call 51
            refine hsp.mono ?_
            rintro e w2 ⟨rfl, hb2⟩
            clear hsp d0 d1 d2 d3 m0 m1
            cases s1 with
            | false =>
              go_wp2_with fail
              go_meet
              exact ⟨by rw [HH.out]; rfl, hb2⟩
            | true =>
              have r2 := (hb2.block bn (lt_of_some HQ1.out)).trans HQ1.out
              have m0 := cell_of_row _ _ 0 _ _ _ r2
              have m1 := cell_of_row _ _ 1 _ _ _ r2
              have m2 := cell_of_row _ _ 2 _ _ _ r2
              have m3 := cell_of_row _ _ 3 _ _ _ r2
              simp only [List.getElem?_toArray, List.getElem?_cons_zero, List.getElem?_cons_succ] at m0 m1 m2 m3
              have hsp := special_any x w2
              unfold nodV at hsp
              simp only [Sl.val] at hsp
              have hRw := HH.out
              obtain ⟨s2, hs2⟩ : ∃ s, s = spec x.n := ⟨_, rfl⟩
              rw [← hs2] at hsp hRw
              have HH2 := Bx.mk hRw
              have HB2 := Bx.mk hb2
              clear hRw hs2 r2 hb2
              go_wp2_with fail
              go_at_call 51
              refine hsp.mono ?_
              rintro e w3 ⟨rfl, hb3⟩
              have r3 := ((HB2.out.trans (hb3.mono HB2.out.size)).block bn (lt_of_some HQ1.out)).trans HQ1.out
              have HB3 := Bx.mk (HB2.out.trans (hb3.mono HB2.out.size))
              clear hsp m0 m1 m2 m3 hb3
              have m0 := cell_of_row _ _ 0 _ _ _ r3
              simp only [List.getElem?_toArray, List.getElem?_cons_zero, List.getElem?_cons_succ] at m0
              clear r3
              cases s2 with
              | false =>
                go_wp2_with fail
                go_meet
                exact ⟨by rw [HH2.out]; rfl, HB3.out⟩
              | true =>
                have hq : (x.n.d == D) = decide (x.n.d = D) := rfl
                obtain ⟨q, hqq⟩ : ∃ q, q = decide (x.n.d = D) := ⟨_, rfl⟩
                rw [← hqq] at hq
                have HH3 := Bx.mk (show R = q by rw [HH2.out, hqq]; rfl)
                have hqc : (x.n.d = D) = (q = true) := by rw [hqq]; simp
                clear hqq
                go_wp2_with fail
                go_meet
                exact ⟨by rw [HH3.out], HB3.out⟩
        case rest =>
        obtain ⟨rfl, hbW⟩ := hcut
        have HG2 := Bx.mk (hG.out.below (HBA.out.trans (hbW.mono HBA.out.size)))
        cases R with
        | true =>
          have r2 := (hbW.block bn (lt_of_some HQ1.out)).trans HQ1.out
          have m2 := cell_of_row _ _ 2 _ _ _ r2
          simp only [List.getElem?_toArray, List.getElem?_cons_zero, List.getElem?_cons_succ] at m2
          have HSRC := Bx.mk (src_str wc x.n.pol)
          have HOWN := Bx.mk (show Slc.Own (wc.alloc (.cells #[.string (bstr x.n.pol)] 9)) w.heap.size 9 1 encS (.slice av out.length cv) out from HG2.out.own.below ((Below.refl _ _).alloc (Nat.le_refl _) _))
          have HG3 := Bx.mk (HG2.out.below (show Below wc.heap.size wc (wc.alloc (.cells #[.string (bstr x.n.pol)] 9)) from (Below.refl _ _).alloc (Nat.le_refl _) _))
          have hm1 : out.length + 1 ≤ maxLen := by unfold maxLen; omega
          have hm2 : (out.length + 1) * 16 ≤ 140737488355328 := by omega
          have hbz : w.heap.size ≤ (wc.alloc (.cells #[.string (bstr x.n.pol)] 9)).heap.size := HG3.out.sz
          clear r2 hbW hbW1
          go_wp2_with (at_builtin; refine wpList_append_any rfl _ _ _ rfl w.heap.size 9 i0 _ 1 16 und_strs hi0 hz0 hz1 hz2 rfl (by decide) _ out.length (out.flatMap encS) rfl HOWN.out _ 1 ([x.n.pol].flatMap encS) rfl HSRC.out hm1 hm2 hbz ?_)
          intro v9 w9 hapd
          have HG9 := Bx.mk (HG3.out.apd (m := [x.n.pol]) hapd)
          have HF9 := Bx.mk (show out ++ [x.n.pol] = polK (nds l) D (k + 1) by rw [HKS.out, hF.out]; rfl)
          clear hapd hm1 hm2 hbz
          go_wp2_with fail
          go_roundw
          case rel => exact ⟨k + 1, out ++ [x.n.pol], by omega, by go_num, by simp; omega, HG9, HF9⟩
          case measure => simp [intOf]; omega
        | false =>
          have HF9 := Bx.mk (show out = polK (nds l) D (k + 1) by rw [HKS.out, hF.out]; simp)
          clear hbW hbW1
          go_wp2_with fail
          go_roundw
          case rel => exact ⟨k + 1, out, by omega, by go_num, by omega, HG2, HF9⟩
          case measure => simp [intOf]; omega
      · obtain rfl : k = N := by omega
        have hset := set_any wr _ out hG.out.own.rd (by omega)
        have HF2 := Bx.mk (show polP (nds l) D = setB out by rw [HF.out, hF.out])
        clear hF
        have HBW := Bx.mk hb0
        clear hb0
        go_wp2_with fail
        go_at_call 38
        refine hset.mono ?_
        rintro e w2 ⟨v2, rfl, ho, hb2⟩
        obtain ⟨a2, c2, rfl, -⟩ := ho.rd.form
        have HO := Bx.mk ho
        have HB2 := Bx.mk hb2
        clear hset ho hb2
        go_wp2_with fail
        go_ret
        refine ⟨_, rfl, ?_, HBW.out.trans (HB2.out.mono HBW.out.size)⟩
        rw [HF2.out]
        exact HO.out.mono HBW.out.size
end Go.Proofs.Ytmagjdocondmhaa.Tr
