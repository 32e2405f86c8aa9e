/- packed -/
import Derived.Test.YtmagjdocondmhaaGreatPkLk11
import Derived.Lib.SliceRun
import Derived.Deep.Upon
import Derived.Deep.RegionLaw
set_option linter.unusedVariables false
set_option linter.unusedSimpArgs false
set_option maxRecDepth 100000
set_option maxHeartbeats 64000000
namespace Go.Proofs.YtmagjdocondmhaaGreat.Tr.Gr
open Go Go.RowKit Slc St Mp Tr
attribute [local go_sem] Oper.semAt_some
theorem gtable_any (w : World) (v : Value) (l : List (B × B)) (h : Rd w encP v l) (hn : l.length <= 100000) (hx : ∀ m ∈ l, m.1.length <= 1000000 /\ m.2.length <= 1000000) :
  Calls Tryz.prog 60 #[v] w fun e w' => ∃ bm f, e = .returned (.map (some bm)) /\ w.heap.size <= bm /\ TabP w' l bm f /\ Below w.heap.size w w' /\ ∀ p s, f p = some s -> ∀ b, s.val.ownBlock = some b -> bm < b := by
 obtain ⟨i0, hi0, hz0, hz1, hz2⟩ := info_parts info_str;obtain ⟨ad, c, rfl, -⟩ := h.form;have HC := Bx.mk (maps_cells h).2;have HXX := Bx.mk hx;obtain ⟨N, hN⟩ : ∃ N, N = l.length := ⟨_, rfl⟩
 have HN := Bx.mk hN;rw [<- hN] at hn |-;clear h hx hN;have hmm := @run_makeMap Tryz.prog;obtain ⟨W0, hW0⟩ : ∃ W0, W0 = w.alloc (.map #[] 0) := ⟨_, rfl⟩
 obtain ⟨bm, hbm⟩ : ∃ bm, bm = w.heap.size := ⟨_, rfl⟩
 have HBM := Bx.mk hbm;have HM0 := Bx.mk (show ∃ q, q <= 0 /\ OwnF W0 kS rdS edS bm q (fun _ => none) from ⟨0, zR _, by rw [hW0, hbm]; exact OwnF.made w kS rdS edS⟩);have HT0 := Bx.mk (show TB W0 bm (fun _ => none) (gK l 0) from ⟨fun p => (by simp [gK_zero]), (by intro p s hp; cases hp), (by intro p p' s s' hp; cases hp)⟩);have HB0 := Bx.mk (show Below bm w W0 by rw [hW0, hbm]; exact (Below.refl _ _).alloc (zR _) _);go_enter Tryz.func60, Tryz.ntmps60;go_wp2_with fail
 rw [<- hW0, <- hbm];clear hW0 hbm hmm;go_loopw [11] (fun i wr => ∃ (k : Nat) (f : B -> Option Sg), k <= N /\ i = .int .i64 k /\ Bx (TB wr bm f (gK l k)) /\ Bx (∃ q, q <= k /\ OwnF wr kS rdS edS bm q f) /\ Bx (Below bm w wr)) (fun i _ => N - (intOf i).toNat)
 case atStart => exact ⟨0, _, by omega, rfl, HT0, HM0, HB0⟩
 case round =>
  clear HT0 HM0 HB0;obtain ⟨k, f, hk, rfl, hT, hM, hBw⟩ := hrel;have hb0 : Below w.heap.size w wr := HBM.out ▸ hBw.out;by_cases hlt : k < N
  ·have hkl : k < l.length := by rw [<- HN.out]; exact hlt
   obtain ⟨b, o, rfl, hbl, c0, c1⟩ := HC.out wr hb0 k hkl;have HGS := Bx.mk (gK_succ l k hkl);have HXK := Bx.mk (HXX.out l[k] (zM hkl));obtain ⟨m, hm⟩ : ∃ m, m = l[k] := ⟨_, rfl⟩
   rw [<- hm] at c0 c1 HGS HXK;clear hm hkl hbl;obtain ⟨W1, hW1⟩ : ∃ W1, W1 = wr.alloc (.cells #[.string (bstr m.1), .string (bstr m.2)] 49) := ⟨_, rfl⟩
   obtain ⟨bn, hbn⟩ : ∃ bn, bn = wr.heap.size := ⟨_, rfl⟩
   have HBN := Bx.mk hbn;have hq1 : W1.heap[bn]? = some (.cells #[.string (bstr m.1), .string (bstr m.2)] 49 (0, 0)) := by rw [hW1, hbn]; exact heap_alloc_new _ _
   have HBA := Bx.mk (show Below wr.heap.size wr W1 by rw [hW1]; exact (Below.refl _ _).alloc (zR _) _);have hbsz := hBw.out.size;have HBWA := Bx.mk (show Below bm w W1 from hBw.out.trans (HBA.out.mono (by have := HBM.out; omega)));have HTA := Bx.mk (hT.out.below HBA.out);have HMA := Bx.mk (show ∃ q, q <= k /\ OwnF W1 kS rdS edS bm q f by obtain ⟨q, h1, h2⟩ := hM.out; exact ⟨q, h1, h2.below HBA.out⟩);have HQ1 := Bx.mk hq1;go_upto_region 5 with fail
   rw [<- hW1, <- hbn];clear hW1 hbn c0 c1;have m0 := cell_of_row _ _ 0 _ _ _ hq1;have m1 := cell_of_row _ _ 1 _ _ _ hq1;simp only [List.getElem?_toArray, List.getElem?_cons_zero, List.getElem?_cons_succ] at m0 m1
   clear hq1 hbsz;have hs1 := same_any m.1;have hs2 := same_any m.2;obtain ⟨t1, ht1⟩ : ∃ t, t = decide (m.1 = anyP) := ⟨_, rfl⟩
   obtain ⟨t2, ht2⟩ : ∃ t, t = decide (m.2 = anyP) := ⟨_, rfl⟩
   have HOK := Bx.mk (show okM m = (!t1 && !t2) by unfold okM; rw [ht1, ht2, <- decide_not, <- decide_not]);rw [<- ht1] at hs1;rw [<- ht2] at hs2;clear ht1 ht2
   have hskip : okM m = false -> TB W1 bm f (gK l (k + 1)) := fun e => by
    have : gK l (k + 1) = gK l k := (by funext p; rw [HGS.out, e]; simp);rw [this]; exact HTA.out
   have HSK := Bx.mk hskip;clear hskip
   cases t1 with
   | true =>
    have HT2 := Bx.mk (HSK.out (by rw [HOK.out]; rfl));go_wp2_with fail
    go_roundw
    case rel => exact ⟨k + 1, f, by omega, by go_num, HT2, ⟨by obtain ⟨q, h1, h2⟩ := HMA.out; exact ⟨q, by omega, h2⟩⟩, HBWA⟩
    case measure => simp [intOf]; omega
   | false =>
   cases t2 with
   | true =>
    have HT2 := Bx.mk (HSK.out (by rw [HOK.out]; rfl));go_wp2_with fail
    go_roundw
    case rel => exact ⟨k + 1, f, by omega, by go_num, HT2, ⟨by obtain ⟨q, h1, h2⟩ := HMA.out; exact ⟨q, by omega, h2⟩⟩, HBWA⟩
    case measure => simp [intOf]; omega
   | false =>
    obtain ⟨q, hq, hop⟩ := HMA.out;have HQK := Bx.mk hq;have HOP := Bx.mk hop;have HOWN := Bx.mk (HTA.out.get m.1);obtain ⟨sv, hsv⟩ : ∃ s, s = (f m.1).getD nilS := ⟨_, rfl⟩
    have HSV := Bx.mk hsv;rw [<- hsv] at HOWN;have hvl : ∀ j, sv.val.ownBlock = some j -> j < W1.heap.size := fun j hj => (HOWN.out.lt j hj).2
    have hvb : ∀ j, sv.val.ownBlock = some j -> j ≠ bm /\ j ≠ bn := fun j hj => ⟨by have := (HOWN.out.lt j hj).1; omega, fun e => by
     have h1 := HTA.out.get m.1;rw [<- hsv] at h1
     cases hf : f m.1 with
     | none =>
      rw [hf] at hsv;simp only [Option.getD_none] at hsv
      rw [hsv] at hj; simp [nilS, Sg.val, Value.ownBlock] at hj
     | some s0 =>
      rw [hf] at hsv;simp only [Option.getD_some] at hsv
      have := ((hT.out.own m.1 s0 hf).lt j (by rw [<- hsv]; exact hj)).2
      have := HBN.out; omega⟩
    have HVB := Bx.mk hvb;obtain ⟨va, vc, hvf, -⟩ := HOWN.out.rd.form;have HGL := gK_len l k m.1
    have HLOOK := Bx.mk (show ∀ W : World, W1.grownBy W sv.val.ownBlock -> (Instr.lookup 86 (.map (some bm)) (.string (bstr m.1)) false).run Tryz.prog W = .ok (.slice va (gK l k m.1).length vc) W from fun W hW => by
     have := ((HOP.out.kept hW (fun e => (HVB.out bm e.symm).1 rfl)).lookS u_mapSS Sg.val nilS (Tryz.zeroValue34 _) rdS_mk rdS_inv (k := m.1) (by have := HXK.out.1; unfold maxLen; omega)).1;rw [<- hsv, hvf] at this
     exact this)
    rw [hvf] at HOWN hvl HVB HLOOK;have HVF := Bx.mk hvf;clear hq hop hsv hvb hvf;go_wp2_with fail
    clear hs1 hs2 m0 m1;refine wp_region_factsC 11 (fun _ => none) (· == 10) (TaF W1 bm bn m (.slice va (gK l k m.1).length vc) (gK l k m.1)) (TaC W1 bm (.slice va (gK l k m.1).length vc) (gK l k m.1)) (fun a b => a.grownBy b (Value.slice va (gK l k m.1).length vc).ownBlock) ?_ (by kernel_rfl) (by kernel_rfl) (by rfl) ?_ ?_ ?_ ?_ ?_ ?_
    ·exact ⟨⟨rfl, rfl, rfl, zR _, fun _ _ _ => rfl⟩, fun _ => HOWN.out⟩
    ·exact TaF.stable _ _ _ _ _ _
    ·exact fun d i w1 w2 hh hi _ hb => hh.bel hi hb
    ·exact fun d i w1 w2 hh hi _ hg => hh.big hi hg
    ·exact fun b j x w1 w2 hb _ hne _ hh hg => TaF.big _ _ _ _ _ _ hvl j (fun e => hne (e.trans (show b = 10 by simpa using hb).symm)) _ _ _ hh hg
    ·intro i o hi ho d x w7 hcl hdi hCC hd;have hc : i = 0 \/ i = 1 \/ i = 2 \/ i = 3 \/ i = 4 \/ i = 5 \/ i = 6 \/ i = 7 \/ i = 8 \/ i = 9 \/ i = 10 := (by omega);obtain ⟨hg7, how7⟩ := hCC;have HG7 := Bx.mk hg7;have HOW7 := Bx.mk how7;have b5 := (hg7.block bn (lt_of_some HQ1.out) (fun e => (HVB.out bn e.symm).2 rfl)).trans HQ1.out;have m0 := cell_of_row _ _ 0 _ _ _ b5;have m1 := cell_of_row _ _ 1 _ _ _ b5;simp only [List.getElem?_toArray, List.getElem?_cons_zero, List.getElem?_cons_succ] at m0 m1
     have hlook := HLOOK.out w7 (HVF.out ▸ hg7);have HDI := Bx.mk hdi;clear hcl hg7 how7 b5;simp only [List.take_succ_cons, List.take_zero, putFrom, Act.put, List.setIfInBounds_toArray, List.set_cons_succ, List.set_cons_zero, Nat.zero_add, Nat.reduceAdd]
     rcases hc with rfl | rfl | rfl | rfl | rfl | rfl | rfl | rfl | rfl | rfl | rfl
     all_goals
      simp only [List.getElem?_cons_succ, List.getElem?_cons_zero, zO] at ho
      subst ho;simp [NeedsB, Region.binds, TaF] at hd
     all_goals clear hi hdi
     case inr.inr.inr.inr.inr.inr.inr.inr.inr.inl =>
      clear hlook m0 m1;go_wp2_with fail
      exact ⟨rfl, rfl, ⟨_, rfl, HG7.out.size, heap_alloc_new _ _⟩, (Below.refl _ _).alloc (zR _) _⟩
     case inr.inr.inr.inr.inr.inr.inr.inr.inr.inr =>
      obtain ⟨h6, g9, h9, hg9, hr9⟩ := hd;have how := HOW7.out HDI.out;have hsr : SrcV w7 1 (x 9) 1 ([m.2].flatMap encS) := (by rw [h9]; exact src_row hr9);rw [<- h6] at how;have H6 := Bx.mk h6;have HH := Bx.mk how;clear h6 h9 hr9 hlook m0 m1;go_wp2_with (at_builtin; refine wpList_append_any rfl _ _ _ rfl (bm + 1) 9 i0 _ 1 16 und_strs hi0 hz0 hz1 hz2 rfl (by decide) _ (gK l k m.1).length ((gK l k m.1).flatMap encS) rfl HH.out _ 1 ([m.2].flatMap encS) rfl hsr ?ap1 ?ap2 ?ap3 ?_)
      case ap1 => unfold maxLen; omega
      case ap2 => omega
      case ap3 => have := lt_of_some HQ1.out; have := HG7.out.size; have := HBN.out; have := HBWA.out.size; have := HBM.out; have := hBw.out.size; omega
      intro v' w8 ha;have hown := Slc.Own.apd (m := [m.2]) HH.out rfl rfl rfl rfl ha
      have hblk : v'.ownBlock = (Value.slice va (gK l k m.1).length vc).ownBlock \/ ∃ y, v'.ownBlock = some y /\ W1.heap.size <= y := by
       rcases ha.blk with q | q
       ·left; rw [q, H6.out]
       ·exact .inr ⟨_, q, HG7.out.size⟩
      have hgr := ha.grown;rw [H6.out] at hgr;clear ha;go_wp2_with fail
      exact ⟨rfl, rfl, ⟨hown, hblk⟩, hgr⟩
     case inr.inr.inr.inr.inr.inr.inl =>
      clear m0 m1;go_wp2_with fail
      exact ⟨rfl, rfl, rfl, Below.refl _ _⟩
     all_goals
      clear hlook;go_wp2_with fail
      exact ⟨rfl, rfl, rfl, Below.refl _ _⟩
    ·intro d x w7 hCC hf;have f0 := hf 0 (by omega) (fun c hc => by simp at hc);have f2 := hf 2 (by omega) (fun c hc => by simp at hc);have f10 := hf 10 (by omega) (fun c hc => by simp at hc);simp only [TaF] at f0 f2 f10
     clear hf;obtain ⟨hown, hblk⟩ := f10;have hg7 : W1.grownBy w7 sv.val.ownBlock := HVF.out ▸ hCC.1;obtain ⟨s', hs'⟩ := own_sg hown;rw [hs'] at hown hblk;obtain ⟨w8, hrun, ho8, hg8⟩ := (HOP.out.kept hg7 (fun e => (HVB.out bm (by rw [<- HVF.out]; exact e.symm)).1 rfl)).putS u_mapSS (by have := HQK.out; unfold maxLen; omega) (k := m.1) (by have := HXK.out.1; unfold maxLen; omega) s' s'.val (rdS_mk _);have hT8 := HTA.out.step (p := m.1) (x := m.2) (s' := s') (HSV.out ▸ hg7) hown (by rw [<- HSV.out, HVF.out]; exact hblk) hg8
     have HT8 := Bx.mk (show TB w8 bm (fun j => if j = m.1 then some s' else f j) (gK l (k + 1)) by
      have e : gK l (k + 1) = fun j => if j = m.1 then gK l k m.1 ++ [m.2] else gK l k j := by
       funext j
       rw [HGS.out, HOK.out];by_cases e : j = m.1
       ·subst e; simp
       ·rw [if_neg e, zF fun q => e q.symm]; simp
      rw [e]; exact hT8)
     have HM8 := Bx.mk ho8
     have HB8 := Bx.mk (show Below bm w w8 from ((HBWA.out.grown hg7 (by have := HBWA.out.size; have := HBM.out; omega) fun j hj => by
      have := (HTA.out.get m.1).lt j (by rw [<- HSV.out]; exact hj)
      omega)).grown hg8 (by have := HBWA.out.size; have := hg7.size; have := HBM.out; omega) fun j hj => by simp only [zO] at hj; omega)
     have hsf : ∃ sa sn sc, s'.val = .slice sa sn sc := ⟨_, _, _, rfl⟩
     obtain ⟨sa, sn, sc, hsf⟩ := hsf;have hrun' : (Instr.mapUpdate 86 (.map (some bm)) (.string (bstr m.1)) (.slice sa sn sc)).run Tryz.prog w7 = .ok () w8 := (by rw [<- hsf]; exact hrun);rw [hsf] at hs';clear hown hblk hg7 hrun ho8 hg8 hT8 hCC hsf;simp only [List.take_succ_cons, List.take_zero, List.drop_succ_cons, List.drop_zero, putFrom, Nat.zero_add, Nat.reduceAdd, f0, f2, hs']
     clear f0 f2 hs';generalize x 1 = x1, x 3 = x3, x 4 = x4, x 5 = x5, x 6 = x6, x 7 = x7, x 8 = x8, x 9 = x9;simp only [Act.put, List.setIfInBounds_toArray, List.set_cons_succ, List.set_cons_zero]
     go_wp2_with fail
     go_roundw
     case rel => exact ⟨k + 1, _, by omega, by go_num, HT8, ⟨_, by have := HQK.out; omega, HM8.out⟩, HB8⟩
     case measure => simp [intOf]; omega
  ·obtain rfl : N = k := by omega
   obtain ⟨q, hq, D, hown, hIs⟩ := hM.out;have HIS := Bx.mk hIs;have HHAS := Bx.mk (show ∀ p, (f p).isSome = true ↔ gK l N p ≠ [] from hT.out.has_);have hq1 : q < maxLen := by unfold maxLen; omega
   have HRD := Bx.mk (show ∀ p s, f p = some s -> RdIn wr (fun b => b ≠ bm /\ b ≠ wr.heap.size /\ bm < b) encS s.val (gK l N p) from fun p s hp => by
    have h1 := hT.out.own p s hp
    exact ⟨h1.rd, fun b hb => by have := h1.lt b hb; omega⟩)
   have hbsz := hBw.out.size;obtain ⟨r, hr⟩ : ∃ r, r = wr.heap.size := ⟨_, rfl⟩
   have HR := Bx.mk hr;clear hT hM hb0 hIs;go_wp2_with (at_range; refine wpList_range_own _ rfl _ 86 rfl 9 34 (Go.Maps.string_keyed u_str) u_mapSS _ bm _ D rfl hown ?_; intro w0 hrg0 hg0 hs0)
   rw [<- hr] at hrg0 HRD |-;have HB0 := Bx.mk (show Below bm w w0 from hBw.out.grown hg0 (by have := HBM.out; omega) fun k hk => by cases hk);have HRG0 := Bx.mk hrg0;have HRD0 := Bx.mk (show ∀ p s, f p = some s -> RdIn w0 (fun b => b ≠ bm /\ b ≠ r /\ bm < b) encS s.val (gK l N p) from fun p s hp => (HRD.out p s hp).keep hg0.size fun k _ hk => hg0.block k hk (by simp));have hrbm : bm < r := by rw [hr]; exact hown.lt
   clear hown hg0 hs0 hrg0 HRD hr hbsz hBw;go_frame
   go_loopw [] (fun wr => ∃ (left : Lit -> Bool) (cnt : Nat) (D : DW) (f : B -> Option Sg), Bx (wr.ranges Tryz.prog 9 rdS bm r q D left cnt) /\ Bx (IsF kS edS D f) /\ Bx (∀ p, (f p).isSome = true ↔ gK l N p ≠ []) /\ Bx (∀ p s, f p = some s -> RdIn wr (fun b => b ≠ bm /\ b ≠ r /\ bm < b) encS s.val (if left (.string p) then gK l N p else setB (gK l N p))) /\ Bx (Below bm w wr)) (fun wr => wr.rangeLeft bm r)
   case atStart =>
    refine ⟨_, _, D, f, HRG0, HIS, HHAS, ⟨fun p s hp => ?_⟩, HB0⟩;have h1 := HIS.out.has_ p;rw [hp] at h1;rw [if_pos (show Maps.has D (.string p) = true from h1)];exact HRD0.out p s hp
   case round =>
    clear HIS HHAS HRG0 HRD0 HB0;obtain ⟨left, cnt, D, f, hrg, hIs, hHas, hRd, hBw⟩ := hrel;go_wp2_with (at_next; refine next_tab hIs.out rfl _ rfl rfl hrg.out ?_ ?_)
    ·intro hl0;have HL0 := Bx.mk hl0;clear hl0;go_wp2_with fail
     go_ret;refine ⟨bm, f, rfl, by have := HBM.out; omega, ⟨fun p => ?_, fun p s hp => ?_, ⟨q, by omega, D, hrg.out.owns, hIs.out⟩⟩, HBM.out ▸ hBw.out, fun p s hp b hb => ((hRd.out p s hp).2 b hb).2.2⟩
     ·have h1 := hHas.out p;rw [HN.out, gK_src] at h1;rw [Bool.eq_iff_iff, decide_eq_true_eq]; exact h1
     ·have h1 := hRd.out p s hp;rw [HL0.out p, if_neg (by simp), HN.out, gK_all] at h1;exact ⟨h1.1, fun k hk => (h1.2 k hk).1⟩
    ·intro x c w1 cnt1 hkey hlx hfx hrg1 hlt1 hg1 hs1 hen;have hr1 := hRd.out x c hfx;rw [if_pos hlx] at hr1;have hr2 : RdIn w1 (fun b => b ≠ bm /\ b ≠ r /\ bm < b) encS c.val (gK l N x) := hr1.keep hg1.size fun k hS hk => hg1.block k hk (by simp only [ne_eq, zO]; exact hS.2.1)
     obtain ⟨ca, cc, hcf, -⟩ := hr1.1.form;have hgl := gK_len l N x;have hV := fun (a : Option Addr) (len cap : Nat) => valS_any a len cap w1
     have hset := sortedV_any (w1.alloc (.cells #[c.val] 34)) w1.heap.size c.val (gK l N x) (by omega) (by simp) (by unfold World.cell?; rw [heap_alloc_new]; rfl) ⟨w1, hr2.1, by simp, (Below.refl _ _).alloc (zR _) _⟩;rw [hcf] at hset hen |-;obtain ⟨WV, hWV⟩ : ∃ WV, WV = w1.alloc (.cells #[.slice ca (gK l N x).length cc] 34) := ⟨_, rfl⟩
     have HBV := Bx.mk (show Below w1.heap.size w1 WV by rw [hWV]; exact (Below.refl _ _).alloc (zR _) _);rw [<- hWV] at hset;obtain ⟨S, hS⟩ : ∃ S, S = (gK l N x).mergeSort (fun x y => decide (x <= y)) := ⟨_, rfl⟩
     have HSL := Bx.mk (show S.length <= 1000000 by rw [hS, List.length_mergeSort]; omega);have HCS := Bx.mk (show Lib.compact S = setB (gK l N x) by rw [hS, compact_sort]);rw [<- hS] at hset;clear hS;have HFX := Bx.mk hfx;have HRG1 := Bx.mk hrg1;have HKEY := Bx.mk hkey;have HLT1 := Bx.mk hlt1;have HB1 := Bx.mk (show Below bm w w1 from hBw.out.grown hg1 (by have := hBw.out.size; have := HBM.out; omega) fun k hk => by simp only [zO] at hk; omega);have HRW := Bx.mk (show ∀ p s, f p = some s -> RdIn w1 (fun b => b ≠ bm /\ b ≠ r /\ bm < b) encS s.val (if left (.string p) then gK l N p else setB (gK l N p)) from fun p s hp => (hRd.out p s hp).keep hg1.size fun k hS hk => hg1.block k hk (by simp only [ne_eq, zO]; exact hS.2.1));have HRLT := Bx.mk (show r < w1.heap.size from hrg1.lt);have HBLT := Bx.mk (show bm < w1.heap.size by have := HRLT.out; omega);clear hr1 hr2 hcf hfx hrg1 hkey hlt1 hg1 hs1 hlx hBw hRd;obtain ⟨G, hG⟩ : ∃ G, G = gK l N x := ⟨_, rfl⟩
     have HG := Bx.mk hG;rw [<- hG] at hen hgl HCS hWV |-;clear hG;obtain ⟨X, hX⟩ : ∃ X, X = bstr x := ⟨_, rfl⟩
     have HX := Bx.mk hX;rw [<- hX] at hen |-;clear hX;go_wp2_with fail
     go_at_call 72;refine (hV _ _ _).mono ?_;rintro e w1' ⟨rfl, rfl⟩;rw [<- hWV];clear hV hWV;go_wp2_with fail
     go_at_call 63;refine hset.mono ?_;rintro e wS ⟨vS, rfl, hoS, hbS⟩;have h3 := compS_any wS WV.heap.size vS _ hoS HSL.out;rw [HCS.out] at h3;obtain ⟨avS, cvS, rfl, -⟩ := hoS.rd.form;have HOS := Bx.mk hoS;have HBS := Bx.mk hbS;clear hset hoS hbS;go_wp2_with fail
     go_at_call 71;refine h3.mono ?_;rintro e w2 ⟨v2, rfl, ho3, hg3⟩;have hsz1 := HBV.out.size;have ho2 : Slc.Own w2 w1.heap.size 9 1 encS v2 (setB G) := ho3.mono hsz1;have hb2 : Below w1.heap.size w1 w2 := (HBV.out.trans (HBS.out.mono hsz1)).grown hg3 (Nat.le_trans hsz1 HBS.out.size) fun k hk => Nat.le_trans hsz1 (HOS.out.lt k hk).1
     clear h3 ho3 hg3 hsz1;obtain ⟨s', hs'⟩ := own_sg ho2;rw [hs'] at ho2
     obtain ⟨w3, hrun, hrg3, hg3, hs3⟩ := ranges_put (HRG1.out.kept (grown_none hb2) (by simp) (by simp)) (Go.Maps.string_keyed u_str) u_mapSS hq1 (Tryz.zeroValue34 w2) HKEY.out (by
      have := hIs.out.has_ x
      rw [HFX.out] at this; exact this) (rdS_mk s')
     have hrun' : (Instr.mapUpdate 86 (.map (some bm)) (.string X) v2).run Tryz.prog w2 = .ok () w3 := (by rw [hs', HX.out]; exact hrun);obtain ⟨sa, sc, hsf, -⟩ := ho2.rd.form;rw [hs', hsf] at hrun' |-;have HIS' := Bx.mk (hIs.out.put x s')
     have HHAS' := Bx.mk (show ∀ p, ((fun j => if j = x then some s' else f j) p).isSome = true ↔ gK l N p ≠ [] from fun p => by
      by_cases e : p = x
      ·subst e;have := hHas.out p;rw [HFX.out] at this;simpa using this
      ·simp only [if_neg e]; exact hHas.out p)
     have HRD' := Bx.mk (show ∀ p s, (fun j => if j = x then some s' else f j) p = some s -> RdIn w3 (fun b => b ≠ bm /\ b ≠ r /\ bm < b) encS s.val (if (fun z : Lit => left z && !z.sameKey (.string x)) (.string p) then gK l N p else setB (gK l N p)) from fun p s hp => by
      by_cases e : p = x
      ·subst e;simp only [if_true, zO] at hp
       subst hp;simp only [sameS, decide_true, Bool.not_true, Bool.and_false, Bool.false_eq_true, if_false]
       have h1 : RdIn w2 (fun b => b ≠ bm /\ b ≠ r /\ bm < b) encS s'.val (setB (gK l N p)) := ⟨by rw [<- HG.out]; exact ho2.rd, fun b hb => by
        have := (ho2.lt b hb).1;have := HRLT.out;have := HBLT.out
        omega⟩
       exact h1.keep hg3.size fun k hS hk => hg3.block k hk (by simp only [ne_eq, zO]; exact hS.1)
      ·simp only [if_neg e] at hp
       simp only [sameS, zF e, Bool.not_false, Bool.and_true]
       exact (RdIn.below (HRW.out p s hp) hb2).keep hg3.size fun k hS hk => hg3.block k hk (by simp only [ne_eq, zO]; exact hS.1))
     have HRG3 := Bx.mk hrg3;have HB3 := Bx.mk (show Below bm w w3 from (HB1.out.trans (hb2.mono (by have := HBLT.out; omega))).grown hg3 (by have := HBLT.out; have := hb2.size; omega) fun k hk => by simp only [zO] at hk; omega);clear hen ho2 hb2 hrg3 hg3 hs3 hs' hsf hrun hHas;go_wp2_with fail
     go_roundw
     case rel => exact ⟨_, _, _, _, HRG3, HIS', HHAS', HRD', HB3⟩
     case measure => rw [HRG3.out.left_eq, hrg.out.left_eq]; exact HLT1.out
theorem mapF_any (w : World) (x : Vt) (qd bm q : Nat) (f : B -> Option Sg) (hm : OwnF w kS rdS edS bm q f) (hq : w.cell? ⟨qd, 0, none⟩ = some (.map (some bm))) (hql : qd < w.heap.size) (hp : x.n.pol.length <= 1000000) :
  Calls Tryz.prog 62 #[verV x, .pointer (some ⟨qd, 0, none⟩)] w fun e w' => e = .returned (.bool (f x.n.pol).isSome) /\ Below w.heap.size w w' := by
 have hba : Below w.heap.size w (w.alloc (.cells #[.string (bstr x.n.pol), x.u.val, x.q.val] 65)) := (Below.refl _ _).alloc (zR _) _;have hlk := ((hm.below hba).lookS u_mapSS Sg.val nilS (Tryz.zeroValue34 _) rdS_mk rdS_inv (k := x.n.pol) (by unfold maxLen; omega)).2;have hq1 := (hba.cell (p := ⟨qd, 0, none⟩) hql).trans hq;have HB := Bx.mk hba;unfold verV;have hlk' : (Instr.lookup 86 (.map (some bm)) (.string (bstr x.n.pol)) true).run Tryz.prog (w.alloc (.cells #[.string (bstr x.n.pol), x.u.val, x.q.val] 65)) = .ok (.tuple #[((f x.n.pol).getD nilS).val, .bool (f x.n.pol).isSome]) (w.alloc (.cells #[.string (bstr x.n.pol), x.u.val, x.q.val] 65)) := hlk;clear hba hlk hq;generalize (f x.n.pol).isSome = R at *;generalize ((f x.n.pol).getD nilS).val = V at *;generalize x.u.val = U1 at *;generalize x.q.val = U2 at *;generalize bstr x.n.pol = S at *;go_enter Tryz.func62, Tryz.ntmps62;go_wp2_with fail
 go_ret;exact ⟨rfl, HB.out⟩
theorem idxM_any (w : World) (v : Value) (l : List Vt) (h : VL w v l) (hn : l.length <= 100000) (qd bm q : Nat) (f : B -> Option Sg) (hm : OwnF w kS rdS edS bm q f) (hq : w.cell? ⟨qd, 0, none⟩ = some (.map (some bm))) (hql : qd < w.heap.size) :
  Calls Tryz.prog 94 #[v, .func (.func 62) #[] #[.pointer (some ⟨qd, 0, none⟩)]] w fun e w' => e = .returned (.int .i64 (idxG (vxs l) fun n => (f n.pol).isSome)) /\ Below w.heap.size w w' := by
 obtain ⟨ad, c, rfl, -⟩ := h.rd.form;have HC := Bx.mk h.at3;obtain ⟨R, hR⟩ : ∃ R, R = idxG (vxs l) fun n => (f n.pol).isSome := ⟨_, rfl⟩
 rw [<- hR];have HR := Bx.mk hR;obtain ⟨N, hN⟩ : ∃ N, N = l.length := ⟨_, rfl⟩
 have HN := Bx.mk hN;rw [<- hN] at hn |-;clear hR hN;have HQ := Bx.mk hq;have HQL := Bx.mk hql;have HM := Bx.mk hm;have HPL := Bx.mk (show ∀ x ∈ l, x.n.pol.length <= 1000000 from fun x hx => (h.at_ x hx).2.2.2.1);clear hq hql hm h;have eg : ∀ args W, (callFunc 62 args).run Tryz.prog W = .ok (.enter 62 args) W := enters_of Tryz.func62 (by kernel_rfl) rfl
 go_enter Tryz.func94, Tryz.ntmps94;go_wp2_with fail
 go_loopw [8] (fun i wr => ∃ k : Nat, k <= N /\ i = .int .i64 k /\ Bx (∀ j, j < k -> (f ((vxs l)[j]!).pol).isSome = false) /\ Bx (Below w.heap.size w wr)) (fun i _ => N - (intOf i).toNat)
 case atStart => exact ⟨0, by omega, rfl, ⟨fun j hj => by omega⟩, ⟨Below.refl _ _⟩⟩
 case round =>
  obtain ⟨k, hk, rfl, hF, hBw⟩ := hrel;by_cases hlt : k < N
  ·have hkl : k < l.length := by rw [<- HN.out]; exact hlt
   obtain ⟨b, o, rfl, hbl, c0, c1, c2⟩ := HC.out wr hBw.out k hkl;have HX := Bx.mk (show (vxs l)[k]! = (l[k]).n from vxs_at l k hkl);have HXP := Bx.mk (HPL.out _ (zM hkl));obtain ⟨x, hx⟩ : ∃ x, x = l[k] := ⟨_, rfl⟩
   rw [<- hx] at c0 c1 c2 HX HXP;simp only [Sl.val] at c1 c2
   have hcf := mapF_any wr x qd bm q f (HM.out.below hBw.out) ((hBw.out.cell (p := ⟨qd, 0, none⟩) HQL.out).trans HQ.out) (Nat.lt_of_lt_of_le HQL.out hBw.out.size) HXP.out;unfold verV at hcf;simp only [Sl.val] at hcf
   obtain ⟨r, hr⟩ : ∃ r, r = (f x.n.pol).isSome := ⟨_, rfl⟩
   rw [<- hr] at hcf;have HRX := Bx.mk hr;clear hx hbl hr;go_wp2_with fail
   go_at_call 62;refine hcf.mono ?_;rintro e w2 ⟨rfl, hb2⟩;have HB2 := Bx.mk (hBw.out.trans (hb2.mono hBw.out.size));clear hcf hb2 c0 c1 c2
   cases r with
   | true =>
    have HF2 := Bx.mk (show R = (k : Int) by rw [HR.out]; exact idxG_eq (by rw [vxs_len]; exact hkl) (by rw [HX.out]; exact HRX.out.symm) hF.out);clear hkl;go_wp2_with fail
    go_ret
    exact ⟨by rw [HF2.out]; rfl, HB2.out⟩
   | false =>
    clear hkl;go_wp2_with fail
    go_roundw
    case rel => exact ⟨k + 1, by omega, by go_num, ⟨fun j hj => by
     by_cases e : j = k
     ·subst e; rw [HX.out]; exact HRX.out.symm
     ·exact hF.out j (by omega)⟩, HB2⟩
    case measure => simp [intOf]; omega
  ·obtain rfl : N = k := by omega
   have HF2 := Bx.mk (show R = -1 by rw [HR.out]; exact idxG_no fun i hi => hF.out i (by rw [vxs_len, <- HN.out] at hi; exact hi));go_wp2_with fail
   go_ret;exact ⟨by rw [HF2.out]; rfl, hBw.out⟩
end Go.Proofs.YtmagjdocondmhaaGreat.Tr.Gr
namespace Go.Proofs.YtmagjdocondmhaaGreat.Tr.Gr
open Go Go.RowKit Slc St Mp Tr Rg
theorem run_clear_rows {P : Program} (w : World) (t e ty : TypeId) (z : Value) (ht : P.underlying t = some (.slice e)) (hv : ∀ w, (zeroValue e).run P w = .ok z w) (L : List Value) (n : Nat) (hL : (Builtin.zeroCells z.cells n).toList = L) (h1 : ∀ u ∈ L, u.oneCell' = true) (b o c : Nat) (hn : 0 < n)
  (hc : ∀ j, j < L.length -> (w.cell? ⟨b, o + j, none⟩).isSome = true) (hf : ∀ j, j < L.length -> w.frozen? ⟨b, o + j, none⟩ = false) :
  (Builtin.clear_ #[t] ty #[.slice (some ⟨b, o, none⟩) n c]).run P w = .ok (.tuple #[]) (w.setCells b o L) := by
 have hst := run_storeCells_cells (P := P) b o L 0 w (by simpa using hc) (by simpa using hf) h1;simp only [Nat.add_zero] at hst
 obtain ⟨m, rfl⟩ : ∃ m, n = m + 1 := ⟨n - 1, by omega⟩
 simp [Builtin.clear_, run_underlying ht, hv, hL, hst]
theorem setCells_row (g : Nat) : ∀ (vs : List Value) (o : Nat) (w : World) (cur : Array Value) (t : TypeId) (fr : Nat × Nat), w.heap[g]? = some (.cells cur t fr) ->
  ∃ cur', (w.setCells g o vs).heap[g]? = some (.cells cur' t fr) /\ cur'.size = cur.size /\ ∀ j, j < o -> cur'[j]? = cur[j]?
 | [], o, w, cur, t, fr, h => ⟨cur, h, rfl, fun _ _ => rfl⟩
 | v :: r, o, w, cur, t, fr, h => by
  obtain ⟨cur', h1, h2, h3⟩ := setCells_row g r (o + 1) (w.setCell ⟨g, o, none⟩ v) (cur.setIfInBounds o v) t fr (row_set h v);refine ⟨cur', h1, by rw [h2]; simp, fun j hj => ?_⟩;rw [h3 j (by omega), Array.getElem?_setIfInBounds];rw [if_neg (by omega)]
theorem setCells_grown (g o : Nat) (vs : List Value) (w : World) : w.grownBy (w.setCells g o vs) (some g) := by
 induction vs generalizing o w with
 | nil => exact ⟨rfl, rfl, rfl, zR _, fun _ _ _ => rfl⟩
 | cons v r ih =>
  have h1 : w.grownBy (w.setCell ⟨g, o, none⟩ v) (some g) := ⟨rfl, rfl, rfl, by simp, fun k hk hne => heap_setCell_other _ _ _ _ (fun e => hne (by rw [e]))⟩;exact grown_same h1 (ih (o + 1) _)
theorem Own.head {α : Type} {w : World} {B g n c : Nat} {t : TypeId} {z : Nat} {enc : α -> List Value} {l : List α} (E : Enc z enc) (h : Slc.Own w B t z enc (.slice (some ⟨g, 0, none⟩) n c) l) (k : Nat) (hk : k <= l.length) (vs : List Value) :
  Slc.Own (w.setCells g (k * z) vs) B t z enc (.slice (some ⟨g, 0, none⟩) k c) (l.take k) := by
 rcases h.2 with ⟨h0, hn⟩ | ⟨g', cap', cur, hv, hB, hb, hc, hm, hcs, ht⟩
 ·simp at h0
 simp only [Value.slice.injEq, zO, Addr.mk.injEq] at hv
 obtain ⟨⟨rfl, -⟩, hnl, rfl⟩ := hv;obtain ⟨cur', h1, h2, h3⟩ := setCells_row g vs (k * z) w cur t (0, 0) hb;have hkl : (l.take k).length = k := by simp; omega
 refine ⟨flat_len E _, .inr ⟨g, c, cur', by rw [hkl], hB, h1, by rw [hkl]; omega, hm, by rw [h2]; exact hcs, ?_⟩⟩
 have hfl : (l.take k).flatMap enc = (l.flatMap enc).take (k * z) := by
  have e1 : l.flatMap enc = (l.take k).flatMap enc ++ (l.drop k).flatMap enc := by rw [<- List.flatMap_append, List.take_append_drop]
  have e2 : ((l.take k).flatMap enc).length = k * z := by rw [flat_len E, hkl]
  rw [e1]; exact (List.take_left' e2).symm
 rw [hkl, hfl, <- ht];have hle : k * z <= l.length * z := Nat.mul_le_mul_right z hk;apply List.ext_getElem?
 intro j;rw [List.getElem?_take, List.getElem?_take, List.getElem?_take];by_cases hj : j < k * z
 ·rw [if_pos hj, if_pos hj, if_pos (by omega)];have := h3 j hj;simpa using this
 ·rw [if_neg hj, if_neg hj]
attribute [local go_sem] Oper.semAt_some
def delJ {α : Type} (p : α -> Bool) (l : List α) (j : Nat) : List α := (l.take j).filter p ++ l.drop ((l.take j).filter p).length
theorem delJ_kl {α : Type} (p : α -> Bool) (l : List α) (j : Nat) (hj : j <= l.length) : ((l.take j).filter p).length <= j := by
 have := List.length_filter_le p (l.take j);rw [List.length_take] at this; omega
theorem delJ_len {α : Type} (p : α -> Bool) (l : List α) (j : Nat) (hj : j <= l.length) : (delJ p l j).length = l.length := by
 have := delJ_kl p l j hj;unfold delJ;rw [List.length_append, List.length_drop]; omega
theorem delJ_at {α : Type} (p : α -> Bool) (l : List α) (j : Nat) (hj : j < l.length) (h : j < (delJ p l j).length) : (delJ p l j)[j] = l[j] := by
 have := delJ_kl p l j (by omega);unfold delJ at h |-;rw [List.getElem_append_right this, List.getElem_drop];congr 1; omega
theorem delJ_no {α : Type} (p : α -> Bool) (l : List α) (j : Nat) (hj : j < l.length) (h : p l[j] = false) : (l.take (j + 1)).filter p = (l.take j).filter p := by
 rw [zA hj, List.filter_append]; simp [List.filter_cons, h]
theorem delJ_yes {α : Type} (p : α -> Bool) (l : List α) (j : Nat) (hj : j < l.length) (h : p l[j] = true) : (l.take (j + 1)).filter p = (l.take j).filter p ++ [l[j]] /\ (delJ p l j).set ((l.take j).filter p).length l[j] = delJ p l (j + 1) := by
 have e : (l.take (j + 1)).filter p = (l.take j).filter p ++ [l[j]] := by
  rw [zA hj, List.filter_append]; simp [List.filter_cons, h]
 refine ⟨e, ?_⟩;have hk := delJ_kl p l j (by omega);unfold delJ;have hd := List.drop_eq_getElem_cons (show ((l.take j).filter p).length < l.length by omega);rw [e, List.set_append_right _ _ (zR _), Nat.sub_self, List.length_append, List.length_singleton, hd, List.set_cons_zero, List.append_assoc];rfl
theorem delJ_all {α : Type} (p : α -> Bool) (l : List α) : (delJ p l l.length).take ((l.take l.length).filter p).length = l.filter p := by
 unfold delJ;rw [List.take_left' rfl, List.take_length]
theorem delJ_first {α : Type} [Inhabited α] (p : α -> Bool) (l : List α) (k : Nat) (hk : k < l.length) (h1 : p l[k]! = false) (h2 : ∀ j, j < k -> p l[j]! = true) : (l.take (k + 1)).filter p = l.take k /\ delJ p l (k + 1) = l := by
 have e : (l.take (k + 1)).filter p = l.take k := by
  rw [getElem!_pos l k hk] at h1;rw [delJ_no p l k hk h1, List.filter_eq_self];intro x hx;obtain ⟨i, hi, rfl⟩ := List.getElem_of_mem hx;rw [List.length_take] at hi;rw [List.getElem_take];have := h2 i (by omega);rwa [getElem!_pos l i (by omega)] at this
 refine ⟨e, ?_⟩;unfold delJ;rw [e, List.length_take, Nat.min_eq_left (by omega), List.take_append_drop]
theorem gdelV_any (w : World) (Bk : Nat) (v : Value) (l : List Vt) (h : Slc.Own w Bk 65 3 encV v l) (hx : ∀ x ∈ l, VtAt w x) (hn : l.length <= 100000) (qd bm q : Nat) (f : B -> Option Sg) (hm : OwnF w kS rdS edS bm q f) (hq : w.cell? ⟨qd, 0, none⟩ = some (.map (some bm))) (hql : qd < w.heap.size) (hqv : v.ownBlock ≠ some qd) (hbv : v.ownBlock ≠ some bm) :
  Calls Tryz.prog 61 #[v, .func (.func 62) #[] #[.pointer (some ⟨qd, 0, none⟩)]] w fun e w' => ∃ v', e = .returned v' /\ v'.ownBlock = v.ownBlock /\ Slc.Own w' Bk 65 3 encV v' (l.filter fun x => !(f x.n.pol).isSome) /\ w.grownBy w' v.ownBlock := by
 obtain ⟨p, hp⟩ : ∃ p : Vt -> Bool, p = fun x => !(f x.n.pol).isSome := ⟨_, rfl⟩
 have HP := Bx.mk hp;rw [<- hp];clear hp;have hix := idxM_any w v l ⟨h.rd, hx⟩ hn qd bm q f hm hq hql;obtain ⟨ad, c, rfl, hlc⟩ := h.rd.form;have HO := Bx.mk h;obtain ⟨N, hN⟩ : ∃ N, N = l.length := ⟨_, rfl⟩
 have HN := Bx.mk hN;obtain ⟨I0, hI⟩ : ∃ I, I = idxG (vxs l) (fun n => (f n.pol).isSome) := ⟨_, rfl⟩
 rw [<- hI] at hix;have HI := Bx.mk hI;have HM := Bx.mk hm;have HQ := Bx.mk hq;have HQL := Bx.mk hql;have HPL := Bx.mk (show ∀ x ∈ l, x.n.pol.length <= 1000000 from fun x hxm => (hx x hxm).2.2.2.1);rw [<- hN] at hn hix hlc hqv hbv |-;have HQV := Bx.mk hqv;have HBV := Bx.mk hbv;have HLC := Bx.mk hlc;clear h hx hN hI hm hq hql hqv hbv;have eg : ∀ args W, (callFunc 62 args).run Tryz.prog W = .ok (.enter 62 args) W := enters_of Tryz.func62 (by kernel_rfl) rfl
 go_enter Tryz.func61, Tryz.ntmps61;go_wp2_with fail
 go_at_call 94;refine hix.mono ?_;rintro e w1 ⟨rfl, hb1⟩;have HB1 := Bx.mk hb1;clear hix hb1;by_cases hi0 : I0 = -1
 ·have t12 : (I0 == -1) = true := by rw [hi0]; rfl
  have HF := Bx.mk (show l.filter p = l by
   rw [HP.out, List.filter_eq_self];intro x hxm;obtain ⟨i, hi, rfl⟩ := List.getElem_of_mem hxm;have := idxG_neg (t := vxs l) (f := fun n => (f n.pol).isSome) (by rw [<- HI.out, hi0]; omega) i (by rw [vxs_len]; exact hi);rw [vxs_at l i hi] at this
   rw [this]; rfl)
  clear hi0;go_wp2_with fail
  go_ret;refine ⟨_, rfl, rfl, by rw [HF.out]; rw [HN.out]; exact HO.out.below HB1.out, ⟨HB1.out.os, HB1.out.tape, HB1.out.output, HB1.out.size, fun k hk _ => HB1.out.block k hk⟩⟩
 ·have t12 : (I0 == -1) = false := by simp [hi0]
  have hnn : 0 <= idxG (vxs l) (fun n => (f n.pol).isSome) := by
   rcases Int.lt_or_le (idxG (vxs l) (fun n => (f n.pol).isSome)) 0 with q1 | q1
   ·exfalso
    apply hi0
    rw [HI.out];exact idxG_no (idxG_neg q1)
   ·exact q1
  obtain ⟨k0, hk0, hk0e, hk0t, hk0n⟩ := idxG_some hnn;rw [vxs_len] at hk0;rw [<- HI.out] at hk0e;subst hk0e;have hp := HP.out;have hpv : ∀ i (hi : i < l.length), p l[i]! = !(f ((vxs l)[i]!).pol).isSome := fun i hi => by rw [hp, vxs_at l i hi, getElem!_pos l i hi]
  obtain ⟨hfl, hfd⟩ := delJ_first p l k0 hk0 (by rw [hpv k0 hk0, hk0t]; rfl) (fun j hj => by rw [hpv j (by omega), hk0n j hj]; rfl);have hown := HO.out;rcases hown.2 with ⟨h0, hn0⟩ | ⟨g, cap, cur, hv, hB, -, -⟩
  ·exact absurd hn0 (by omega)
  simp only [Value.slice.injEq] at hv
  obtain ⟨rfl, -, rfl⟩ := hv;rw [<- HN.out] at hown;have HG0 := Bx.mk (show w.grownBy w1 (some g) from ⟨HB1.out.os, HB1.out.tape, HB1.out.output, HB1.out.size, fun k hk _ => HB1.out.block k hk⟩);have HO1 := Bx.mk (show Slc.Own w1 Bk 65 3 encV (.slice (some ⟨g, 0, none⟩) N c) (delJ p l (k0 + 1)) by rw [hfd]; exact hown.below HB1.out);have HI1 := Bx.mk (show k0 = ((l.take (k0 + 1)).filter p).length by rw [hfl, List.length_take]; omega);have hk0N : k0 < N := by rw [HN.out]; exact hk0
  have HGQ := Bx.mk (show g ≠ qd /\ g ≠ bm from ⟨fun e => HQV.out (by rw [e]; rfl), fun e => HBV.out (by rw [e]; rfl)⟩);clear hnn hk0 hk0t hk0n hpv hp hfl hfd hown hB hi0;go_wp2_with fail
  go_loopw [5, 6] (fun iv jv wr => ∃ (i j : Nat), i < j /\ j <= N /\ iv = .int .i64 i /\ jv = .int .i64 j /\ Bx (i = ((l.take j).filter p).length) /\ Bx (Slc.Own wr Bk 65 3 encV (.slice (some ⟨g, 0, none⟩) N c) (delJ p l j)) /\ Bx (w.grownBy wr (some g))) (fun _ jv _ => N - (intOf jv).toNat)
  case atStart => exact ⟨k0, k0 + 1, by omega, by omega, rfl, by go_num, HI1, HO1, HG0⟩
  case round =>
   clear HI1 HO1 HG0;obtain ⟨i, j, hij, hj, rfl, rfl, hI, hO, hG⟩ := hrel;by_cases hlt : j < N
   ·have hjl : j < l.length := by rw [<- HN.out]; exact hlt
    have hjd : j < (delJ p l j).length := (by rw [delJ_len p l j (by omega)]; exact hjl);have hat := delJ_at p l j hjl hjd;have c0 := hO.out.cell encV_ok j hjd 0 (by omega) (.string (bstr (l[j]).n.pol)) (by rw [hat]; rfl);have c1 := hO.out.cell encV_ok j hjd 1 (by omega) (l[j]).u.val (by rw [hat]; rfl);have c2 := hO.out.cell encV_ok j hjd 2 (by omega) (l[j]).q.val (by rw [hat]; rfl);rw [Nat.add_zero] at c0;have HXP := Bx.mk (HPL.out _ (zM hjl));have HYES := Bx.mk (delJ_yes p l j hjl);have HNO := Bx.mk (delJ_no p l j hjl);have HPX := Bx.mk (show p l[j] = !(f (l[j]).n.pol).isSome by rw [HP.out]);obtain ⟨x, hx⟩ : ∃ x, x = l[j]'hjl := ⟨_, rfl⟩
    rw [<- hx] at c0 c1 c2 HXP HYES HNO HPX;simp only [Sl.val] at c1 c2
    obtain ⟨r, hr⟩ : ∃ r, r = (f x.n.pol).isSome := ⟨_, rfl⟩
    have hqw := (hG.out.block qd HQL.out (by simp only [ne_eq, zO]; exact fun e => HGQ.out.1 e.symm));obtain ⟨W2, hW2⟩ : ∃ W2, W2 = wr.alloc (.cells #[.string (bstr x.n.pol), .slice x.u.ad x.u.n x.u.c, .slice x.q.ad x.q.n x.q.c] 65) := ⟨_, rfl⟩
    obtain ⟨q7, hq7⟩ : ∃ q, q = wr.heap.size := ⟨_, rfl⟩
    have hba : Below wr.heap.size wr W2 := (by rw [hW2]; exact (Below.refl _ _).alloc (zR _) _);have HR2 := Bx.mk (show W2.heap[q7]? = some (.cells #[.string (bstr x.n.pol), .slice x.u.ad x.u.n x.u.c, .slice x.q.ad x.q.n x.q.c] 65 (0, 0)) by rw [hW2, hq7]; exact heap_alloc_new _ _);have hM2 := (HM.out.block (hG.out.block bm HM.out.lt (by simp only [ne_eq, zO]; exact fun e => HGQ.out.2 e.symm))).below hba;have hqlw : qd < wr.heap.size := Nat.lt_of_lt_of_le HQL.out hG.out.size
    have hq2 : W2.cell? ⟨qd, 0, none⟩ = some (.map (some bm)) := by
     have h1 : wr.cell? ⟨qd, 0, none⟩ = some (.map (some bm)) := by
      have h2 := HQ.out;unfold World.cell? at h2 |-;rw [hqw]; exact h2
     exact (hba.cell (p := ⟨qd, 0, none⟩) hqlw).trans h1
    have hcf := mapF_any W2 x qd bm q f hM2 hq2 (Nat.lt_of_lt_of_le hqlw hba.size) HXP.out;rw [<- hr] at hcf HPX;unfold verV at hcf;simp only [Sl.val] at hcf
    have HO2 := Bx.mk (hO.out.below hba);have HG2 := Bx.mk (grown_bel hG.out hba);have HGB := Bx.mk (show g < wr.heap.size from (hO.out.lt g rfl).2);have HQ7 := Bx.mk hq7;clear hx hr hqw hM2 hqlw hq2 hO hG hba hat hjd hjl;go_upto_region 8 with fail
    rw [<- hW2, <- hq7];clear hW2 hq7 c0 c1 c2;have hr2 := HR2.out;have m0 := cell_of_row _ _ 0 _ _ _ hr2;have m1 := cell_of_row _ _ 1 _ _ _ hr2;have m2 := cell_of_row _ _ 2 _ _ _ hr2;simp only [List.getElem?_toArray, List.getElem?_cons_zero, List.getElem?_cons_succ] at m0 m1 m2
    clear hr2;go_wp2_with fail
    go_at_call 62;refine hcf.mono ?_;rintro e w3 ⟨rfl, hb3⟩;clear hcf m0 m1 m2;have HO3 := Bx.mk (HO2.out.below hb3);have HG3 := Bx.mk (grown_bel HG2.out hb3);have HR3 := Bx.mk ((hb3.block q7 (lt_of_some HR2.out)).trans HR2.out);clear hb3
    cases r with
    | true =>
     have he := HNO.out (by rw [HPX.out]; rfl);have HI2 := Bx.mk (show i = ((l.take (j + 1)).filter p).length by rw [he]; exact hI.out)
     have HO4 := Bx.mk (show Slc.Own w3 Bk 65 3 encV (.slice (some ⟨g, 0, none⟩) N c) (delJ p l (j + 1)) by
      have : delJ p l (j + 1) = delJ p l j := by unfold delJ; rw [he]
      rw [this]; exact HO3.out)
     clear he;go_wp2_with fail
     go_roundw
     case rel => exact ⟨i, j + 1, by omega, by omega, rfl, by go_num, HI2, HO4, HG3⟩
     case measure => simp [intOf]; omega
    | false =>
     obtain ⟨he, hset⟩ := HYES.out (by rw [HPX.out]; rfl);have HI2 := Bx.mk (show i + 1 = ((l.take (j + 1)).filter p).length by rw [he, List.length_append, <- hI.out]; rfl);rw [<- hI.out] at hset;have HSET := Bx.mk hset;have hid : i < (delJ p l j).length := (by rw [delJ_len p l j (by rw [<- HN.out]; omega), <- HN.out]; omega);obtain ⟨y0, hy0⟩ : ∃ y, y = (delJ p l j)[i]'hid := ⟨_, rfl⟩
     have d0 := HO3.out.cell encV_ok i hid 0 (by omega) (.string (bstr y0.n.pol)) (by rw [hy0]; rfl);have d1 := HO3.out.cell encV_ok i hid 1 (by omega) y0.u.val (by rw [hy0]; rfl);have d2 := HO3.out.cell encV_ok i hid 2 (by omega) y0.q.val (by rw [hy0]; rfl);rw [Nat.add_zero] at d0;obtain ⟨g1, cap1, hv1, hB1, hlt1, hfr1, ho1, hg1⟩ := HO3.out.set1 encV_ok i 0 hid (by omega) (.string (bstr x.n.pol)) ⟨⟨x.n.pol, y0.n.ex, y0.n.par⟩, y0.u, y0.q⟩ (by rw [<- hy0]; rfl);simp only [Value.slice.injEq, zO, Addr.mk.injEq, and_true] at hv1
     obtain ⟨rfl, -, rfl⟩ := hv1;obtain ⟨g2, cap2, hv2, hB2, hlt2, hfr2, ho2, hg2⟩ := ho1.set1 encV_ok i 1 (by simpa using hid) (by omega) (.slice x.u.ad x.u.n x.u.c) ⟨⟨x.n.pol, x.n.ex, y0.n.par⟩, x.u, y0.q⟩ (by simp; rfl);simp only [Value.slice.injEq, zO, Addr.mk.injEq, and_true] at hv2
     obtain ⟨rfl, -, -⟩ := hv2;obtain ⟨g3, cap3, hv3, hB3, hlt3, hfr3, ho3, hg3⟩ := ho2.set1 encV_ok i 2 (by simpa using hid) (by omega) (.slice x.q.ad x.q.n x.q.c) x (by simp; rfl);simp only [Value.slice.injEq, zO, Addr.mk.injEq, and_true] at hv3
     obtain ⟨rfl, -, -⟩ := hv3;rw [List.set_set, List.set_set, hset] at ho3;rw [Nat.add_zero] at ho1 ho2 ho3 hg1 hg2 hg3;have HO5 := Bx.mk ho3;have HG5 := Bx.mk (grown_same (grown_same (grown_same HG3.out hg1) hg2) hg3);have hr3 := HR3.out;have m0 := cell_of_row _ _ 0 _ _ _ hr3;have m1 := cell_of_row _ _ 1 _ _ _ hr3;have m2 := cell_of_row _ _ 2 _ _ _ hr3;simp only [List.getElem?_toArray, List.getElem?_cons_zero, List.getElem?_cons_succ] at m0 m1 m2
     clear ho1 ho2 ho3 hg1 hg2 hg3 hr3 hset he hid hy0 hB1 hB2 hB3 hlt2 hlt3 hfr2 hfr3;go_wp2_with fail
     go_roundw
     case rel => exact ⟨i + 1, j + 1, by omega, by omega, by go_num, by go_num, HI2, HO5, HG5⟩
     case measure => simp [intOf]; omega
   ·obtain rfl : j = N := by omega
    obtain ⟨z, hz⟩ : ∃ z : Value, z = .agg #[.string ⟨#[]⟩, .slice none 0 0, .slice none 0 0] := ⟨_, rfl⟩
    obtain ⟨L, hL⟩ : ∃ L, L = (Builtin.zeroCells z.cells (j - i)).toList := ⟨_, rfl⟩
    have hLl : L.length = (j - i) * 3 := by rw [hL, hz]; simp [Builtin.zeroCells, Value.cells]
    have hLo : ∀ u ∈ L, u.oneCell' = true := by
     intro u hu;rw [hL, hz] at hu;unfold Builtin.zeroCells at hu;rw [Array.toList_map, List.mem_map] at hu;obtain ⟨a, -, rfl⟩ := hu;rcases (show a % 3 = 0 \/ a % 3 = 1 \/ a % 3 = 2 by omega) with e | e | e
     ·show ((#[.string ⟨#[]⟩, .slice none 0 0, .slice none 0 0] : Array Value)[a % 3]!).oneCell' = true
      rw [e]; rfl
     ·show ((#[.string ⟨#[]⟩, .slice none 0 0, .slice none 0 0] : Array Value)[a % 3]!).oneCell' = true
      rw [e]; rfl
     ·show ((#[.string ⟨#[]⟩, .slice none 0 0, .slice none 0 0] : Array Value)[a % 3]!).oneCell' = true
      rw [e]; rfl
    have hdl := delJ_len p l j (by rw [<- HN.out]; exact zR _)
    have hrow : ∃ cur, wr.heap[g]? = some (.cells cur 65 (0, 0)) /\ cur.size = c * 3 := by
     rcases hO.out.2 with ⟨h0, -⟩ | ⟨g', cap', cur', hv, -, hb, -, -, hcs, -⟩
     ·simp at h0
     ·simp only [Value.slice.injEq, zO, Addr.mk.injEq] at hv
      obtain ⟨⟨rfl, -⟩, -, rfl⟩ := hv;exact ⟨cur', hb, hcs⟩
    obtain ⟨cw, hrw, hrs⟩ := hrow;have hcl := fun ty => run_clear_rows (P := Tryz.prog) wr 61 65 ty z und_vers (by rw [hz]; exact Tryz.zeroValue65) L (j - i) hL.symm hLo g (i * 3) (c - i) (by omega) (fun r hr => by rw [cell_of_row _ _ _ _ _ _ hrw, Array.getElem?_eq_getElem (show i * 3 + r < cw.size by rw [hrs]; rw [hLl] at hr; have := HLC.out; omega)]; rfl) (fun r hr => frozen_row hrw)
    have hown := Own.head encV_ok hO.out i (by rw [hdl, <- HN.out]; omega) L;have hgr := setCells_grown g (i * 3) L wr
    have HFO := Bx.mk (show Slc.Own (wr.setCells g (i * 3) L) Bk 65 3 encV (.slice (some ⟨g, 0, none⟩) i c) (l.filter p) by
     have h1 := delJ_all p l;rw [<- HN.out, <- hI.out] at h1
     rw [<- h1]; exact hown)
    have HFG := Bx.mk (grown_same hG.out hgr);clear hown hgr hrw hrs hLo hLl hdl hL hz z;go_wp2_with fail
    go_ret;exact ⟨_, rfl, rfl, HFO.out, HFG.out⟩
theorem setCells_row' (g : Nat) : ∀ (vs : List Value) (o : Nat) (w : World) (cur : Array Value) (t : TypeId) (fr : Nat × Nat), w.heap[g]? = some (.cells cur t fr) -> o + vs.length <= cur.size ->
  ∃ cur', (w.setCells g o vs).heap[g]? = some (.cells cur' t fr) /\ cur'.size = cur.size /\ (∀ j, j < o -> cur'[j]? = cur[j]?) /\ ∀ j, j < vs.length -> cur'[o + j]? = vs[j]?
 | [], o, w, cur, t, fr, h, _ => ⟨cur, h, rfl, fun _ _ => rfl, fun j hj => by simp at hj⟩
 | v :: r, o, w, cur, t, fr, h, hs => by
  rw [List.length_cons] at hs;obtain ⟨cur', h1, h2, h3, h4⟩ := setCells_row' g r (o + 1) (w.setCell ⟨g, o, none⟩ v) (cur.setIfInBounds o v) t fr (row_set h v) (by simp; omega);refine ⟨cur', h1, by rw [h2]; simp, fun j hj => ?_, fun j hj => ?_⟩
  ·rw [h3 j (by omega), Array.getElem?_setIfInBounds];rw [if_neg (by omega)]
  ·cases j with
   | zero =>
    rw [Nat.add_zero, h3 o (by omega), Array.getElem?_setIfInBounds, if_pos rfl, if_pos (by omega)]; rfl
   | succ j =>
    rw [List.length_cons] at hj;have := h4 j (by omega);rw [show o + (j + 1) = o + 1 + j by omega, this]; rfl
theorem Own.onto {α : Type} {w : World} {B g n c : Nat} {t : TypeId} {z : Nat} {enc : α -> List Value} {l : List α} (E : Enc z enc) (h : Slc.Own w B t z enc (.slice (some ⟨g, 0, none⟩) n c) l) (i : Nat) (hi : i <= l.length) (m : List α) (hm : i + m.length <= c) :
  Slc.Own (w.setCells g (i * z) (m.flatMap enc)) B t z enc (.slice (some ⟨g, 0, none⟩) (i + m.length) c) (l.take i ++ m) := by
 rcases h.2 with ⟨h0, hn⟩ | ⟨g', cap', cur, hv, hB, hb, hc, hmx, hcs, ht⟩
 ·simp at h0
 simp only [Value.slice.injEq, zO, Addr.mk.injEq] at hv
 obtain ⟨⟨rfl, -⟩, hnl, rfl⟩ := hv;have hml : (m.flatMap enc).length = m.length * z := flat_len E m;have hle : (i + m.length) * z <= c * z := Nat.mul_le_mul_right z hm;rw [Nat.add_mul] at hle;obtain ⟨cur', h1, h2, h3, h4⟩ := setCells_row' g (m.flatMap enc) (i * z) w cur t (0, 0) hb (by rw [hml, hcs]; exact hle);have hkl : (l.take i ++ m).length = i + m.length := by rw [List.length_append, List.length_take]; omega
 refine ⟨flat_len E _, .inr ⟨g, c, cur', by rw [hkl], hB, h1, by rw [hkl]; omega, hmx, by rw [h2]; exact hcs, ?_⟩⟩;have e2 : ((l.take i).flatMap enc).length = i * z := by rw [flat_len E, List.length_take, Nat.min_eq_left hi]
 have e1 : l.flatMap enc = (l.take i).flatMap enc ++ (l.drop i).flatMap enc := by rw [<- List.flatMap_append, List.take_append_drop]
 have hiz : i * z <= l.length * z := Nat.mul_le_mul_right z hi;rw [hkl, List.flatMap_append, Nat.add_mul];apply List.ext_getElem?
 intro j;rw [List.getElem?_take];by_cases hj : j < i * z
 ·rw [if_pos (by omega), List.getElem?_append_left (by omega)];have q1 := h3 j hj;have q2 : (l.flatMap enc)[j]? = ((l.take i).flatMap enc)[j]? := by rw [e1, List.getElem?_append_left (by omega)]
  rw [<- q2, <- ht, List.getElem?_take, if_pos (by omega)];simpa using q1
 ·rw [List.getElem?_append_right (by omega), e2];by_cases hj2 : j < i * z + m.length * z
  ·rw [if_pos hj2];have := h4 (j - i * z) (by omega);rw [show i * z + (j - i * z) = j by omega] at this;simpa using this
  ·rw [if_neg hj2, List.getElem?_eq_none (by omega)]
theorem zeroRows_cells (n : Nat) : ∀ u ∈ (Builtin.zeroCells (Value.agg #[.string ⟨#[]⟩, .slice none 0 0, .slice none 0 0]).cells n).toList, u.oneCell' = true := by
 intro u hu;unfold Builtin.zeroCells at hu;rw [Array.toList_map, List.mem_map] at hu;obtain ⟨a, -, rfl⟩ := hu;rcases (show a % 3 = 0 \/ a % 3 = 1 \/ a % 3 = 2 by omega) with e | e | e
 ·show ((#[.string ⟨#[]⟩, .slice none 0 0, .slice none 0 0] : Array Value)[a % 3]!).oneCell' = true
  rw [e]; rfl
 ·show ((#[.string ⟨#[]⟩, .slice none 0 0, .slice none 0 0] : Array Value)[a % 3]!).oneCell' = true
  rw [e]; rfl
 ·show ((#[.string ⟨#[]⟩, .slice none 0 0, .slice none 0 0] : Array Value)[a % 3]!).oneCell' = true
  rw [e]; rfl
theorem gdelete_any (w : World) (Bk : Nat) (v : Value) (l : List Vt) (h : Slc.Own w Bk 65 3 encV v l) (hn : l.length <= 100000) (i j : Nat) (hij : i < j) (hji : j <= i + 1) (hj : j <= l.length) :
  Calls Tryz.prog 70 #[v, .int .i64 i, .int .i64 j] w fun e w' => ∃ v', e = .returned v' /\ v'.ownBlock = v.ownBlock /\ Slc.Own w' Bk 65 3 encV v' (l.take i ++ l.drop j) /\ w.grownBy w' v.ownBlock := by
 have mixed : Tryz.prog.follows .mixedOrders = true := by kernel_rfl
 obtain ⟨iv, hiv, hiv0, hiv1, hiv2⟩ := info_parts info_ver;rcases h.2 with ⟨h0, hn0⟩ | ⟨g, c, cur, rfl, hB, hb, hlc, hmx, hcs, ht⟩
 ·exact absurd hn0 (by omega)
 obtain ⟨N, hN⟩ : ∃ N, N = l.length := ⟨_, rfl⟩
 have HN := Bx.mk hN;have hD := h.drew;obtain ⟨news, hnews⟩ : ∃ news, news = (l.drop j).flatMap encV := ⟨_, rfl⟩
 have hnl : news.length = (N - j) * 3 := by rw [hnews, flat_len encV_ok, List.length_drop, <- hN]
 have hrow : w.drew.heap[g]? = some (.cells cur 65 (0, 0)) := hb;have s1 := Bx.mk hnl;have hjc : j <= c := by omega
 have hic : i <= c := by omega
 obtain ⟨ad, had⟩ : ∃ ad : Addr, ad = if c = j then ⟨g, 0, none⟩ else ⟨g, j * 3, none⟩ := ⟨_, rfl⟩
 have HAD := Bx.mk (show (if c = j then some (⟨g, 0, none⟩ : Addr) else some ⟨g, j * 3, none⟩) = some ad by rw [had]; split <;> rfl)
 have hsrc := Bx.mk (show ∀ r u, news[r]? = some u -> w.drew.cell? (ad.add r) = some u from fun r u hr => by
  rw [had];by_cases hcj : c = j
  ·exfalso
   have h0 : news.length = 0 := by rw [hnl]; omega
   rw [List.eq_nil_of_length_eq_zero h0] at hr;simp at hr
  rw [if_neg hcj];have e1 : l.flatMap encV = (l.take j).flatMap encV ++ (l.drop j).flatMap encV := by rw [<- List.flatMap_append, List.take_append_drop]
  have e2 : ((l.take j).flatMap encV).length = j * 3 := by rw [flat_len encV_ok, List.length_take, Nat.min_eq_left hj]
  have h2 : (l.flatMap encV)[j * 3 + r]? = some u := by
   rw [e1, List.getElem?_append_right (by omega), e2, Nat.add_sub_cancel_left, <- hnews]; exact hr
  have h3 := World.ownsRow.cells hD (g := g) rfl (j * 3 + r) u h2;rw [add_at] at h3 |-;rw [Nat.zero_add] at h3
  exact h3)
 have s2 := Bx.mk (show ∀ u ∈ news, u.oneCell' = true from fun u hu => by
  rw [hnews] at hu;obtain ⟨x, -, hx⟩ := List.mem_flatMap.1 hu
  exact encV_ok.one x u hx)
 have s3 := Bx.mk (show ∀ r, r < news.length -> (w.drew.cell? ⟨g, 0 + i * 3 + r, none⟩).isSome = true /\ w.drew.frozen? ⟨g, 0 + i * 3 + r, none⟩ = false from fun r hr => by
  refine ⟨?_, frozen_row hrow⟩
  rw [cell_of_row _ _ _ _ _ _ hrow, Array.getElem?_eq_getElem (show 0 + i * 3 + r < cur.size by rw [hcs]; rw [hnl] at hr; omega)]; rfl)
 obtain ⟨W1, hW1⟩ : ∃ W1, W1 = w.drew.setCells g (0 + i * 3) news := ⟨_, rfl⟩
 have hown : Slc.Own W1 Bk 65 3 encV (.slice (some ⟨g, 0, none⟩) (i + (l.drop j).length) c) (l.take i ++ l.drop j) := by
  rw [hW1, hnews, Nat.zero_add];exact Own.onto encV_ok hD i (by omega) (l.drop j) (by rw [List.length_drop]; omega)
 have hW := Bx.mk hW1
 have hg1 : w.grownBy W1 (some g) := by
  have h1 := setCells_grown g (0 + i * 3) news w.drew;rw [<- hW1] at h1;have h0 : w.grownBy w.drew (some g) := ⟨rfl, rfl, rfl, zR _, fun _ _ _ => rfl⟩;exact grown_same h0 h1
 have hdl : (l.drop j).length = N - j := by rw [List.length_drop, hN]
 rw [hdl] at hown;obtain ⟨K, hK⟩ : ∃ K, K = i + (N - j) := ⟨_, rfl⟩
 have hKN : K < N := by omega
 have hNK : N <= K + 1 := by omega
 have hlK : (l.take i ++ l.drop j).length = K := by rw [List.length_append, hdl, List.length_take]; omega
 rw [<- hK] at hown
 have hrow1 : ∃ cur, W1.heap[g]? = some (.cells cur 65 (0, 0)) /\ cur.size = c * 3 := by
  rcases hown.2 with ⟨h0, -⟩ | ⟨g', cap', cur', hv, -, hb, -, -, hcs, -⟩
  ·simp at h0
  ·simp only [Value.slice.injEq, zO, Addr.mk.injEq] at hv
   obtain ⟨⟨rfl, -⟩, -, rfl⟩ := hv;exact ⟨cur', hb, hcs⟩
 obtain ⟨cw, hrw, hrs⟩ := hrow1;obtain ⟨L, hL⟩ : ∃ L, L = (Builtin.zeroCells (Value.agg #[.string ⟨#[]⟩, .slice none 0 0, .slice none 0 0]).cells (N - K)).toList := ⟨_, rfl⟩
 have hLl : L.length = (N - K) * 3 := by rw [hL]; simp [Builtin.zeroCells, Value.cells]
 have hcl := fun ty => run_clear_rows (P := Tryz.prog) W1 61 65 ty _ und_vers Tryz.zeroValue65 L (N - K) hL.symm (by rw [hL]; exact zeroRows_cells _) g (K * 3) (c - K) (by omega) (fun r hr => by rw [cell_of_row _ _ _ _ _ _ hrw, Array.getElem?_eq_getElem (show K * 3 + r < cw.size by rw [hrs]; rw [hLl] at hr; omega)]; rfl) (fun r hr => frozen_row hrw)
 have HFO := Bx.mk (show Slc.Own (W1.setCells g (K * 3) L) Bk 65 3 encV (.slice (some ⟨g, 0, none⟩) K c) (l.take i ++ l.drop j) by
  have h1 := Own.head encV_ok hown K (by rw [hlK]; exact zR _) L;rw [List.take_of_length_le (by rw [hlK]; exact zR _)] at h1
  exact h1)
 have HFG := Bx.mk (grown_same hg1 (setCells_grown g (K * 3) L W1));have HK := Bx.mk hK;have hcK : c ≠ K := by omega
 rw [<- hN] at hn hj hlc |-;clear h hb ht hN hD hnews hnl hrow hW1 had hg1 hdl hlK hown hrw hrs hL hLl hK;go_enter Tryz.func70, Tryz.ntmps70;go_wp2_with fail
 go_region_law_o (refine step_append_room rfl (.tmp 22) (.tmp 25) 61 rfl 65 iv 3 und_vers hiv hiv1 g 0 i c (by simp [Act.eval, Act.put]) ad (N - j) (c - j) news (by simp [Act.eval, Act.put]; exact HAD.out) s1.out hsrc.out s2.out (by omega) s3.out ?_; rw [<- hW.out, <- HK.out])
 go_wp2_with fail
 all_goals first
  | (have hcj : c = j := (by assumption); subst hcj; go_ret; exact ⟨_, rfl, rfl, HFO.out, HFG.out⟩)
  | (go_ret; exact ⟨_, rfl, rfl, HFO.out, HFG.out⟩)
end Go.Proofs.YtmagjdocondmhaaGreat.Tr.Gr
