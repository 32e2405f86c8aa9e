/- packed -/
import Derived.Test.YtmagjdocondmhaaGreatPkAn08
import Derived.Lib.SliceRun
import Derived.Deep.Upon
import Derived.Deep.RegionLaw
import Derived.Lib.Overlaps
import Derived.Lib.AppendZerosOnto
import Derived.Laws.IdiomCopy
import Derived.Laws.Externs
import Derived.Laws.NewBlocks
set_option linter.unusedVariables false
set_option linter.unusedSimpArgs false
set_option maxRecDepth 100000
set_option maxHeartbeats 64000000
namespace Go.Proofs.YtmagjdocondmhaaGreat.Tr.Gr
open Go Go.RowKit Slc St Mp Tr Rg
theorem run_clear_rows {P : Program} (w : World) (t e ty : TypeId) (z : Value) (ht : P.underlying t = some (.slice e)) (hv : ∀ w, (zeroValue e).run P w = .ok z w) (L : List Value) (n : Nat) (hL : (Builtin.zeroCells z.cells n).toList = L) (h1 : ∀ u ∈ L, u.oneCell' = true) (b o c : Nat) (hn : 0 < n)
  (hc : ∀ j, j < L.length -> (w.cell? ⟨b, o + j, none⟩).isSome = true) (hf : ∀ j, j < L.length -> w.frozen? ⟨b, o + j, none⟩ = false) :
  (Builtin.clear_ #[t] ty #[.slice (some ⟨b, o, none⟩) n c]).run P w = .ok (.tuple #[]) (w.setCells b o L) := by
 have hst := run_storeCells_cells (P := P) b o L 0 w (by simpa using hc) (by simpa using hf) h1;simp only [Nat.add_zero] at hst
 obtain ⟨m, rfl⟩ : ∃ m, n = m + 1 := ⟨n - 1, by omega⟩
 simp [Builtin.clear_, run_underlying ht, hv, hL, hst]
theorem setCells_row (g : Nat) : ∀ (vs : List Value) (o : Nat) (w : World) (cur : Array Value) (t : TypeId) (fr : Nat × Nat), w.heap[g]? = some (.cells cur t fr) ->
  ∃ cur', (w.setCells g o vs).heap[g]? = some (.cells cur' t fr) /\ cur'.size = cur.size /\ ∀ j, j < o -> cur'[j]? = cur[j]?
 | [], o, w, cur, t, fr, h => ⟨cur, h, rfl, fun _ _ => rfl⟩
 | v :: r, o, w, cur, t, fr, h => by
  obtain ⟨cur', h1, h2, h3⟩ := setCells_row g r (o + 1) (w.setCell ⟨g, o, none⟩ v) (cur.setIfInBounds o v) t fr (row_set h v);refine ⟨cur', h1, by rw [h2]; simp, fun j hj => ?_⟩;rw [h3 j (by omega), Array.getElem?_setIfInBounds];rw [if_neg (by omega)]
theorem setCells_grown (g o : Nat) (vs : List Value) (w : World) : w.grownBy (w.setCells g o vs) (some g) := by
 induction vs generalizing o w with
 | nil => exact ⟨rfl, rfl, rfl, zR _, fun _ _ _ => rfl⟩
 | cons v r ih =>
  have h1 : w.grownBy (w.setCell ⟨g, o, none⟩ v) (some g) := ⟨rfl, rfl, rfl, by simp, fun k hk hne => heap_setCell_other _ _ _ _ (fun e => hne (by rw [e]))⟩;exact grown_same h1 (ih (o + 1) _)
theorem Own.head {α : Type} {w : World} {B g n c : Nat} {t : TypeId} {z : Nat} {enc : α -> List Value} {l : List α} (E : Enc z enc) (h : Slc.Own w B t z enc (.slice (some ⟨g, 0, none⟩) n c) l) (k : Nat) (hk : k <= l.length) (vs : List Value) :
  Slc.Own (w.setCells g (k * z) vs) B t z enc (.slice (some ⟨g, 0, none⟩) k c) (l.take k) := by
 rcases h.2 with ⟨h0, hn⟩ | ⟨g', cap', cur, hv, hB, hb, hc, hm, hcs, ht⟩
 ·simp at h0
 simp only [Value.slice.injEq, zO, Addr.mk.injEq] at hv
 obtain ⟨⟨rfl, -⟩, hnl, rfl⟩ := hv;obtain ⟨cur', h1, h2, h3⟩ := setCells_row g vs (k * z) w cur t (0, 0) hb;have hkl : (l.take k).length = k := by simp; omega
 refine ⟨flat_len E _, .inr ⟨g, c, cur', by rw [hkl], hB, h1, by rw [hkl]; omega, hm, by rw [h2]; exact hcs, ?_⟩⟩
 have hfl : (l.take k).flatMap enc = (l.flatMap enc).take (k * z) := by
  have e1 : l.flatMap enc = (l.take k).flatMap enc ++ (l.drop k).flatMap enc := by rw [<- List.flatMap_append, List.take_append_drop]
  have e2 : ((l.take k).flatMap enc).length = k * z := by rw [flat_len E, hkl]
  rw [e1]; exact (List.take_left' e2).symm
 rw [hkl, hfl, <- ht];have hle : k * z <= l.length * z := Nat.mul_le_mul_right z hk;apply List.ext_getElem?
 intro j;rw [List.getElem?_take, List.getElem?_take, List.getElem?_take];by_cases hj : j < k * z
 ·rw [if_pos hj, if_pos hj, if_pos (by omega)];have := h3 j hj;simpa using this
 ·rw [if_neg hj, if_neg hj]
attribute [local go_sem] Oper.semAt_some
def delJ {α : Type} (p : α -> Bool) (l : List α) (j : Nat) : List α := (l.take j).filter p ++ l.drop ((l.take j).filter p).length
theorem delJ_kl {α : Type} (p : α -> Bool) (l : List α) (j : Nat) (hj : j <= l.length) : ((l.take j).filter p).length <= j := by
 have := List.length_filter_le p (l.take j);rw [List.length_take] at this; omega
theorem delJ_len {α : Type} (p : α -> Bool) (l : List α) (j : Nat) (hj : j <= l.length) : (delJ p l j).length = l.length := by
 have := delJ_kl p l j hj;unfold delJ;rw [List.length_append, List.length_drop]; omega
theorem delJ_at {α : Type} (p : α -> Bool) (l : List α) (j : Nat) (hj : j < l.length) (h : j < (delJ p l j).length) : (delJ p l j)[j] = l[j] := by
 have := delJ_kl p l j (by omega);unfold delJ at h |-;rw [List.getElem_append_right this, List.getElem_drop];congr 1; omega
theorem delJ_no {α : Type} (p : α -> Bool) (l : List α) (j : Nat) (hj : j < l.length) (h : p l[j] = false) : (l.take (j + 1)).filter p = (l.take j).filter p := by
 rw [zA hj, List.filter_append]; simp [List.filter_cons, h]
theorem delJ_yes {α : Type} (p : α -> Bool) (l : List α) (j : Nat) (hj : j < l.length) (h : p l[j] = true) : (l.take (j + 1)).filter p = (l.take j).filter p ++ [l[j]] /\ (delJ p l j).set ((l.take j).filter p).length l[j] = delJ p l (j + 1) := by
 have e : (l.take (j + 1)).filter p = (l.take j).filter p ++ [l[j]] := by
  rw [zA hj, List.filter_append]; simp [List.filter_cons, h]
 refine ⟨e, ?_⟩;have hk := delJ_kl p l j (by omega);unfold delJ;have hd := List.drop_eq_getElem_cons (show ((l.take j).filter p).length < l.length by omega);rw [e, List.set_append_right _ _ (zR _), Nat.sub_self, List.length_append, List.length_singleton, hd, List.set_cons_zero, List.append_assoc];rfl
theorem delJ_all {α : Type} (p : α -> Bool) (l : List α) : (delJ p l l.length).take ((l.take l.length).filter p).length = l.filter p := by
 unfold delJ;rw [List.take_left' rfl, List.take_length]
theorem delJ_first {α : Type} [Inhabited α] (p : α -> Bool) (l : List α) (k : Nat) (hk : k < l.length) (h1 : p l[k]! = false) (h2 : ∀ j, j < k -> p l[j]! = true) : (l.take (k + 1)).filter p = l.take k /\ delJ p l (k + 1) = l := by
 have e : (l.take (k + 1)).filter p = l.take k := by
  rw [getElem!_pos l k hk] at h1;rw [delJ_no p l k hk h1, List.filter_eq_self];intro x hx;obtain ⟨i, hi, rfl⟩ := List.getElem_of_mem hx;rw [List.length_take] at hi;rw [List.getElem_take];have := h2 i (by omega);rwa [getElem!_pos l i (by omega)] at this
 refine ⟨e, ?_⟩;unfold delJ;rw [e, List.length_take, Nat.min_eq_left (by omega), List.take_append_drop]
theorem gdelV_any (w : World) (Bk : Nat) (v : Value) (l : List Vt) (h : Slc.Own w Bk 65 3 encV v l) (hx : ∀ x ∈ l, VtAt w x) (hn : l.length <= 100000) (qd bm q : Nat) (f : B -> Option Sg) (hm : OwnF w kS rdS edS bm q f) (hq : w.cell? ⟨qd, 0, none⟩ = some (.map (some bm))) (hql : qd < w.heap.size) (hqv : v.ownBlock ≠ some qd) (hbv : v.ownBlock ≠ some bm) :
  Calls Tryz.prog 61 #[v, .func (.func 62) #[] #[.pointer (some ⟨qd, 0, none⟩)]] w fun e w' => ∃ v', e = .returned v' /\ v'.ownBlock = v.ownBlock /\ Slc.Own w' Bk 65 3 encV v' (l.filter fun x => !(f x.n.pol).isSome) /\ w.grownBy w' v.ownBlock := by
 obtain ⟨p, hp⟩ : ∃ p : Vt -> Bool, p = fun x => !(f x.n.pol).isSome := ⟨_, rfl⟩
 have HP := Bx.mk hp;rw [<- hp];clear hp;have hix := idxM_any w v l ⟨h.rd, hx⟩ hn qd bm q f hm hq hql;obtain ⟨ad, c, rfl, hlc⟩ := h.rd.form;have HO := Bx.mk h;obtain ⟨N, hN⟩ : ∃ N, N = l.length := ⟨_, rfl⟩
 have HN := Bx.mk hN;obtain ⟨I0, hI⟩ : ∃ I, I = idxG (vxs l) (fun n => (f n.pol).isSome) := ⟨_, rfl⟩
 rw [<- hI] at hix;have HI := Bx.mk hI;have HM := Bx.mk hm;have HQ := Bx.mk hq;have HQL := Bx.mk hql;have HPL := Bx.mk (show ∀ x ∈ l, x.n.pol.length <= 1000000 from fun x hxm => (hx x hxm).2.2.2.1);rw [<- hN] at hn hix hlc hqv hbv |-;have HQV := Bx.mk hqv;have HBV := Bx.mk hbv;have HLC := Bx.mk hlc;clear h hx hN hI hm hq hql hqv hbv;have eg : ∀ args W, (callFunc 62 args).run Tryz.prog W = .ok (.enter 62 args) W := enters_of Tryz.func62 (by kernel_rfl) rfl
 go_enter Tryz.func61, Tryz.ntmps61;go_wp2_with fail
 go_at_call 94;refine hix.mono ?_;rintro e w1 ⟨rfl, hb1⟩;have HB1 := Bx.mk hb1;clear hix hb1;by_cases hi0 : I0 = -1
 ·have t12 : (I0 == -1) = true := by rw [hi0]; rfl
  have HF := Bx.mk (show l.filter p = l by
   rw [HP.out, List.filter_eq_self];intro x hxm;obtain ⟨i, hi, rfl⟩ := List.getElem_of_mem hxm;have := idxG_neg (t := vxs l) (f := fun n => (f n.pol).isSome) (by rw [<- HI.out, hi0]; omega) i (by rw [vxs_len]; exact hi);rw [vxs_at l i hi] at this
   rw [this]; rfl)
  clear hi0;go_wp2_with fail
  go_ret;refine ⟨_, rfl, rfl, by rw [HF.out]; rw [HN.out]; exact HO.out.below HB1.out, ⟨HB1.out.os, HB1.out.tape, HB1.out.output, HB1.out.size, fun k hk _ => HB1.out.block k hk⟩⟩
 ·have t12 : (I0 == -1) = false := by simp [hi0]
  have hnn : 0 <= idxG (vxs l) (fun n => (f n.pol).isSome) := by
   rcases Int.lt_or_le (idxG (vxs l) (fun n => (f n.pol).isSome)) 0 with q1 | q1
   ·exfalso
    apply hi0
    rw [HI.out];exact idxG_no (idxG_neg q1)
   ·exact q1
  obtain ⟨k0, hk0, hk0e, hk0t, hk0n⟩ := idxG_some hnn;rw [vxs_len] at hk0;rw [<- HI.out] at hk0e;subst hk0e;have hp := HP.out;have hpv : ∀ i (hi : i < l.length), p l[i]! = !(f ((vxs l)[i]!).pol).isSome := fun i hi => by rw [hp, vxs_at l i hi, getElem!_pos l i hi]
  obtain ⟨hfl, hfd⟩ := delJ_first p l k0 hk0 (by rw [hpv k0 hk0, hk0t]; rfl) (fun j hj => by rw [hpv j (by omega), hk0n j hj]; rfl);have hown := HO.out;rcases hown.2 with ⟨h0, hn0⟩ | ⟨g, cap, cur, hv, hB, -, -⟩
  ·exact absurd hn0 (by omega)
  simp only [Value.slice.injEq] at hv
  obtain ⟨rfl, -, rfl⟩ := hv;rw [<- HN.out] at hown;have HG0 := Bx.mk (show w.grownBy w1 (some g) from ⟨HB1.out.os, HB1.out.tape, HB1.out.output, HB1.out.size, fun k hk _ => HB1.out.block k hk⟩);have HO1 := Bx.mk (show Slc.Own w1 Bk 65 3 encV (.slice (some ⟨g, 0, none⟩) N c) (delJ p l (k0 + 1)) by rw [hfd]; exact hown.below HB1.out);have HI1 := Bx.mk (show k0 = ((l.take (k0 + 1)).filter p).length by rw [hfl, List.length_take]; omega);have hk0N : k0 < N := by rw [HN.out]; exact hk0
  have HGQ := Bx.mk (show g ≠ qd /\ g ≠ bm from ⟨fun e => HQV.out (by rw [e]; rfl), fun e => HBV.out (by rw [e]; rfl)⟩);clear hnn hk0 hk0t hk0n hpv hp hfl hfd hown hB hi0;go_wp2_with fail
  go_loopw [5, 6] (fun iv jv wr => ∃ (i j : Nat), i < j /\ j <= N /\ iv = .int .i64 i /\ jv = .int .i64 j /\ Bx (i = ((l.take j).filter p).length) /\ Bx (Slc.Own wr Bk 65 3 encV (.slice (some ⟨g, 0, none⟩) N c) (delJ p l j)) /\ Bx (w.grownBy wr (some g))) (fun _ jv _ => N - (intOf jv).toNat)
  case atStart => exact ⟨k0, k0 + 1, by omega, by omega, rfl, by go_num, HI1, HO1, HG0⟩
  case round =>
   clear HI1 HO1 HG0;obtain ⟨i, j, hij, hj, rfl, rfl, hI, hO, hG⟩ := hrel;by_cases hlt : j < N
   ·have hjl : j < l.length := by rw [<- HN.out]; exact hlt
    have hjd : j < (delJ p l j).length := (by rw [delJ_len p l j (by omega)]; exact hjl);have hat := delJ_at p l j hjl hjd;have c0 := hO.out.cell encV_ok j hjd 0 (by omega) (.string (bstr (l[j]).n.pol)) (by rw [hat]; rfl);have c1 := hO.out.cell encV_ok j hjd 1 (by omega) (l[j]).u.val (by rw [hat]; rfl);have c2 := hO.out.cell encV_ok j hjd 2 (by omega) (l[j]).q.val (by rw [hat]; rfl);rw [Nat.add_zero] at c0;have HXP := Bx.mk (HPL.out _ (zM hjl));have HYES := Bx.mk (delJ_yes p l j hjl);have HNO := Bx.mk (delJ_no p l j hjl);have HPX := Bx.mk (show p l[j] = !(f (l[j]).n.pol).isSome by rw [HP.out]);obtain ⟨x, hx⟩ : ∃ x, x = l[j]'hjl := ⟨_, rfl⟩
    rw [<- hx] at c0 c1 c2 HXP HYES HNO HPX;simp only [Sl.val] at c1 c2
    obtain ⟨r, hr⟩ : ∃ r, r = (f x.n.pol).isSome := ⟨_, rfl⟩
    have hqw := (hG.out.block qd HQL.out (by simp only [ne_eq, zO]; exact fun e => HGQ.out.1 e.symm));obtain ⟨W2, hW2⟩ : ∃ W2, W2 = wr.alloc (.cells #[.string (bstr x.n.pol), .slice x.u.ad x.u.n x.u.c, .slice x.q.ad x.q.n x.q.c] 65) := ⟨_, rfl⟩
    obtain ⟨q7, hq7⟩ : ∃ q, q = wr.heap.size := ⟨_, rfl⟩
    have hba : Below wr.heap.size wr W2 := (by rw [hW2]; exact (Below.refl _ _).alloc (zR _) _);have HR2 := Bx.mk (show W2.heap[q7]? = some (.cells #[.string (bstr x.n.pol), .slice x.u.ad x.u.n x.u.c, .slice x.q.ad x.q.n x.q.c] 65 (0, 0)) by rw [hW2, hq7]; exact heap_alloc_new _ _);have hM2 := (HM.out.block (hG.out.block bm HM.out.lt (by simp only [ne_eq, zO]; exact fun e => HGQ.out.2 e.symm))).below hba;have hqlw : qd < wr.heap.size := Nat.lt_of_lt_of_le HQL.out hG.out.size
    have hq2 : W2.cell? ⟨qd, 0, none⟩ = some (.map (some bm)) := by
     have h1 : wr.cell? ⟨qd, 0, none⟩ = some (.map (some bm)) := by
      have h2 := HQ.out;unfold World.cell? at h2 |-;rw [hqw]; exact h2
     exact (hba.cell (p := ⟨qd, 0, none⟩) hqlw).trans h1
    have hcf := mapF_any W2 x qd bm q f hM2 hq2 (Nat.lt_of_lt_of_le hqlw hba.size) HXP.out;rw [<- hr] at hcf HPX;unfold verV at hcf;simp only [Sl.val] at hcf
    have HO2 := Bx.mk (hO.out.below hba);have HG2 := Bx.mk (grown_bel hG.out hba);have HGB := Bx.mk (show g < wr.heap.size from (hO.out.lt g rfl).2);have HQ7 := Bx.mk hq7;clear hx hr hqw hM2 hqlw hq2 hO hG hba hat hjd hjl;go_upto_region 8 with fail
    rw [<- hW2, <- hq7];clear hW2 hq7 c0 c1 c2;have hr2 := HR2.out;have m0 := cell_of_row _ _ 0 _ _ _ hr2;have m1 := cell_of_row _ _ 1 _ _ _ hr2;have m2 := cell_of_row _ _ 2 _ _ _ hr2;simp only [List.getElem?_toArray, List.getElem?_cons_zero, List.getElem?_cons_succ] at m0 m1 m2
    clear hr2;go_wp2_with fail
    go_at_call 62;refine hcf.mono ?_;rintro e w3 ⟨rfl, hb3⟩;clear hcf m0 m1 m2;have HO3 := Bx.mk (HO2.out.below hb3);have HG3 := Bx.mk (grown_bel HG2.out hb3);have HR3 := Bx.mk ((hb3.block q7 (lt_of_some HR2.out)).trans HR2.out);clear hb3
    cases r with
    | true =>
     have he := HNO.out (by rw [HPX.out]; rfl);have HI2 := Bx.mk (show i = ((l.take (j + 1)).filter p).length by rw [he]; exact hI.out)
     have HO4 := Bx.mk (show Slc.Own w3 Bk 65 3 encV (.slice (some ⟨g, 0, none⟩) N c) (delJ p l (j + 1)) by
      have : delJ p l (j + 1) = delJ p l j := by unfold delJ; rw [he]
      rw [this]; exact HO3.out)
     clear he;go_wp2_with fail
     go_roundw
     case rel => exact ⟨i, j + 1, by omega, by omega, rfl, by go_num, HI2, HO4, HG3⟩
     case measure => simp [intOf]; omega
    | false =>
     obtain ⟨he, hset⟩ := HYES.out (by rw [HPX.out]; rfl);have HI2 := Bx.mk (show i + 1 = ((l.take (j + 1)).filter p).length by rw [he, List.length_append, <- hI.out]; rfl);rw [<- hI.out] at hset;have HSET := Bx.mk hset;have hid : i < (delJ p l j).length := (by rw [delJ_len p l j (by rw [<- HN.out]; omega), <- HN.out]; omega);obtain ⟨y0, hy0⟩ : ∃ y, y = (delJ p l j)[i]'hid := ⟨_, rfl⟩
     have d0 := HO3.out.cell encV_ok i hid 0 (by omega) (.string (bstr y0.n.pol)) (by rw [hy0]; rfl);have d1 := HO3.out.cell encV_ok i hid 1 (by omega) y0.u.val (by rw [hy0]; rfl);have d2 := HO3.out.cell encV_ok i hid 2 (by omega) y0.q.val (by rw [hy0]; rfl);rw [Nat.add_zero] at d0;obtain ⟨g1, cap1, hv1, hB1, hlt1, hfr1, ho1, hg1⟩ := HO3.out.set1 encV_ok i 0 hid (by omega) (.string (bstr x.n.pol)) ⟨⟨x.n.pol, y0.n.ex, y0.n.par⟩, y0.u, y0.q⟩ (by rw [<- hy0]; rfl);simp only [Value.slice.injEq, zO, Addr.mk.injEq, and_true] at hv1
     obtain ⟨rfl, -, rfl⟩ := hv1;obtain ⟨g2, cap2, hv2, hB2, hlt2, hfr2, ho2, hg2⟩ := ho1.set1 encV_ok i 1 (by simpa using hid) (by omega) (.slice x.u.ad x.u.n x.u.c) ⟨⟨x.n.pol, x.n.ex, y0.n.par⟩, x.u, y0.q⟩ (by simp; rfl);simp only [Value.slice.injEq, zO, Addr.mk.injEq, and_true] at hv2
     obtain ⟨rfl, -, -⟩ := hv2;obtain ⟨g3, cap3, hv3, hB3, hlt3, hfr3, ho3, hg3⟩ := ho2.set1 encV_ok i 2 (by simpa using hid) (by omega) (.slice x.q.ad x.q.n x.q.c) x (by simp; rfl);simp only [Value.slice.injEq, zO, Addr.mk.injEq, and_true] at hv3
     obtain ⟨rfl, -, -⟩ := hv3;rw [List.set_set, List.set_set, hset] at ho3;rw [Nat.add_zero] at ho1 ho2 ho3 hg1 hg2 hg3;have HO5 := Bx.mk ho3;have HG5 := Bx.mk (grown_same (grown_same (grown_same HG3.out hg1) hg2) hg3);have hr3 := HR3.out;have m0 := cell_of_row _ _ 0 _ _ _ hr3;have m1 := cell_of_row _ _ 1 _ _ _ hr3;have m2 := cell_of_row _ _ 2 _ _ _ hr3;simp only [List.getElem?_toArray, List.getElem?_cons_zero, List.getElem?_cons_succ] at m0 m1 m2
     clear ho1 ho2 ho3 hg1 hg2 hg3 hr3 hset he hid hy0 hB1 hB2 hB3 hlt2 hlt3 hfr2 hfr3;go_wp2_with fail
     go_roundw
     case rel => exact ⟨i + 1, j + 1, by omega, by omega, by go_num, by go_num, HI2, HO5, HG5⟩
     case measure => simp [intOf]; omega
   ·obtain rfl : j = N := by omega
    obtain ⟨z, hz⟩ : ∃ z : Value, z = .agg #[.string ⟨#[]⟩, .slice none 0 0, .slice none 0 0] := ⟨_, rfl⟩
    obtain ⟨L, hL⟩ : ∃ L, L = (Builtin.zeroCells z.cells (j - i)).toList := ⟨_, rfl⟩
    have hLl : L.length = (j - i) * 3 := by rw [hL, hz]; simp [Builtin.zeroCells, Value.cells]
    have hLo : ∀ u ∈ L, u.oneCell' = true := by
     intro u hu;rw [hL, hz] at hu;unfold Builtin.zeroCells at hu;rw [Array.toList_map, List.mem_map] at hu;obtain ⟨a, -, rfl⟩ := hu;rcases (show a % 3 = 0 \/ a % 3 = 1 \/ a % 3 = 2 by omega) with e | e | e
     ·show ((#[.string ⟨#[]⟩, .slice none 0 0, .slice none 0 0] : Array Value)[a % 3]!).oneCell' = true
      rw [e]; rfl
     ·show ((#[.string ⟨#[]⟩, .slice none 0 0, .slice none 0 0] : Array Value)[a % 3]!).oneCell' = true
      rw [e]; rfl
     ·show ((#[.string ⟨#[]⟩, .slice none 0 0, .slice none 0 0] : Array Value)[a % 3]!).oneCell' = true
      rw [e]; rfl
    have hdl := delJ_len p l j (by rw [<- HN.out]; exact zR _)
    have hrow : ∃ cur, wr.heap[g]? = some (.cells cur 65 (0, 0)) /\ cur.size = c * 3 := by
     rcases hO.out.2 with ⟨h0, -⟩ | ⟨g', cap', cur', hv, -, hb, -, -, hcs, -⟩
     ·simp at h0
     ·simp only [Value.slice.injEq, zO, Addr.mk.injEq] at hv
      obtain ⟨⟨rfl, -⟩, -, rfl⟩ := hv;exact ⟨cur', hb, hcs⟩
    obtain ⟨cw, hrw, hrs⟩ := hrow;have hcl := fun ty => run_clear_rows (P := Tryz.prog) wr 61 65 ty z und_vers (by rw [hz]; exact Tryz.zeroValue65) L (j - i) hL.symm hLo g (i * 3) (c - i) (by omega) (fun r hr => by rw [cell_of_row _ _ _ _ _ _ hrw, Array.getElem?_eq_getElem (show i * 3 + r < cw.size by rw [hrs]; rw [hLl] at hr; have := HLC.out; omega)]; rfl) (fun r hr => frozen_row hrw)
    have hown := Own.head encV_ok hO.out i (by rw [hdl, <- HN.out]; omega) L;have hgr := setCells_grown g (i * 3) L wr
    have HFO := Bx.mk (show Slc.Own (wr.setCells g (i * 3) L) Bk 65 3 encV (.slice (some ⟨g, 0, none⟩) i c) (l.filter p) by
     have h1 := delJ_all p l;rw [<- HN.out, <- hI.out] at h1
     rw [<- h1]; exact hown)
    have HFG := Bx.mk (grown_same hG.out hgr);clear hown hgr hrw hrs hLo hLl hdl hL hz z;go_wp2_with fail
    go_ret;exact ⟨_, rfl, rfl, HFO.out, HFG.out⟩
theorem setCells_row' (g : Nat) : ∀ (vs : List Value) (o : Nat) (w : World) (cur : Array Value) (t : TypeId) (fr : Nat × Nat), w.heap[g]? = some (.cells cur t fr) -> o + vs.length <= cur.size ->
  ∃ cur', (w.setCells g o vs).heap[g]? = some (.cells cur' t fr) /\ cur'.size = cur.size /\ (∀ j, j < o -> cur'[j]? = cur[j]?) /\ ∀ j, j < vs.length -> cur'[o + j]? = vs[j]?
 | [], o, w, cur, t, fr, h, _ => ⟨cur, h, rfl, fun _ _ => rfl, fun j hj => by simp at hj⟩
 | v :: r, o, w, cur, t, fr, h, hs => by
  rw [List.length_cons] at hs;obtain ⟨cur', h1, h2, h3, h4⟩ := setCells_row' g r (o + 1) (w.setCell ⟨g, o, none⟩ v) (cur.setIfInBounds o v) t fr (row_set h v) (by simp; omega);refine ⟨cur', h1, by rw [h2]; simp, fun j hj => ?_, fun j hj => ?_⟩
  ·rw [h3 j (by omega), Array.getElem?_setIfInBounds];rw [if_neg (by omega)]
  ·cases j with
   | zero =>
    rw [Nat.add_zero, h3 o (by omega), Array.getElem?_setIfInBounds, if_pos rfl, if_pos (by omega)]; rfl
   | succ j =>
    rw [List.length_cons] at hj;have := h4 j (by omega);rw [show o + (j + 1) = o + 1 + j by omega, this]; rfl
theorem Own.onto {α : Type} {w : World} {B g n c : Nat} {t : TypeId} {z : Nat} {enc : α -> List Value} {l : List α} (E : Enc z enc) (h : Slc.Own w B t z enc (.slice (some ⟨g, 0, none⟩) n c) l) (i : Nat) (hi : i <= l.length) (m : List α) (hm : i + m.length <= c) :
  Slc.Own (w.setCells g (i * z) (m.flatMap enc)) B t z enc (.slice (some ⟨g, 0, none⟩) (i + m.length) c) (l.take i ++ m) := by
 rcases h.2 with ⟨h0, hn⟩ | ⟨g', cap', cur, hv, hB, hb, hc, hmx, hcs, ht⟩
 ·simp at h0
 simp only [Value.slice.injEq, zO, Addr.mk.injEq] at hv
 obtain ⟨⟨rfl, -⟩, hnl, rfl⟩ := hv;have hml : (m.flatMap enc).length = m.length * z := flat_len E m;have hle : (i + m.length) * z <= c * z := Nat.mul_le_mul_right z hm;rw [Nat.add_mul] at hle;obtain ⟨cur', h1, h2, h3, h4⟩ := setCells_row' g (m.flatMap enc) (i * z) w cur t (0, 0) hb (by rw [hml, hcs]; exact hle);have hkl : (l.take i ++ m).length = i + m.length := by rw [List.length_append, List.length_take]; omega
 refine ⟨flat_len E _, .inr ⟨g, c, cur', by rw [hkl], hB, h1, by rw [hkl]; omega, hmx, by rw [h2]; exact hcs, ?_⟩⟩;have e2 : ((l.take i).flatMap enc).length = i * z := by rw [flat_len E, List.length_take, Nat.min_eq_left hi]
 have e1 : l.flatMap enc = (l.take i).flatMap enc ++ (l.drop i).flatMap enc := by rw [<- List.flatMap_append, List.take_append_drop]
 have hiz : i * z <= l.length * z := Nat.mul_le_mul_right z hi;rw [hkl, List.flatMap_append, Nat.add_mul];apply List.ext_getElem?
 intro j;rw [List.getElem?_take];by_cases hj : j < i * z
 ·rw [if_pos (by omega), List.getElem?_append_left (by omega)];have q1 := h3 j hj;have q2 : (l.flatMap enc)[j]? = ((l.take i).flatMap enc)[j]? := by rw [e1, List.getElem?_append_left (by omega)]
  rw [<- q2, <- ht, List.getElem?_take, if_pos (by omega)];simpa using q1
 ·rw [List.getElem?_append_right (by omega), e2];by_cases hj2 : j < i * z + m.length * z
  ·rw [if_pos hj2];have := h4 (j - i * z) (by omega);rw [show i * z + (j - i * z) = j by omega] at this;simpa using this
  ·rw [if_neg hj2, List.getElem?_eq_none (by omega)]
theorem zeroRows_cells (n : Nat) : ∀ u ∈ (Builtin.zeroCells (Value.agg #[.string ⟨#[]⟩, .slice none 0 0, .slice none 0 0]).cells n).toList, u.oneCell' = true := by
 intro u hu;unfold Builtin.zeroCells at hu;rw [Array.toList_map, List.mem_map] at hu;obtain ⟨a, -, rfl⟩ := hu;rcases (show a % 3 = 0 \/ a % 3 = 1 \/ a % 3 = 2 by omega) with e | e | e
 ·show ((#[.string ⟨#[]⟩, .slice none 0 0, .slice none 0 0] : Array Value)[a % 3]!).oneCell' = true
  rw [e]; rfl
 ·show ((#[.string ⟨#[]⟩, .slice none 0 0, .slice none 0 0] : Array Value)[a % 3]!).oneCell' = true
  rw [e]; rfl
 ·show ((#[.string ⟨#[]⟩, .slice none 0 0, .slice none 0 0] : Array Value)[a % 3]!).oneCell' = true
  rw [e]; rfl
theorem gdelete_any (w : World) (Bk : Nat) (v : Value) (l : List Vt) (h : Slc.Own w Bk 65 3 encV v l) (hn : l.length <= 100000) (i j : Nat) (hij : i < j) (hji : j <= i + 1) (hj : j <= l.length) :
  Calls Tryz.prog 70 #[v, .int .i64 i, .int .i64 j] w fun e w' => ∃ v', e = .returned v' /\ v'.ownBlock = v.ownBlock /\ Slc.Own w' Bk 65 3 encV v' (l.take i ++ l.drop j) /\ w.grownBy w' v.ownBlock := by
 have mixed : Tryz.prog.follows .mixedOrders = true := by kernel_rfl
 obtain ⟨iv, hiv, hiv0, hiv1, hiv2⟩ := info_parts info_ver;rcases h.2 with ⟨h0, hn0⟩ | ⟨g, c, cur, rfl, hB, hb, hlc, hmx, hcs, ht⟩
 ·exact absurd hn0 (by omega)
 obtain ⟨N, hN⟩ : ∃ N, N = l.length := ⟨_, rfl⟩
 have HN := Bx.mk hN;have hD := h.drew;obtain ⟨news, hnews⟩ : ∃ news, news = (l.drop j).flatMap encV := ⟨_, rfl⟩
 have hnl : news.length = (N - j) * 3 := by rw [hnews, flat_len encV_ok, List.length_drop, <- hN]
 have hrow : w.drew.heap[g]? = some (.cells cur 65 (0, 0)) := hb;have s1 := Bx.mk hnl;have hjc : j <= c := by omega
 have hic : i <= c := by omega
 obtain ⟨ad, had⟩ : ∃ ad : Addr, ad = if c = j then ⟨g, 0, none⟩ else ⟨g, j * 3, none⟩ := ⟨_, rfl⟩
 have HAD := Bx.mk (show (if c = j then some (⟨g, 0, none⟩ : Addr) else some ⟨g, j * 3, none⟩) = some ad by rw [had]; split <;> rfl)
 have hsrc := Bx.mk (show ∀ r u, news[r]? = some u -> w.drew.cell? (ad.add r) = some u from fun r u hr => by
  rw [had];by_cases hcj : c = j
  ·exfalso
   have h0 : news.length = 0 := by rw [hnl]; omega
   rw [List.eq_nil_of_length_eq_zero h0] at hr;simp at hr
  rw [if_neg hcj];have e1 : l.flatMap encV = (l.take j).flatMap encV ++ (l.drop j).flatMap encV := by rw [<- List.flatMap_append, List.take_append_drop]
  have e2 : ((l.take j).flatMap encV).length = j * 3 := by rw [flat_len encV_ok, List.length_take, Nat.min_eq_left hj]
  have h2 : (l.flatMap encV)[j * 3 + r]? = some u := by
   rw [e1, List.getElem?_append_right (by omega), e2, Nat.add_sub_cancel_left, <- hnews]; exact hr
  have h3 := World.ownsRow.cells hD (g := g) rfl (j * 3 + r) u h2;rw [add_at] at h3 |-;rw [Nat.zero_add] at h3
  exact h3)
 have s2 := Bx.mk (show ∀ u ∈ news, u.oneCell' = true from fun u hu => by
  rw [hnews] at hu;obtain ⟨x, -, hx⟩ := List.mem_flatMap.1 hu
  exact encV_ok.one x u hx)
 have s3 := Bx.mk (show ∀ r, r < news.length -> (w.drew.cell? ⟨g, 0 + i * 3 + r, none⟩).isSome = true /\ w.drew.frozen? ⟨g, 0 + i * 3 + r, none⟩ = false from fun r hr => by
  refine ⟨?_, frozen_row hrow⟩
  rw [cell_of_row _ _ _ _ _ _ hrow, Array.getElem?_eq_getElem (show 0 + i * 3 + r < cur.size by rw [hcs]; rw [hnl] at hr; omega)]; rfl)
 obtain ⟨W1, hW1⟩ : ∃ W1, W1 = w.drew.setCells g (0 + i * 3) news := ⟨_, rfl⟩
 have hown : Slc.Own W1 Bk 65 3 encV (.slice (some ⟨g, 0, none⟩) (i + (l.drop j).length) c) (l.take i ++ l.drop j) := by
  rw [hW1, hnews, Nat.zero_add];exact Own.onto encV_ok hD i (by omega) (l.drop j) (by rw [List.length_drop]; omega)
 have hW := Bx.mk hW1
 have hg1 : w.grownBy W1 (some g) := by
  have h1 := setCells_grown g (0 + i * 3) news w.drew;rw [<- hW1] at h1;have h0 : w.grownBy w.drew (some g) := ⟨rfl, rfl, rfl, zR _, fun _ _ _ => rfl⟩;exact grown_same h0 h1
 have hdl : (l.drop j).length = N - j := by rw [List.length_drop, hN]
 rw [hdl] at hown;obtain ⟨K, hK⟩ : ∃ K, K = i + (N - j) := ⟨_, rfl⟩
 have hKN : K < N := by omega
 have hNK : N <= K + 1 := by omega
 have hlK : (l.take i ++ l.drop j).length = K := by rw [List.length_append, hdl, List.length_take]; omega
 rw [<- hK] at hown
 have hrow1 : ∃ cur, W1.heap[g]? = some (.cells cur 65 (0, 0)) /\ cur.size = c * 3 := by
  rcases hown.2 with ⟨h0, -⟩ | ⟨g', cap', cur', hv, -, hb, -, -, hcs, -⟩
  ·simp at h0
  ·simp only [Value.slice.injEq, zO, Addr.mk.injEq] at hv
   obtain ⟨⟨rfl, -⟩, -, rfl⟩ := hv;exact ⟨cur', hb, hcs⟩
 obtain ⟨cw, hrw, hrs⟩ := hrow1;obtain ⟨L, hL⟩ : ∃ L, L = (Builtin.zeroCells (Value.agg #[.string ⟨#[]⟩, .slice none 0 0, .slice none 0 0]).cells (N - K)).toList := ⟨_, rfl⟩
 have hLl : L.length = (N - K) * 3 := by rw [hL]; simp [Builtin.zeroCells, Value.cells]
 have hcl := fun ty => run_clear_rows (P := Tryz.prog) W1 61 65 ty _ und_vers Tryz.zeroValue65 L (N - K) hL.symm (by rw [hL]; exact zeroRows_cells _) g (K * 3) (c - K) (by omega) (fun r hr => by rw [cell_of_row _ _ _ _ _ _ hrw, Array.getElem?_eq_getElem (show K * 3 + r < cw.size by rw [hrs]; rw [hLl] at hr; omega)]; rfl) (fun r hr => frozen_row hrw)
 have HFO := Bx.mk (show Slc.Own (W1.setCells g (K * 3) L) Bk 65 3 encV (.slice (some ⟨g, 0, none⟩) K c) (l.take i ++ l.drop j) by
  have h1 := Own.head encV_ok hown K (by rw [hlK]; exact zR _) L;rw [List.take_of_length_le (by rw [hlK]; exact zR _)] at h1
  exact h1)
 have HFG := Bx.mk (grown_same hg1 (setCells_grown g (K * 3) L W1));have HK := Bx.mk hK;have hcK : c ≠ K := by omega
 rw [<- hN] at hn hj hlc |-;clear h hb ht hN hD hnews hnl hrow hW1 had hg1 hdl hlK hown hrw hrs hL hLl hK;go_enter Tryz.func70, Tryz.ntmps70;go_wp2_with fail
 go_region_law_o (refine step_append_room rfl (.tmp 22) (.tmp 25) 61 rfl 65 iv 3 und_vers hiv hiv1 g 0 i c (by simp [Act.eval, Act.put]) ad (N - j) (c - j) news (by simp [Act.eval, Act.put]; exact HAD.out) s1.out hsrc.out s2.out (by omega) s3.out ?_; rw [<- hW.out, <- HK.out])
 go_wp2_with fail
 all_goals first
  | (have hcj : c = j := (by assumption); subst hcj; go_ret; exact ⟨_, rfl, rfl, HFO.out, HFG.out⟩)
  | (go_ret; exact ⟨_, rfl, rfl, HFO.out, HFG.out⟩)
theorem run_copy_rows {P : Program} (w : World) (dT sT ty elem : TypeId) (z : Nat) (b o dLen dCap : Nat) (a : Addr) (sLen sCap k : Nat) (cs : List Value)
  (hu : P.underlying dT = some (.slice elem)) (hs : (P.info? elem).map (·.size) = some z) (hk : Nat.min sLen dLen = k) (hn : cs.length = z * k)
  (hsrc : ∀ j v, cs[j]? = some v -> w.cell? (a.add j) = some v) (hc : ∀ j, j < cs.length -> (w.cell? ⟨b, o + j, none⟩).isSome = true) (hf : ∀ j, j < cs.length -> w.frozen? ⟨b, o + j, none⟩ = false) (h1 : ∀ v ∈ cs, v.oneCell' = true) :
  (Builtin.copy_ #[dT, sT] ty #[.slice (some ⟨b, o, none⟩) dLen dCap, .slice (some a) sLen sCap]).run P w = .ok (goInt k) (w.setCells b o cs) := by
 have hl := run_loadCells_list (P := P) w a cs hsrc;have hst := run_storeCells_cells (P := P) b o cs 0 w (by simpa using hc) (by simpa using hf) h1;rw [hn] at hl
 cases hq : P.info? elem with
 | none => simp [hq] at hs
 | some i =>
  have hi : i.size = z := by simpa [hq] using hs
  subst hi;have hl' : (loadCells a (k * i.size)).run P w = .ok cs.toArray w := by rw [Nat.mul_comm]; exact hl
  simp [Builtin.copy_, run_underlying hu, Builtin.lenOf, Builtin.firstCells, sizeOf, typeInfo, hq, hk, hl, hl', hst]
theorem step_copy_eq {P : Program} {ops : Array Oper} {o : Oper} {a : Act} {w : World} {K : Act -> World -> Prop} {Q : Exit -> Act -> World -> Prop} {E : Prop}
  (hg : o.guard = none) (d x : Operand) (dT sT : TypeId) (hop : o.op = Op.call { callee := Callee.builtin Builtin.copy, args := #[d, x], argTypes := #[dT, sT] })
  (v u : Value) (hd : a.eval d = v) (hx : a.eval x = u) {v' : Value} {w' : World} (hr : (Builtin.copy_ #[dT, sT] o.type #[v, u]).run P w = .ok v' w') (hK : K (a.put o.dst v') w') :
  if Region.wanted o (yielded ops a.tmps) = true then Oper.wp P o a w K Q else E := by
 have hw : Region.wanted o (yielded ops a.tmps) = true := by simp [Region.wanted, hg]
 rw [if_pos hw];unfold Oper.wp;simp [execOp, hop, resolve, invoke, builtin, hd, hx, hr, Result.andThen]
 exact hK
theorem Own.put3 {w : World} {B g n c : Nat} {t : TypeId} {l : List Vt} (h : Slc.Own w B t 3 encV (.slice (some ⟨g, 0, none⟩) n c) l) (i : Nat) (hi : i < l.length) (y : Vt) :
  Slc.Own (w.setCells g (i * 3) (encV y)) B t 3 encV (.slice (some ⟨g, 0, none⟩) n c) (l.set i y) := by
 obtain ⟨y0, hy0⟩ : ∃ y, y = l[i]'hi := ⟨_, rfl⟩
 obtain ⟨g1, cap1, hv1, -, -, -, ho1, -⟩ := h.set1 encV_ok i 0 hi (by omega) (.string (bstr y.n.pol)) ⟨⟨y.n.pol, y0.n.ex, y0.n.par⟩, y0.u, y0.q⟩ (by rw [<- hy0]; rfl);simp only [Value.slice.injEq, zO, Addr.mk.injEq, and_true] at hv1
 obtain ⟨rfl, -, -⟩ := hv1;obtain ⟨g2, cap2, hv2, -, -, -, ho2, -⟩ := ho1.set1 encV_ok i 1 (by simpa using hi) (by omega) y.u.val ⟨⟨y.n.pol, y.n.ex, y0.n.par⟩, y.u, y0.q⟩ (by simp; rfl);simp only [Value.slice.injEq, zO, Addr.mk.injEq, and_true] at hv2
 obtain ⟨rfl, -, -⟩ := hv2;obtain ⟨g3, cap3, hv3, -, -, -, ho3, -⟩ := ho2.set1 encV_ok i 2 (by simpa using hi) (by omega) y.q.val y (by simp; rfl);simp only [Value.slice.injEq, zO, Addr.mk.injEq, and_true] at hv3
 obtain ⟨rfl, -, -⟩ := hv3;rw [List.set_set, List.set_set] at ho3;exact ho3
theorem take_put {α : Type} (l : List α) (i : Nat) (hi : i < l.length) (y : α) : (l.take (i + 1) ++ l.drop i).set i y = l.take i ++ y :: l.drop i := by
 rw [List.set_append_left _ _ (by simp; omega), zA hi, List.set_append_right _ _ (by rw [List.length_take]; omega)];simp [Nat.min_eq_left (Nat.le_of_lt hi)]
theorem own_row {α : Type} {w : World} {B g n c z : Nat} {t : TypeId} {enc : α -> List Value} {l : List α} (h : Slc.Own w B t z enc (.slice (some ⟨g, 0, none⟩) n c) l) : ∃ cur, w.heap[g]? = some (.cells cur t (0, 0)) /\ cur.size = c * z /\ n = l.length /\ n <= c /\ c <= maxLen /\ B <= g := by
 rcases h.2 with ⟨h0, -⟩ | ⟨g', cap', cur', hv, hB, hb, hc, hm, hcs, -⟩
 ·simp at h0
 ·simp only [Value.slice.injEq, zO, Addr.mk.injEq] at hv
  obtain ⟨⟨rfl, -⟩, rfl, rfl⟩ := hv;exact ⟨cur', hb, hcs, rfl, hc, hm, hB⟩
theorem gins_end (w : World) (Bk : Nat) (v : Value) (l : List Vt) (h : Slc.Own w Bk 65 3 encV v l) (hn : l.length <= 100000) (y : Vt) (vb : Nat) (hy : w.heap[vb]? = some (.cells (encV y).toArray 65 (0, 0))) (hBk : Bk <= w.heap.size) :
  Calls Tryz.prog 106 #[v, .int .i64 (l.length : Nat), .slice (some ⟨vb, 0, none⟩) 1 1] w fun e w' => ∃ v', e = .returned v' /\ (∀ k, v'.ownBlock = some k -> v.ownBlock = some k \/ w.heap.size <= k) /\ Slc.Own w' Bk 65 3 encV v' (l ++ [y]) /\ w.grownBy w' v.ownBlock := by
 obtain ⟨iv, hiv, hiv0, hiv1, hiv2⟩ := info_parts info_ver;obtain ⟨ad, c, rfl, hlc⟩ := h.rd.form;have HSRC := Bx.mk (src_new encV_ok hy);have HOWN := Bx.mk h;obtain ⟨N, hN⟩ : ∃ N, N = l.length := ⟨_, rfl⟩
 have HN := Bx.mk hN;have hm1 : l.length + 1 <= maxLen := by unfold maxLen; omega
 have hm2 : (l.length + 1) * 64 <= 140737488355328 := by omega
 have HA := Bx.mk (show ∀ (i : Nat), c = i -> True from fun _ _ => trivial);clear h;rw [<- hN] at hm1 hm2 hlc |-
 have HOWR := Bx.mk (show World.ownsRow w Bk 65 3 (.slice ad N c) N (l.flatMap encV) by
  have := HOWN.out; unfold Slc.Own at this; rwa [<- hN] at this)
 have HC := Bx.mk hlc;by_cases hc : c = N
 ·subst hc;clear hN hy;go_enter Tryz.func106, Tryz.ntmps106;go_wp2_with (at_builtin; refine wpList_append_any rfl _ _ _ rfl Bk 65 iv _ 3 64 und_vers hiv hiv0 hiv1 hiv2 rfl (by decide) _ c (l.flatMap encV) rfl HOWR.out _ 1 ([y].flatMap encV) rfl HSRC.out hm1 hm2 hBk ?_)
  intro v9 w9 hapd
  have HO9 := Bx.mk (show Slc.Own w9 Bk 65 3 encV v9 (l ++ [y]) from by
   have h1 := HOWN.out;rw [<- HN.out] at h1
   exact Slc.Own.apd (m := [y]) h1 rfl rfl HN.out rfl hapd)
  have HG9 := Bx.mk hapd.grown
  have HB9 := Bx.mk (show ∀ k, v9.ownBlock = some k -> (Value.slice ad c c).ownBlock = some k \/ w.heap.size <= k from fun k hk => by
   rcases hapd.blk with q | q
   ·exact .inl (q ▸ hk)
   ·rw [q] at hk; simp only [zO] at hk; exact .inr (by omega))
  clear hapd;go_wp2_with fail
  go_ret;exact ⟨v9, rfl, HB9.out, HO9.out, HG9.out⟩
 ·clear hN hy;go_enter Tryz.func106, Tryz.ntmps106;go_wp2_with (at_builtin; refine wpList_append_any rfl _ _ _ rfl Bk 65 iv _ 3 64 und_vers hiv hiv0 hiv1 hiv2 rfl (by decide) _ N (l.flatMap encV) rfl HOWR.out _ 1 ([y].flatMap encV) rfl HSRC.out hm1 hm2 hBk ?_)
  intro v9 w9 hapd
  have HO9 := Bx.mk (show Slc.Own w9 Bk 65 3 encV v9 (l ++ [y]) from by
   have h1 := HOWN.out;rw [<- HN.out] at h1
   exact Slc.Own.apd (m := [y]) h1 rfl rfl HN.out rfl hapd)
  have HG9 := Bx.mk hapd.grown
  have HB9 := Bx.mk (show ∀ k, v9.ownBlock = some k -> (Value.slice ad N c).ownBlock = some k \/ w.heap.size <= k from fun k hk => by
   rcases hapd.blk with q | q
   ·exact .inl (q ▸ hk)
   ·rw [q] at hk; simp only [zO] at hk; exact .inr (by omega))
  clear hapd;go_wp2_with fail
  go_ret;exact ⟨v9, rfl, HB9.out, HO9.out, HG9.out⟩
theorem ovl_any (w : World) (g vb o : Nat) (curG curV : Array Value) (hg : w.heap[g]? = some (.cells curG 65 (0, 0))) (hv : w.heap[vb]? = some (.cells curV 65 (0, 0))) (hne : vb ≠ g) (hs : curG.size ≠ 0) (lb cb : Nat) :
  (callFunc 124 #[.slice (some ⟨vb, 0, none⟩) 1 1, .slice (some ⟨g, o, none⟩) lb cb]).run Tryz.prog w = .ok (.value (.bool false)) w := by
 obtain ⟨iv, hiv, hiv0, hiv1, hiv2⟩ := info_parts info_ver;have hz : ∀ w, (Go.sizeOf 65).run Tryz.prog w = .ok 3 w := fun w => by simp [Go.sizeOf, typeInfo, hiv, hiv1]
 rw [run_callFunc_extern Tryz.func124 (by kernel_rfl) (by kernel_rfl) (by kernel_rfl) (e := Extern.SlicesOverlaps.overlaps #[61, 61] #[4]) (by kernel_rfl),
  Lib.run_overlaps_apart w 61 4 65 und_vers 3 hz ⟨vb, 0, none⟩ ⟨g, o, none⟩ 1 1 lb cb hne 65 65 curV.size curG.size (by simp [World.shape?, hv]) (by simp [World.shape?, hg]) hs (frozen_row hv) (frozen_row hv)]
 rfl
theorem gins_shift (w : World) (Bk g c : Nat) (l : List Vt) (h : Slc.Own w Bk 65 3 encV (.slice (some ⟨g, 0, none⟩) l.length c) l) (hn : l.length <= 100000) (i : Nat) (hi : i < l.length) (hroom : l.length + 1 <= c) (y : Vt) (vb : Nat) (hy : w.heap[vb]? = some (.cells (encV y).toArray 65 (0, 0))) (hvb : vb ≠ g) :
  Calls Tryz.prog 106 #[.slice (some ⟨g, 0, none⟩) l.length c, .int .i64 i, .slice (some ⟨vb, 0, none⟩) 1 1] w fun e w' => e = .returned (.slice (some ⟨g, 0, none⟩) (l.length + 1) c) /\ Slc.Own w' Bk 65 3 encV (.slice (some ⟨g, 0, none⟩) (l.length + 1) c) (l.take i ++ y :: l.drop i) /\ w.grownBy w' (some g) := by
 have mixed : Tryz.prog.follows .mixedOrders = true := by kernel_rfl
 obtain ⟨iv, hiv, hiv0, hiv1, hiv2⟩ := info_parts info_ver;have hsz : (Tryz.prog.info? 65).map (·.size) = some 3 := by rw [hiv]; simp [hiv1]
 obtain ⟨cur, hrow, hcs, -, -, hmx, hB⟩ := own_row h;obtain ⟨N, hN⟩ : ∃ N, N = l.length := ⟨_, rfl⟩
 have hD := h.drew;have hrowD : w.drew.heap[g]? = some (.cells cur 65 (0, 0)) := hrow;obtain ⟨news, hnews⟩ : ∃ news, news = (l.drop i).flatMap encV := ⟨_, rfl⟩
 have hnl : news.length = 3 * (N - i) := by rw [hnews, flat_len encV_ok, List.length_drop, <- hN, Nat.mul_comm]
 have hsrc : ∀ r u, news[r]? = some u -> w.drew.cell? ((⟨g, i * 3, none⟩ : Addr).add r) = some u := fun r u hr => by
  have e1 : l.flatMap encV = (l.take i).flatMap encV ++ (l.drop i).flatMap encV := by rw [<- List.flatMap_append, List.take_append_drop]
  have e2 : ((l.take i).flatMap encV).length = i * 3 := by rw [flat_len encV_ok, List.length_take, Nat.min_eq_left (Nat.le_of_lt hi)]
  have h2 : (l.flatMap encV)[i * 3 + r]? = some u := by
   rw [e1, List.getElem?_append_right (by omega), e2, Nat.add_sub_cancel_left, <- hnews]; exact hr
  have h3 := World.ownsRow.cells hD (g := g) rfl (i * 3 + r) u h2;rw [add_at] at h3 |-;rw [Nat.zero_add] at h3;exact h3
 have h1s : ∀ u ∈ news, u.oneCell' = true := fun u hu => by
  rw [hnews] at hu;obtain ⟨x, -, hx⟩ := List.mem_flatMap.1 hu;exact encV_ok.one x u hx
 have hcur : ∀ j, j < (N + 1) * 3 -> (w.drew.cell? ⟨g, j, none⟩).isSome = true := fun j hj => by
  have : (N + 1) * 3 <= c * 3 := Nat.mul_le_mul_right 3 (by omega);rw [cell_of_row _ _ _ _ _ _ hrowD, Array.getElem?_eq_getElem (show j < cur.size by omega)]; rfl
 have hcp1 : ∀ ty dc sc, (Builtin.copy_ #[61, 61] ty #[.slice (some ⟨g, (i + 1) * 3, none⟩) (N - i) dc, .slice (some ⟨g, i * 3, none⟩) (N + 1 - i) sc]).run Tryz.prog w.drew = .ok (goInt (N - i : Nat)) (w.drew.setCells g ((i + 1) * 3) news) := fun ty dc sc =>
  run_copy_rows w.drew _ _ ty 65 3 g ((i + 1) * 3) (N - i) dc ⟨g, i * 3, none⟩ (N + 1 - i) sc (N - i) news und_vers hsz (by simp only [Nat.min_def]; split <;> omega) hnl hsrc (fun j hj => hcur _ (by omega)) (fun j hj => frozen_row hrowD) h1s
 have ho1 : Slc.Own (w.drew.setCells g ((i + 1) * 3) news) Bk 65 3 encV (.slice (some ⟨g, 0, none⟩) (i + 1 + (l.drop i).length) c) (l.take (i + 1) ++ l.drop i) := by
  rw [hnews];exact Own.onto encV_ok hD (i + 1) (by omega) (l.drop i) (by rw [List.length_drop]; omega)
 have hdl : i + 1 + (l.drop i).length = N + 1 := by rw [List.length_drop]; omega
 rw [hdl] at ho1;obtain ⟨W1, hW1⟩ : ∃ W1, W1 = w.drew.setCells g ((i + 1) * 3) news := ⟨_, rfl⟩
 have hg1 : w.grownBy W1 (some g) := by
  have h1 := setCells_grown g ((i + 1) * 3) news w.drew;rw [<- hW1] at h1;have h0 : w.grownBy w.drew (some g) := ⟨rfl, rfl, rfl, zR _, fun _ _ _ => rfl⟩;exact grown_same h0 h1
 rw [<- hW1] at ho1 hcp1;obtain ⟨cur1, hrow1, hcs1, -, -, -, -⟩ := own_row ho1;have hvlt : vb < w.heap.size := lt_of_some hy;have hrv : W1.heap[vb]? = some (.cells (encV y).toArray 65 (0, 0)) := (hg1.block vb hvlt (by simp only [ne_eq, zO]; exact hvb)).trans hy
 have hcp2 : ∀ ty dc, (Builtin.copy_ #[61, 61] ty #[.slice (some ⟨g, i * 3, none⟩) (N + 1 - i) dc, .slice (some ⟨vb, 0, none⟩) 1 1]).run Tryz.prog W1 = .ok (goInt (1 : Nat)) (W1.setCells g (i * 3) (encV y)) := fun ty dc =>
  run_copy_rows W1 _ _ ty 65 3 g (i * 3) (N + 1 - i) dc ⟨vb, 0, none⟩ 1 1 1 (encV y) und_vers hsz (by simp only [Nat.min_def]; split <;> omega) rfl (fun j u hj => by
   rw [add_at, Nat.zero_add, cell_of_row _ _ _ _ _ _ hrv]; simpa using hj) (fun j hj => by
   have hj3 : j < 3 := hj;have : (N + 1) * 3 <= c * 3 := Nat.mul_le_mul_right 3 (by omega)
   rw [cell_of_row _ _ _ _ _ _ hrow1, Array.getElem?_eq_getElem (show i * 3 + j < cur1.size by omega)]; rfl) (fun j hj => frozen_row hrow1) (fun u hu => encV_ok.one y u hu)
 have ho2 := Own.put3 ho1 i (by simp; omega) y;rw [take_put l i hi y] at ho2;have hg2 := grown_same hg1 (setCells_grown g (i * 3) (encV y) W1);have hov := fun lb cb => ovl_any w g vb ((i + 1) * 3) cur (encV y).toArray hrow hy hvb (by rw [hcs]; omega) lb cb
 have HF := Bx.mk ho2;have HG := Bx.mk hg2;have hw1 : IntKind.i64.wrap ((i : Int) + 1) = (i : Int) + 1 := by rw [IntKind.wrap_i64]; unfold maxLen at hmx; omega
 have hw2 : IntKind.i64.wrap ((N : Int) + 1) = (N : Int) + 1 := by rw [IntKind.wrap_i64]; unfold maxLen at hmx; omega
 have hz2 : ¬ ((i : Int) = (N : Int)) := by omega
 have hz3 : ¬ ((N : Int) + 1 > (c : Int)) := by omega
 have hc1 : ¬ (c = i + 1) := by omega
 have hc2 : ¬ (c = i) := by omega
 have htn : ((i : Int) + 1).toNat = i + 1 := by omega
 have htn2 : ((N : Int) + 1).toNat = N + 1 := by omega
 rw [<- hN] at hi hroom hn |-;have hmc : c <= 9223372036854775807 := by unfold maxLen at hmx; exact hmx
 have hC1 := Bx.mk hcp1;have hC2 := Bx.mk hcp2;have hO := Bx.mk hov;have HW1 := Bx.mk hW1;have hin : i <= N := by omega
 have hb1 : (0 : Int) <= (i : Int) + 1 := by omega
 have hb3 : (i : Int) <= (N : Int) := by omega
 have hb4 : (i : Int) + 1 <= (N : Int) + 1 := by omega
 have hb5 : (i : Int) <= (N : Int) + 1 := by omega
 have hb6 : i <= N + 1 := by omega
 clear h hrow hcs hmx hB hD hrowD hnews hnl hsrc h1s hcur hcp1 ho1 hdl hg1 hW1 hrow1 hcs1 hvlt hrv hcp2 ho2 hg2 hov hN hy;go_enter Tryz.func106, Tryz.ntmps106;go_wp2_with (simp only [hO.out])
 go_region_law_o (refine step_copy_eq rfl _ _ 61 61 rfl (.slice (some ⟨g, (i + 1) * 3, none⟩) (N - i) (c - (i + 1))) (.slice (some ⟨g, i * 3, none⟩) (N + 1 - i) (c - i)) (by simp [Act.eval, Act.put]) (by simp [Act.eval, Act.put]) (hC1.out 3 (c - (i + 1)) (c - i)) ?_)
 go_wp2_with (simp only [hC2.out])
 go_ret;exact ⟨rfl, HF.out, HG.out⟩
def zVt : Vt := ⟨⟨[], [], []⟩, ⟨none, 0, 0⟩, ⟨none, 0, 0⟩⟩
theorem zero_vs (n : Nat) : (Builtin.zeroCells (Value.agg #[.string ⟨#[]⟩, .slice none 0 0, .slice none 0 0]).cells n).toList = (List.replicate n zVt).flatMap encV := by
 have hl : ((List.replicate n zVt).flatMap encV).length = n * 3 := by rw [flat_len encV_ok]; simp
 apply List.ext_getElem
 ·rw [hl]; simp [Builtin.zeroCells, Value.cells]
 ·intro j h1 h2;rw [hl] at h2
  have e2 : ((List.replicate n zVt).flatMap encV)[j]? = (encV zVt)[j % 3]? := by
   have := flat_at encV_ok (List.replicate n zVt) (j / 3) (j % 3) (by simp; omega) (by omega);rw [show j / 3 * 3 + j % 3 = j by omega] at this;rw [this]; simp
  have e1 : (Builtin.zeroCells (Value.agg #[.string ⟨#[]⟩, .slice none 0 0, .slice none 0 0]).cells n).toList[j]? = (encV zVt)[j % 3]? := by
   rw [List.getElem?_eq_getElem h1];simp only [Builtin.zeroCells, Array.toList_map, List.getElem_map, Array.getElem_toList, Array.getElem_range]
   show some ((#[.string ⟨#[]⟩, .slice none 0 0, .slice none 0 0] : Array Value)[j % 3]!) = _
   rcases (show j % 3 = 0 \/ j % 3 = 1 \/ j % 3 = 2 by omega) with e | e | e <;> rw [e] <;> rfl
  rw [<- e2, List.getElem?_eq_getElem h1, List.getElem?_eq_getElem (by rw [hl]; exact h2)] at e1;simpa using e1
theorem gins_grow (w : World) (Bk g c : Nat) (l : List Vt) (h : Slc.Own w Bk 65 3 encV (.slice (some ⟨g, 0, none⟩) l.length c) l) (hn : l.length <= 100000) (i : Nat) (hi : i < l.length) (hroom : c < l.length + 1) (y : Vt) (vb : Nat) (hy : w.heap[vb]? = some (.cells (encV y).toArray 65 (0, 0))) (hvb : vb ≠ g) (hBk : Bk <= w.heap.size) :
  Calls Tryz.prog 106 #[.slice (some ⟨g, 0, none⟩) l.length c, .int .i64 i, .slice (some ⟨vb, 0, none⟩) 1 1] w fun e w' => ∃ c', e = .returned (.slice (some ⟨w.heap.size, 0, none⟩) (l.length + 1) c') /\ Slc.Own w' Bk 65 3 encV (.slice (some ⟨w.heap.size, 0, none⟩) (l.length + 1) c') (l.take i ++ y :: l.drop i) /\ Below w.heap.size w w' := by
 have mixed : Tryz.prog.follows .mixedOrders = true := by kernel_rfl
 obtain ⟨iv, hiv, hiv0, hiv1, hiv2⟩ := info_parts info_ver;have hsz : (Tryz.prog.info? 65).map (·.size) = some 3 := by rw [hiv]; simp [hiv1]
 obtain ⟨cur, hrow, hcs, -, hNc, hmx, hB⟩ := own_row h;have hglt : g < w.heap.size := lt_of_some hrow;have hvlt : vb < w.heap.size := lt_of_some hy;obtain ⟨N, hN⟩ : ∃ N, N = l.length := ⟨_, rfl⟩
 have hcN : c = N := by omega
 subst hcN
 have hcellW : ∀ r u, (l.flatMap encV)[r]? = some u -> w.cell? ⟨g, r, none⟩ = some u := fun r u hr => by
  have h3 := World.ownsRow.cells h (g := g) rfl r u hr;rw [add_at, Nat.zero_add] at h3;exact h3
 have e1 : l.flatMap encV = (l.take i).flatMap encV ++ (l.drop i).flatMap encV := by rw [<- List.flatMap_append, List.take_append_drop]
 have e2 : ((l.take i).flatMap encV).length = i * 3 := by rw [flat_len encV_ok, List.length_take, Nat.min_eq_left (Nat.le_of_lt hi)]
 obtain ⟨olds, holds⟩ : ∃ o, o = (l.take i).flatMap encV := ⟨_, rfl⟩
 rw [<- holds] at e1 e2
 have hold : (Builtin.firstCells iv.size i (.slice (some ⟨g, 0, none⟩) i c)).run Tryz.prog w.drew = .ok olds.toArray w.drew := by
  rw [hiv1]
  exact run_firstCells_some w.drew 3 i ⟨g, 0, none⟩ i c olds e2 (fun j u hj => by
   rw [add_at, Nat.zero_add]
   exact hcellW j u (by rw [e1, List.getElem?_append_left (List.getElem?_eq_some_iff.1 hj |>.1)]; exact hj))
 obtain ⟨G, hG⟩ : ∃ G, G = grownCap w (c + 1) c 65 := ⟨_, rfl⟩
 have hGn : c + 1 <= G := by rw [hG]; exact grownCap_ge w _ _ _
 have hGm : G <= maxLen := by rw [hG]; exact grownCap_le_maxLen w _ _ _ (by unfold maxLen; omega)
 have hG63 : G <= 9223372036854775807 := by unfold maxLen at hGm; exact hGm
 have hik : i + (c + 1 - i) = c + 1 := by omega
 obtain ⟨ROW, hROW⟩ : ∃ ROW : Array Value, ROW = olds.toArray ++ Builtin.zeroCells (Value.agg #[.string ⟨#[]⟩, .slice none 0 0, .slice none 0 0]).cells (c + 1 - i) ++ Builtin.zeroCells (Value.agg #[.string ⟨#[]⟩, .slice none 0 0, .slice none 0 0]).cells (G - (c + 1)) := ⟨_, rfl⟩
 have hrz : ∀ ty, (Builtin.append_ #[61, 3] ty #[.slice (some ⟨g, 0, none⟩) i c, .int .i64 ((c + 1 - i : Nat) : Int)]).run Tryz.prog w =
   .ok (.slice (some ⟨w.heap.size, 0, none⟩) (c + 1) G) (w.drew.alloc (.cells ROW 65)) := fun ty => by
  have h := Lib.run_append_grow_zeros w 61 3 ty 65 iv _ .i64 .i64 und_vers Tryz.underlying3 hiv hiv0 (some ⟨g, 0, none⟩) i c olds hold (c + 1 - i) (by omega) (by omega) (by omega) (by omega) (by rw [hiv2]; omega) (by rw [hiv2, hik]; exact growslice_fits (by omega) (by omega));rw [hik, <- hG, <- hROW] at h;exact h
 have hRs : ROW.size = G * 3 := by
  rw [hROW];simp only [Array.size_append, List.size_toArray, e2, Builtin.zeroCells, Array.size_map, Array.size_range, Value.cells]
  show i * 3 + (c + 1 - i) * 3 + (G - (c + 1)) * 3 = G * 3
  omega
 obtain ⟨gn, hgn⟩ : ∃ gn, gn = w.heap.size := ⟨_, rfl⟩
 have hown0 : Slc.Own (w.drew.alloc (.cells ROW 65)) Bk 65 3 encV (.slice (some ⟨gn, 0, none⟩) (c + 1) G) (l.take i ++ List.replicate (c + 1 - i) zVt) := by
  have hll : (l.take i ++ List.replicate (c + 1 - i) zVt).length = c + 1 := by rw [List.length_append, List.length_take, List.length_replicate]; omega
  refine ⟨flat_len encV_ok _, .inr ⟨gn, G, ROW, by rw [hll], by omega, by rw [hgn]; exact heap_alloc_new w.drew _, by rw [hll]; exact hGn, hGm, hRs, ?_⟩⟩;rw [hll, List.flatMap_append, <- holds, <- zero_vs, hROW, Array.toList_append, Array.toList_append, List.take_append_of_le_length, List.take_of_length_le]
  ·simp only [List.toList_toArray, List.length_append, e2, Array.length_toList, Builtin.zeroCells, Array.size_map, Array.size_range, Value.cells]
   show i * 3 + (c + 1 - i) * 3 <= (c + 1) * 3
   omega
  ·simp only [List.toList_toArray, List.length_append, e2, Array.length_toList, Builtin.zeroCells, Array.size_map, Array.size_range, Value.cells]
   show (c + 1) * 3 <= i * 3 + (c + 1 - i) * 3
   omega
 obtain ⟨W1, hW1⟩ : ∃ W1, W1 = w.drew.alloc (.cells ROW 65) := ⟨_, rfl⟩
 rw [<- hW1] at hown0 hrz
 have hb1 : Below w.heap.size w W1 := by
  rw [hW1]; exact (show Below w.heap.size w w.drew from ⟨rfl, rfl, rfl, zR _, fun _ _ => rfl⟩).alloc (zR _) _
 have hgg : g ≠ gn := by omega
 have hvg : vb ≠ gn := by omega
 have hrow1 : W1.heap[gn]? = some (.cells ROW 65 (0, 0)) := by rw [hW1, hgn]; exact heap_alloc_new w.drew _
 have hyW : W1.heap[vb]? = some (.cells (encV y).toArray 65 (0, 0)) := (hb1.block vb hvlt).trans hy
 have hcpA : ∀ (W : World), (∀ x, W.cell? x = W1.cell? x) -> (∀ x, W.frozen? x = W1.frozen? x) -> ∀ ty dc, (Builtin.copy_ #[61, 61] ty #[.slice (some ⟨gn, i * 3, none⟩) (c + 1 - i) dc, .slice (some ⟨vb, 0, none⟩) 1 1]).run Tryz.prog W = .ok (goInt (1 : Nat)) (W.setCells gn (i * 3) (encV y)) := fun W hWc hWf ty dc =>
  run_copy_rows W _ _ ty 65 3 gn (i * 3) (c + 1 - i) dc ⟨vb, 0, none⟩ 1 1 1 (encV y) und_vers hsz (by simp only [Nat.min_def]; split <;> omega) rfl (fun j u hj => by
   rw [add_at, Nat.zero_add, hWc, cell_of_row _ _ _ _ _ _ hyW]; simpa using hj) (fun j hj => by
   have hj3 : j < 3 := hj
   rw [hWc, cell_of_row _ _ _ _ _ _ hrow1, Array.getElem?_eq_getElem (show i * 3 + j < ROW.size by rw [hRs]; omega)]; rfl) (fun j hj => by rw [hWf]; exact frozen_row hrow1) (fun u hu => encV_ok.one y u hu)
 obtain ⟨news, hnews⟩ : ∃ news, news = (l.drop i).flatMap encV := ⟨_, rfl⟩
 rw [<- hnews] at e1;have hnl : news.length = 3 * (c - i) := by rw [hnews, flat_len encV_ok, List.length_drop, <- hN, Nat.mul_comm]
 have h1s : ∀ u ∈ news, u.oneCell' = true := fun u hu => by
  rw [hnews] at hu;obtain ⟨x, -, hx⟩ := List.mem_flatMap.1 hu;exact encV_ok.one x u hx
 have hcpB : ∀ (W : World), (∀ x, W.cell? x = (W1.setCells gn (i * 3) (encV y)).cell? x) -> (∀ x, W.frozen? x = (W1.setCells gn (i * 3) (encV y)).frozen? x) -> ∀ ty dc sc, (Builtin.copy_ #[61, 61] ty #[.slice (some ⟨gn, (i + 1) * 3, none⟩) (c - i) dc, .slice (some ⟨g, i * 3, none⟩) (c - i) sc]).run Tryz.prog W = .ok (goInt (c - i : Nat)) (W.setCells gn ((i + 1) * 3) news) := fun W hWc hWf ty dc sc => by
  have hgr := setCells_grown gn (i * 3) (encV y) W1;have hgb := hgr.block g (Nat.lt_of_lt_of_le hglt hb1.size) (by simp only [ne_eq, zO]; exact hgg);have hown1 := Own.put3 hown0 i (by simp; omega) y;obtain ⟨cur1, hrw1, hrs1, -, -, -, -⟩ := own_row hown1
  exact run_copy_rows W _ _ ty 65 3 gn ((i + 1) * 3) (c - i) dc ⟨g, i * 3, none⟩ (c - i) sc (c - i) news und_vers hsz (by simp) hnl (fun r u hr => by
   have h2 := hcellW (i * 3 + r) u (by rw [e1, List.getElem?_append_right (by omega), e2, Nat.add_sub_cancel_left]; exact hr);rw [hWc, add_at];unfold World.cell? at h2 |-
   rw [hgb, hb1.block g hglt]; exact h2) (fun j hj => by
   rw [hWc, cell_of_row _ _ _ _ _ _ hrw1, Array.getElem?_eq_getElem (show (i + 1) * 3 + j < cur1.size by omega)]; rfl) (fun j hj => by rw [hWf]; exact frozen_row hrw1) h1s
 have hown1 : Slc.Own ((W1.setCells gn (i * 3) (encV y)).drew) Bk 65 3 encV (.slice (some ⟨gn, 0, none⟩) (c + 1) G) ((l.take i ++ List.replicate (c + 1 - i) zVt).set i y) := (Own.put3 hown0 i (by simp; omega) y).drew;have hown2 := Own.onto encV_ok hown1 (i + 1) (by simp; omega) (l.drop i) (by rw [List.length_drop]; omega);have hdl : i + 1 + (l.drop i).length = c + 1 := by rw [List.length_drop]; omega
 have htk : ((l.take i ++ List.replicate (c + 1 - i) zVt).set i y).take (i + 1) ++ l.drop i = l.take i ++ y :: l.drop i := by
  rw [List.set_append_right _ _ (by rw [List.length_take]; omega), show c + 1 - i = (c - i) + 1 by omega, List.replicate_succ];have e3 : (l.take i).length = i := by rw [List.length_take]; omega
  rw [e3, Nat.sub_self, List.set_cons_zero, List.take_append, e3, List.take_of_length_le (by omega), Nat.add_sub_cancel_left];simp
 rw [htk, hdl, <- hnews] at hown2
 have hbf : Below w.heap.size w (((W1.setCells gn (i * 3) (encV y)).drew).setCells gn ((i + 1) * 3) news) := by
  have h1 := setCells_grown gn (i * 3) (encV y) W1;have h2 := setCells_grown gn ((i + 1) * 3) news (W1.setCells gn (i * 3) (encV y)).drew;have h3 := hb1.grown h1 hb1.size (fun j hj => by simp only [zO] at hj; omega);have h4 : Below w.heap.size w (W1.setCells gn (i * 3) (encV y)).drew := ⟨h3.os, h3.tape, h3.output, h3.size, h3.block⟩;exact h4.grown h2 h4.size (fun j hj => by simp only [zO] at hj; omega)
 have HF := Bx.mk hown2;have HG := Bx.mk hbf;have hw1 : IntKind.i64.wrap ((i : Int) + 1) = (i : Int) + 1 := by rw [IntKind.wrap_i64]; omega
 have hw2 : IntKind.i64.wrap ((c : Int) + 1) = (c : Int) + 1 := by rw [IntKind.wrap_i64]; omega
 have hkk : (c : Int) + 1 - (i : Int) = ((c + 1 - i : Nat) : Int) := by omega
 have hz2 : ¬ ((i : Int) = (c : Int)) := by omega
 have hc1 : ¬ (G = i + 1) := by omega
 have hc2 : ¬ (G = i) := by omega
 have hc3 : ¬ (c = i) := by omega
 have htn : ((i : Int) + 1).toNat = i + 1 := by omega
 rw [<- hN] at hi hn |-;rw [<- hgn];have hin : i <= c := by omega
 have HA := Bx.mk (hcpA W1 (fun _ => rfl) (fun _ => rfl));have HB := Bx.mk (hcpB (W1.setCells gn (i * 3) (encV y)).drew (fun _ => rfl) (fun _ => rfl));rw [<- hgn] at hrz;have HZ := Bx.mk hrz;have HW1 := Bx.mk hW1;have HGN := Bx.mk hgn;have hb1' : (0 : Int) <= (i : Int) + 1 := by omega
 have hb3 : (i : Int) <= (c : Int) := by omega
 have hb4 : (i : Int) + 1 <= (c : Int) + 1 := by omega
 have hb5 : (i : Int) <= (c : Int) + 1 := by omega
 have hb6 : i <= c + 1 := by omega
 clear h hrow hcs hmx hB hglt hvlt hNc hroom hcellW e1 e2 holds hold hG hGm hik hROW hRs hown0 hgg hvg hrow1 hyW hcpA hnews hnl h1s hcpB hown1 hown2 hdl htk hbf hN hy hb1 hrz hW1 hgn;go_enter Tryz.func106, Tryz.ntmps106;go_wp2_with (first | (at_builtin; refine Lib.wpList_append_run _ rfl _ _ _ _ rfl _ _ rfl rfl _ _ (HZ.out _) ?_) | simp only [HA.out])
 go_region_law_o (refine step_copy_eq rfl _ _ 61 61 rfl (.slice (some ⟨gn, (i + 1) * 3, none⟩) (c - i) (G - (i + 1))) (.slice (some ⟨g, i * 3, none⟩) (c - i) (c - i)) (by simp [Act.eval, Act.put]) (by simp [Act.eval, Act.put]) (HB.out 3 (G - (i + 1)) (c - i)) ?_)
 go_wp2_with fail
 go_ret;exact ⟨_, rfl, HF.out, HGN.out ▸ HG.out⟩
theorem gins_any (w : World) (Bk : Nat) (v : Value) (l : List Vt) (h : Slc.Own w Bk 65 3 encV v l) (hn : l.length <= 100000) (i : Nat) (hi : i <= l.length) (y : Vt) (vb : Nat) (hy : w.heap[vb]? = some (.cells (encV y).toArray 65 (0, 0))) (hvb : v.ownBlock ≠ some vb) (hBk : Bk <= w.heap.size) :
  Calls Tryz.prog 106 #[v, .int .i64 i, .slice (some ⟨vb, 0, none⟩) 1 1] w fun e w' => ∃ v', e = .returned v' /\ (∃ ad n c, v' = .slice ad n c) /\ (∀ k, v'.ownBlock = some k -> v.ownBlock = some k \/ w.heap.size <= k) /\ Slc.Own w' Bk 65 3 encV v' (l.take i ++ y :: l.drop i) /\ w.grownBy w' v.ownBlock := by
 by_cases he : i = l.length
 ·subst he;refine (gins_end w Bk v l h hn y vb hy hBk).mono ?_;rintro e w' ⟨v', h1, h2, h3, h4⟩;obtain ⟨ad, c, hf, -⟩ := h3.rd.form;exact ⟨v', h1, ⟨_, _, _, hf⟩, h2, by simpa using h3, h4⟩
 ·have hil : i < l.length := by omega
  rcases h.2 with ⟨h0, hn0⟩ | ⟨g, c, cur, rfl, hB, hb, hlc, hmx, hcs, ht⟩
  ·exact absurd hn0 (by omega)
  have hvg : vb ≠ g := fun e => hvb (by rw [e]; rfl)
  by_cases hc : l.length + 1 <= c
  ·refine (gins_shift w Bk g c l h hn i hil hc y vb hy hvg).mono ?_;rintro e w' ⟨rfl, h2, h3⟩;exact ⟨_, rfl, ⟨_, _, _, rfl⟩, fun k hk => .inl hk, h2, h3⟩
  ·refine (gins_grow w Bk g c l h hn i hil (by omega) y vb hy hvg hBk).mono ?_;rintro e w' ⟨c', rfl, h2, h3⟩
   exact ⟨_, rfl, ⟨_, _, _, rfl⟩, fun k hk => by
    simp only [Value.ownBlock, zO] at hk
    exact .inr (by omega), h2, ⟨h3.os, h3.tape, h3.output, h3.size, fun k hk _ => h3.block k hk⟩⟩
end Go.Proofs.YtmagjdocondmhaaGreat.Tr.Gr
namespace Go.Proofs.YtmagjdocondmhaaGreat.Tr.Gr
open Go Go.RowKit Slc St Mp Tr
theorem GO.setL2 {w0 w : World} {B : Nat} {v : Value} {g : List Lv} (h : GO w0 B v g) (i : Nat) (hi : i < g.length) (hgr : w0.grownBy w (g[i]).s.val.ownBlock) (L' : Lv) (hL : Slc.Own w B 65 3 encV L'.s.val L'.vs)
  (hb : ∀ k, L'.s.val.ownBlock = some k -> (g[i]).s.val.ownBlock = some k \/ w0.heap.size <= k)
  (hx : ∀ x ∈ L'.vs, VtIn w0 (fun k => ¬ GB v g k) x) :
  ∃ gb cap, v = .slice (some ⟨gb, 0, none⟩) g.length cap /\ gb < w.heap.size /\ (∀ j, w.frozen? ⟨gb, j, none⟩ = false) /\ w.cell? ⟨gb, i, none⟩ = some (g[i]).s.val /\ GStep w0 B v g (w.setCell ⟨gb, i, none⟩ L'.s.val) (g.set i L') := by
 have hni : ∀ k, v.ownBlock = some k -> (g[i]).s.val.ownBlock ≠ some k := fun k hk e => h.ao _ (zM hi) k e hk
 have hown : Slc.Own w B 63 1 encL v g := h.own.keep fun k hk hkl => hgr.block k hkl fun e => hni k hk e.symm
 obtain ⟨gb, cap, hv, hB, hlt, hfr, hown2, hgr2⟩ := hown.set1 encL_ok i 0 hi (by omega) L'.s.val L' rfl;rw [Nat.mul_one, Nat.add_zero] at hown2 hgr2;have hvb : v.ownBlock = some gb := by rw [hv]; rfl
 have hgbl : gb < w0.heap.size := (h.own.lt gb hvb).2
 have hcell' : w.cell? ⟨gb, i, none⟩ = some (g[i]).s.val := by
  obtain ⟨cur, hb', -, -⟩ : ∃ cur, w.heap[gb]? = some (.cells cur 63 (0, 0)) /\ cur.size = cap * 1 /\ (cur.toList.take (g.length * 1) = g.flatMap encL) := by
   rcases hown.2 with ⟨h0, -⟩ | ⟨g', cap', cur', hv', -, hb', -, -, hcs, ht⟩
   ·rw [hv] at h0; simp at h0
   ·rw [hv] at hv';simp only [Value.slice.injEq, zO, Addr.mk.injEq] at hv'
    obtain ⟨⟨rfl, -⟩, -, rfl⟩ := hv';exact ⟨cur', hb', hcs, ht⟩
  have h2 := hown;rw [hv] at h2;have := h2.cell encL_ok i hi 0 (by omega) (g[i]).s.val rfl;rw [Nat.mul_one, Nat.add_zero] at this;exact this
 have hset : ∀ k, GB v (g.set i L') k -> GB v g k \/ w0.heap.size <= k := fun k hk => by
  rcases GB.set hk with q | q
  ·exact .inl q
  ·rcases hb k q with r | r
   ·exact .inl (.inr ⟨_, zM hi, r⟩)
   ·exact .inr r
 have step : ∀ x, VtIn w0 (fun k => ¬ GB v g k) x -> VtIn (w.setCell ⟨gb, i, none⟩ L'.s.val) (fun k => ¬ GB v (g.set i L') k) x := fun x hxx => by
  refine ((VtIn.and hxx hxx.at_).keep (w' := w.setCell ⟨gb, i, none⟩ L'.s.val) (Nat.le_trans hgr.size hgr2.size) fun k hk hkl => ?_).mono fun k hkl hk hn => ?_
  ·have h1 := hgr.block k hkl fun e => hk.1 (.inr ⟨_, zM hi, e.symm⟩)
   exact (hgr2.block k (Nat.lt_of_lt_of_le hkl hgr.size) (by simp only [ne_eq, zO]; rintro rfl; exact hk.1 (.inl hvb))).trans h1
  ·rcases hset k hn with q | q
   ·exact hk.1 q
   ·have := hk.2; omega
 have hbne : L'.s.val.ownBlock ≠ some gb := fun e => by
  rcases hb gb e with q | q
  ·exact hni gb hvb q
  ·omega
 have hjne : ∀ (j : Nat) (hj : j < g.length), j ≠ i -> ∀ k, (g[j]).s.val.ownBlock = some k -> L'.s.val.ownBlock ≠ some k := fun j hj hji k hk e => by
  rcases hb k e with q | q
  ·exact h.ap i j hi hj (fun e => hji e.symm) k q hk
  ·have := ((h.lv _ (zM hj)).lt k hk).2; omega
 refine ⟨gb, cap, hv, hlt, hfr, hcell', ⟨⟨hown2, fun L hLm => ?_, ?_, ?_, ?_⟩, ?_, hset⟩⟩
 ·obtain ⟨j, hj, rfl⟩ := List.getElem_of_mem hLm;rw [zL] at hj;rw [List.getElem_set];by_cases e : i = j
  ·rw [if_pos e];exact hL.keep fun k hk hkl => hgr2.block k hkl (by simp only [ne_eq, zO]; rintro rfl; exact hbne hk)
  ·rw [if_neg e];have h1 := h.lv _ (zM hj);have h2 : Slc.Own w B 65 3 encV (g[j]).s.val (g[j]).vs := h1.keep fun k hk hkl => hgr.block k hkl fun e2 => h.ap i j hi hj e k e2.symm hk
   exact h2.keep fun k hk hkl => hgr2.block k hkl (by simp only [ne_eq, zO]; rintro rfl; exact h.ao _ (zM hj) k hk hvb)
 ·intro a b ha hb' hab k hk;rw [zL] at ha hb';rw [List.getElem_set] at hk |-;by_cases e1 : i = a
  ·rw [if_pos e1] at hk;rw [if_neg (by omega)];exact fun q => hjne b hb' (by omega) k q hk
  ·rw [if_neg e1] at hk;by_cases e2 : i = b
   ·rw [if_pos e2];exact hjne a ha (fun e => e1 e.symm) k hk
   ·rw [if_neg e2]; exact h.ap a b ha hb' hab k hk
 ·intro L hLm k hk;obtain ⟨j, hj, rfl⟩ := List.getElem_of_mem hLm;rw [zL] at hj;rw [List.getElem_set] at hk;by_cases e : i = j
  ·rw [if_pos e] at hk;intro e2;rw [hvb, zO] at e2;subst e2;exact hbne hk
  ·rw [if_neg e] at hk; exact h.ao _ (zM hj) k hk
 ·intro L hLm x hxm;obtain ⟨j, hj, rfl⟩ := List.getElem_of_mem hLm;rw [zL] at hj;rw [List.getElem_set] at hxm;by_cases e : i = j
  ·rw [if_pos e] at hxm; exact step x (hx x hxm)
  ·rw [if_neg e] at hxm; exact step x (h.nm _ (zM hj) x hxm)
 ·exact (Fr.of_grown (S := GB v g) hgr fun k hk => .inr ⟨_, zM hi, hk⟩).trans (Fr.of_grown (S := GB v g) hgr2 fun k hk => by
   simp only [zO] at hk; subst hk; exact .inl hvb) fun _ _ q => q
end Go.Proofs.YtmagjdocondmhaaGreat.Tr.Gr
