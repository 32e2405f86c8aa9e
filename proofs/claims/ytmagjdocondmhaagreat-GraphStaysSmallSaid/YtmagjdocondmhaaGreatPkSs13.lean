/-
clear of a slice of rows; the head of an owned slice.
slices.DeleteFunc at vertices that the call owns, with Map's own function.
slices.Delete of one vertex.
-/
import Derived.Test.YtmagjdocondmhaaGreatPkSs12
import Derived.Lib.SliceRun
import Derived.Deep.Upon
import Derived.Deep.RegionLaw
namespace Go.Proofs.YtmagjdocondmhaaGreat.Tr.Gr
open Go Go.RowKit Go.Proofs.YtmagjdocondmhaaGreat.Slc Go.Proofs.YtmagjdocondmhaaGreat.St Go.Proofs.YtmagjdocondmhaaGreat.Mp Go.Proofs.YtmagjdocondmhaaGreat.Tr Go.Proofs.YtmagjdocondmhaaGreat.Rg
set_option linter.unusedVariables false
set_option linter.unusedSimpArgs false

/-- 'clear(s)', s a slice of n > 0 elements of whatever number of cells -/
theorem run_clear_rows {P : Program} (w : World) (t e ty : TypeId) (z : Value) (ht : P.underlying t = some (.slice e)) (hv : ∀ w, (zeroValue e).run P w = .ok z w) (L : List Value) (n : Nat) (hL : (Builtin.zeroCells z.cells n).toList = L) (h1 : ∀ u ∈ L, u.oneCell' = true) (b o c : Nat) (hn : 0 < n)
    (hc : ∀ j, j < L.length → (w.cell? ⟨b, o + j, none⟩).isSome = true) (hf : ∀ j, j < L.length → w.frozen? ⟨b, o + j, none⟩ = false) :
    (Builtin.clear_ #[t] ty #[.slice (some ⟨b, o, none⟩) n c]).run P w = .ok (.tuple #[]) (w.setCells b o L) := by
  have hst := run_storeCells_cells (P := P) b o L 0 w (by simpa using hc) (by simpa using hf) h1
  simp only [Nat.add_zero] at hst
  obtain ⟨m, rfl⟩ : ∃ m, n = m + 1 := ⟨n - 1, by omega⟩
  simp [Builtin.clear_, run_underlying ht, hv, hL, hst]
theorem setCells_row (g : Nat) : ∀ (vs : List Value) (o : Nat) (w : World) (cur : Array Value) (t : TypeId) (fr : Nat × Nat), w.heap[g]? = some (.cells cur t fr) →
    ∃ cur', (w.setCells g o vs).heap[g]? = some (.cells cur' t fr) ∧ cur'.size = cur.size ∧ ∀ j, j < o → cur'[j]? = cur[j]?
  | [], o, w, cur, t, fr, h => ⟨cur, h, rfl, fun _ _ => rfl⟩
  | v :: r, o, w, cur, t, fr, h => by
    obtain ⟨cur', h1, h2, h3⟩ := setCells_row g r (o + 1) (w.setCell ⟨g, o, none⟩ v) (cur.setIfInBounds o v) t fr (row_set h v)
    refine ⟨cur', h1, by rw [h2]; simp, fun j hj => ?_⟩
    rw [h3 j (by omega), Array.getElem?_setIfInBounds]
    rw [if_neg (by omega)]
theorem setCells_grown (g o : Nat) (vs : List Value) (w : World) : w.grownBy (w.setCells g o vs) (some g) := by
  induction vs generalizing o w with
  | nil => exact ⟨rfl, rfl, rfl, Nat.le_refl _, fun _ _ _ => rfl⟩
  | cons v r ih =>
    have h1 : w.grownBy (w.setCell ⟨g, o, none⟩ v) (some g) := ⟨rfl, rfl, rfl, by simp, fun k hk hne => heap_setCell_other _ _ _ _ (fun e => hne (by rw [e]))⟩
    exact grown_same h1 (ih (o + 1) _)
/-- the head of an owned slice whose tail was written -/
theorem Own.head {α : Type} {w : World} {B g n c : Nat} {t : TypeId} {z : Nat} {enc : α → List Value} {l : List α} (E : Enc z enc) (h : Slc.Own w B t z enc (.slice (some ⟨g, 0, none⟩) n c) l) (k : Nat) (hk : k ≤ l.length) (vs : List Value) :
    Slc.Own (w.setCells g (k * z) vs) B t z enc (.slice (some ⟨g, 0, none⟩) k c) (l.take k) := by
  rcases h.2 with ⟨h0, hn⟩ | ⟨g', cap', cur, hv, hB, hb, hc, hm, hcs, ht⟩
  · simp at h0
  simp only [Value.slice.injEq, Option.some.injEq, Addr.mk.injEq] at hv
  obtain ⟨⟨rfl, -⟩, hnl, rfl⟩ := hv
  obtain ⟨cur', h1, h2, h3⟩ := setCells_row g vs (k * z) w cur t (0, 0) hb
  have hkl : (l.take k).length = k := by simp; omega
  refine ⟨flat_len E _, .inr ⟨g, c, cur', by rw [hkl], hB, h1, by rw [hkl]; omega, hm, by rw [h2]; exact hcs, ?_⟩⟩
  have hfl : (l.take k).flatMap enc = (l.flatMap enc).take (k * z) := by
    have e1 : l.flatMap enc = (l.take k).flatMap enc ++ (l.drop k).flatMap enc := by rw [← List.flatMap_append, List.take_append_drop]
    have e2 : ((l.take k).flatMap enc).length = k * z := by rw [flat_len E, hkl]
    rw [e1]; exact (List.take_left' e2).symm
  rw [hkl, hfl, ← ht]
  have hle : k * z ≤ l.length * z := Nat.mul_le_mul_right z hk
  apply List.ext_getElem?
  intro j
  rw [List.getElem?_take, List.getElem?_take, List.getElem?_take]
  by_cases hj : j < k * z
  · rw [if_pos hj, if_pos hj, if_pos (by omega)]
    have := h3 j hj
    simpa using this
  · rw [if_neg hj, if_neg hj]
end Go.Proofs.YtmagjdocondmhaaGreat.Tr.Gr
namespace Go.Proofs.YtmagjdocondmhaaGreat.Tr.Gr
open Go Go.RowKit Go.Proofs.YtmagjdocondmhaaGreat.Slc Go.Proofs.YtmagjdocondmhaaGreat.St Go.Proofs.YtmagjdocondmhaaGreat.Mp Go.Proofs.YtmagjdocondmhaaGreat.Tr Go.Proofs.YtmagjdocondmhaaGreat.Rg
set_option linter.unusedVariables false
set_option linter.unusedSimpArgs false
attribute [local go_sem] Oper.semAt_some

/-- the slice, when its first j elements have been gone through -/
def delJ {α : Type} (p : α → Bool) (l : List α) (j : Nat) : List α := (l.take j).filter p ++ l.drop ((l.take j).filter p).length
theorem delJ_kl {α : Type} (p : α → Bool) (l : List α) (j : Nat) (hj : j ≤ l.length) : ((l.take j).filter p).length ≤ j := by
  have := List.length_filter_le p (l.take j)
  rw [List.length_take] at this; omega
theorem delJ_len {α : Type} (p : α → Bool) (l : List α) (j : Nat) (hj : j ≤ l.length) : (delJ p l j).length = l.length := by
  have := delJ_kl p l j hj
  unfold delJ
  rw [List.length_append, List.length_drop]; omega
theorem delJ_at {α : Type} (p : α → Bool) (l : List α) (j : Nat) (hj : j < l.length) (h : j < (delJ p l j).length) : (delJ p l j)[j] = l[j] := by
  have := delJ_kl p l j (by omega)
  unfold delJ at h ⊢
  rw [List.getElem_append_right this, List.getElem_drop]
  congr 1; omega
theorem delJ_no {α : Type} (p : α → Bool) (l : List α) (j : Nat) (hj : j < l.length) (h : p l[j] = false) : (l.take (j + 1)).filter p = (l.take j).filter p := by
  rw [List.take_succ_eq_append_getElem hj, List.filter_append]; simp [List.filter_cons, h]
theorem delJ_yes {α : Type} (p : α → Bool) (l : List α) (j : Nat) (hj : j < l.length) (h : p l[j] = true) : (l.take (j + 1)).filter p = (l.take j).filter p ++ [l[j]] ∧ (delJ p l j).set ((l.take j).filter p).length l[j] = delJ p l (j + 1) := by
  have e : (l.take (j + 1)).filter p = (l.take j).filter p ++ [l[j]] := by
    rw [List.take_succ_eq_append_getElem hj, List.filter_append]; simp [List.filter_cons, h]
  refine ⟨e, ?_⟩
  have hk := delJ_kl p l j (by omega)
  unfold delJ
  have hd := List.drop_eq_getElem_cons (show ((l.take j).filter p).length < l.length by omega)
  rw [e, List.set_append_right _ _ (Nat.le_refl _), Nat.sub_self, List.length_append, List.length_singleton, hd, List.set_cons_zero, List.append_assoc]
  rfl
theorem delJ_all {α : Type} (p : α → Bool) (l : List α) : (delJ p l l.length).take ((l.take l.length).filter p).length = l.filter p := by
  unfold delJ
  rw [List.take_left' rfl, List.take_length]
/-- behind the first that is struck -/
theorem delJ_first {α : Type} [Inhabited α] (p : α → Bool) (l : List α) (k : Nat) (hk : k < l.length) (h1 : p l[k]! = false) (h2 : ∀ j, j < k → p l[j]! = true) : (l.take (k + 1)).filter p = l.take k ∧ delJ p l (k + 1) = l := by
  have e : (l.take (k + 1)).filter p = l.take k := by
    rw [getElem!_pos l k hk] at h1
    rw [delJ_no p l k hk h1, List.filter_eq_self]
    intro x hx
    obtain ⟨i, hi, rfl⟩ := List.getElem_of_mem hx
    rw [List.length_take] at hi
    rw [List.getElem_take]
    have := h2 i (by omega)
    rwa [getElem!_pos l i (by omega)] at this
  refine ⟨e, ?_⟩
  unfold delJ
  rw [e, List.length_take, Nat.min_eq_left (by omega), List.take_append_drop]
set_option maxRecDepth 100000 in
set_option maxHeartbeats 4000000 in
theorem gdelV_any (w : World) (Bk : Nat) (v : Value) (l : List Vt) (h : Slc.Own w Bk 65 3 encV v l) (hx : ∀ x ∈ l, VtAt w x) (hn : l.length ≤ 100000) (qd bm q : Nat) (f : B → Option Sg) (hm : OwnF w kS rdS edS bm q f) (hq : w.cell? ⟨qd, 0, none⟩ = some (.map (some bm))) (hql : qd < w.heap.size) (hqv : v.ownBlock ≠ some qd) (hbv : v.ownBlock ≠ some bm) :
    Calls Tryz.prog 61 #[v, .func (.func 62) #[] #[.pointer (some ⟨qd, 0, none⟩)]] w fun e w' => ∃ v', e = .returned v' ∧ v'.ownBlock = v.ownBlock ∧ Slc.Own w' Bk 65 3 encV v' (l.filter fun x => !(f x.n.pol).isSome) ∧ w.grownBy w' v.ownBlock := by
  obtain ⟨p, hp⟩ : ∃ p : Vt → Bool, p = fun x => !(f x.n.pol).isSome := ⟨_, rfl⟩
  have HP := Bx.mk hp
  rw [← hp]
  clear hp
  have hix := idxM_any w v l ⟨h.rd, hx⟩ hn qd bm q f hm hq hql
  obtain ⟨ad, c, rfl, hlc⟩ := h.rd.form
  have HO := Bx.mk h
  obtain ⟨N, hN⟩ : ∃ N, N = l.length := ⟨_, rfl⟩
  have HN := Bx.mk hN
  obtain ⟨I0, hI⟩ : ∃ I, I = idxG (vxs l) (fun n => (f n.pol).isSome) := ⟨_, rfl⟩
  rw [← hI] at hix
  have HI := Bx.mk hI
  have HM := Bx.mk hm
  have HQ := Bx.mk hq
  have HQL := Bx.mk hql
  have HPL := Bx.mk (show ∀ x ∈ l, x.n.pol.length ≤ 1000000 from fun x hxm => (hx x hxm).2.2.2.1)
  rw [← hN] at hn hix hlc hqv hbv ⊢
  have HQV := Bx.mk hqv
  have HBV := Bx.mk hbv
  have HLC := Bx.mk hlc
  clear h hx hN hI hm hq hql hqv hbv
  have eg : ∀ args W, (callFunc 62 args).run Tryz.prog W = .ok (.enter 62 args) W := enters_of Tryz.func62 (by kernel_rfl) rfl
  go_enter Tryz.func61, Tryz.ntmps61
  go_wp2_with fail
  go_at_call 94
  refine hix.mono ?_
  rintro e w1 ⟨rfl, hb1⟩
  have HB1 := Bx.mk hb1
  clear hix hb1
  by_cases hi0 : I0 = -1
  · have t12 : (I0 == -1) = true := by rw [hi0]; rfl
    have HF := Bx.mk (show l.filter p = l by
      rw [HP.out, List.filter_eq_self]
      intro x hxm
      obtain ⟨i, hi, rfl⟩ := List.getElem_of_mem hxm
      have := idxG_neg (t := vxs l) (f := fun n => (f n.pol).isSome) (by rw [← HI.out, hi0]; omega) i (by rw [vxs_len]; exact hi)
      rw [vxs_at l i hi] at this
      rw [this]; rfl)
    clear hi0
    go_wp2_with fail
    go_ret
    refine ⟨_, rfl, rfl, by rw [HF.out]; rw [HN.out]; exact HO.out.below HB1.out, ⟨HB1.out.os, HB1.out.tape, HB1.out.output, HB1.out.size, fun k hk _ => HB1.out.block k hk⟩⟩
  · have t12 : (I0 == -1) = false := by simp [hi0]
    have hnn : 0 ≤ idxG (vxs l) (fun n => (f n.pol).isSome) := by
      rcases Int.lt_or_le (idxG (vxs l) (fun n => (f n.pol).isSome)) 0 with q1 | q1
      · exfalso
        apply hi0
        rw [HI.out]
        exact idxG_no (idxG_neg q1)
      · exact q1
    obtain ⟨k0, hk0, hk0e, hk0t, hk0n⟩ := idxG_some hnn
    rw [vxs_len] at hk0
    rw [← HI.out] at hk0e
    subst hk0e
    have hp := HP.out
    have hpv : ∀ i (hi : i < l.length), p l[i]! = !(f ((vxs l)[i]!).pol).isSome := fun i hi => by rw [hp, vxs_at l i hi, getElem!_pos l i hi]
    obtain ⟨hfl, hfd⟩ := delJ_first p l k0 hk0 (by rw [hpv k0 hk0, hk0t]; rfl) (fun j hj => by rw [hpv j (by omega), hk0n j hj]; rfl)
    have hown := HO.out
    rcases hown.2 with ⟨h0, hn0⟩ | ⟨g, cap, cur, hv, hB, -, -⟩
    · exact absurd hn0 (by omega)
    simp only [Value.slice.injEq] at hv
    obtain ⟨rfl, -, rfl⟩ := hv
    rw [← HN.out] at hown
    have HG0 := Bx.mk (show w.grownBy w1 (some g) from ⟨HB1.out.os, HB1.out.tape, HB1.out.output, HB1.out.size, fun k hk _ => HB1.out.block k hk⟩)
    have HO1 := Bx.mk (show Slc.Own w1 Bk 65 3 encV (.slice (some ⟨g, 0, none⟩) N c) (delJ p l (k0 + 1)) by rw [hfd]; exact hown.below HB1.out)
    have HI1 := Bx.mk (show k0 = ((l.take (k0 + 1)).filter p).length by rw [hfl, List.length_take]; omega)
    have hk0N : k0 < N := by rw [HN.out]; exact hk0
    have HGQ := Bx.mk (show g ≠ qd ∧ g ≠ bm from ⟨fun e => HQV.out (by rw [e]; rfl), fun e => HBV.out (by rw [e]; rfl)⟩)
    clear hnn hk0 hk0t hk0n hpv hp hfl hfd hown hB hi0
    go_wp2_with fail
    go_loopw [5, 6] (fun iv jv wr => ∃ (i j : Nat), i < j ∧ j ≤ N ∧ iv = .int .i64 i ∧ jv = .int .i64 j ∧ Bx (i = ((l.take j).filter p).length) ∧ Bx (Slc.Own wr Bk 65 3 encV (.slice (some ⟨g, 0, none⟩) N c) (delJ p l j)) ∧ Bx (w.grownBy wr (some g))) (fun _ jv _ => N - (intOf jv).toNat)
    case atStart => exact ⟨k0, k0 + 1, by omega, by omega, rfl, by go_num, HI1, HO1, HG0⟩
    case round =>
      clear HI1 HO1 HG0
      obtain ⟨i, j, hij, hj, rfl, rfl, hI, hO, hG⟩ := hrel
      by_cases hlt : j < N
      · have hjl : j < l.length := by rw [← HN.out]; exact hlt
        have hjd : j < (delJ p l j).length := by rw [delJ_len p l j (by omega)]; exact hjl
        have hat := delJ_at p l j hjl hjd
        have c0 := hO.out.cell encV_ok j hjd 0 (by omega) (.string (bstr (l[j]).n.pol)) (by rw [hat]; rfl)
        have c1 := hO.out.cell encV_ok j hjd 1 (by omega) (l[j]).u.val (by rw [hat]; rfl)
        have c2 := hO.out.cell encV_ok j hjd 2 (by omega) (l[j]).q.val (by rw [hat]; rfl)
        rw [Nat.add_zero] at c0
        have HXP := Bx.mk (HPL.out _ (List.getElem_mem hjl))
        have HYES := Bx.mk (delJ_yes p l j hjl)
        have HNO := Bx.mk (delJ_no p l j hjl)
        have HPX := Bx.mk (show p l[j] = !(f (l[j]).n.pol).isSome by rw [HP.out])
        obtain ⟨x, hx⟩ : ∃ x, x = l[j]'hjl := ⟨_, rfl⟩
        rw [← hx] at c0 c1 c2 HXP HYES HNO HPX
        simp only [Sl.val] at c1 c2
        obtain ⟨r, hr⟩ : ∃ r, r = (f x.n.pol).isSome := ⟨_, rfl⟩
        have hqw := (hG.out.block qd HQL.out (by simp only [ne_eq, Option.some.injEq]; exact fun e => HGQ.out.1 e.symm))
        obtain ⟨W2, hW2⟩ : ∃ W2, W2 = wr.alloc (.cells #[.string (bstr x.n.pol), .slice x.u.ad x.u.n x.u.c, .slice x.q.ad x.q.n x.q.c] 65) := ⟨_, rfl⟩
        obtain ⟨q7, hq7⟩ : ∃ q, q = wr.heap.size := ⟨_, rfl⟩
        have hba : Below wr.heap.size wr W2 := by rw [hW2]; exact (Below.refl _ _).alloc (Nat.le_refl _) _
        have HR2 := Bx.mk (show W2.heap[q7]? = some (.cells #[.string (bstr x.n.pol), .slice x.u.ad x.u.n x.u.c, .slice x.q.ad x.q.n x.q.c] 65 (0, 0)) by rw [hW2, hq7]; exact heap_alloc_new _ _)
        have hM2 := (HM.out.block (hG.out.block bm HM.out.lt (by simp only [ne_eq, Option.some.injEq]; exact fun e => HGQ.out.2 e.symm))).below hba
        have hqlw : qd < wr.heap.size := Nat.lt_of_lt_of_le HQL.out hG.out.size
        have hq2 : W2.cell? ⟨qd, 0, none⟩ = some (.map (some bm)) := by
          have h1 : wr.cell? ⟨qd, 0, none⟩ = some (.map (some bm)) := by
            have h2 := HQ.out
            unfold World.cell? at h2 ⊢
            rw [hqw]; exact h2
          exact (hba.cell (p := ⟨qd, 0, none⟩) hqlw).trans h1
        have hcf := mapF_any W2 x qd bm q f hM2 hq2 (Nat.lt_of_lt_of_le hqlw hba.size) HXP.out
        rw [← hr] at hcf HPX
        unfold verV at hcf
        simp only [Sl.val] at hcf
        have HO2 := Bx.mk (hO.out.below hba)
        have HG2 := Bx.mk (grown_bel hG.out hba)
        have HGB := Bx.mk (show g < wr.heap.size from (hO.out.lt g rfl).2)
        have HQ7 := Bx.mk hq7
        clear hx hr hqw hM2 hqlw hq2 hO hG hba hat hjd hjl
        go_upto_region 8 with fail
        rw [← hW2, ← hq7]
        clear hW2 hq7 c0 c1 c2
        have hr2 := HR2.out
        have m0 := cell_of_row _ _ 0 _ _ _ hr2
        have m1 := cell_of_row _ _ 1 _ _ _ hr2
        have m2 := cell_of_row _ _ 2 _ _ _ hr2
        simp only [List.getElem?_toArray, List.getElem?_cons_zero, List.getElem?_cons_succ] at m0 m1 m2
        clear hr2
        go_wp2_with fail
        go_at_call 62
        refine hcf.mono ?_
        rintro e w3 ⟨rfl, hb3⟩
        clear hcf m0 m1 m2
        have HO3 := Bx.mk (HO2.out.below hb3)
        have HG3 := Bx.mk (grown_bel HG2.out hb3)
        have HR3 := Bx.mk ((hb3.block q7 (lt_of_some HR2.out)).trans HR2.out)
        clear hb3
        cases r with
        | true =>
          have he := HNO.out (by rw [HPX.out]; rfl)
          have HI2 := Bx.mk (show i = ((l.take (j + 1)).filter p).length by rw [he]; exact hI.out)
          have HO4 := Bx.mk (show Slc.Own w3 Bk 65 3 encV (.slice (some ⟨g, 0, none⟩) N c) (delJ p l (j + 1)) by
            have : delJ p l (j + 1) = delJ p l j := by unfold delJ; rw [he]
            rw [this]; exact HO3.out)
          clear he
          go_wp2_with fail
          go_roundw
          case rel => exact ⟨i, j + 1, by omega, by omega, rfl, by go_num, HI2, HO4, HG3⟩
          case measure => simp [intOf]; omega
        | false =>
          obtain ⟨he, hset⟩ := HYES.out (by rw [HPX.out]; rfl)
          have HI2 := Bx.mk (show i + 1 = ((l.take (j + 1)).filter p).length by rw [he, List.length_append, ← hI.out]; rfl)
          rw [← hI.out] at hset
          have HSET := Bx.mk hset
          have hid : i < (delJ p l j).length := by rw [delJ_len p l j (by rw [← HN.out]; omega), ← HN.out]; omega
          obtain ⟨y0, hy0⟩ : ∃ y, y = (delJ p l j)[i]'hid := ⟨_, rfl⟩
          have d0 := HO3.out.cell encV_ok i hid 0 (by omega) (.string (bstr y0.n.pol)) (by rw [hy0]; rfl)
          have d1 := HO3.out.cell encV_ok i hid 1 (by omega) y0.u.val (by rw [hy0]; rfl)
          have d2 := HO3.out.cell encV_ok i hid 2 (by omega) y0.q.val (by rw [hy0]; rfl)
          rw [Nat.add_zero] at d0
          obtain ⟨g1, cap1, hv1, hB1, hlt1, hfr1, ho1, hg1⟩ := HO3.out.set1 encV_ok i 0 hid (by omega) (.string (bstr x.n.pol)) ⟨⟨x.n.pol, y0.n.ex, y0.n.par⟩, y0.u, y0.q⟩ (by rw [← hy0]; rfl)
          simp only [Value.slice.injEq, Option.some.injEq, Addr.mk.injEq, and_true] at hv1
          obtain ⟨rfl, -, rfl⟩ := hv1
          obtain ⟨g2, cap2, hv2, hB2, hlt2, hfr2, ho2, hg2⟩ := ho1.set1 encV_ok i 1 (by simpa using hid) (by omega) (.slice x.u.ad x.u.n x.u.c) ⟨⟨x.n.pol, x.n.ex, y0.n.par⟩, x.u, y0.q⟩ (by simp; rfl)
          simp only [Value.slice.injEq, Option.some.injEq, Addr.mk.injEq, and_true] at hv2
          obtain ⟨rfl, -, -⟩ := hv2
          obtain ⟨g3, cap3, hv3, hB3, hlt3, hfr3, ho3, hg3⟩ := ho2.set1 encV_ok i 2 (by simpa using hid) (by omega) (.slice x.q.ad x.q.n x.q.c) x (by simp; rfl)
          simp only [Value.slice.injEq, Option.some.injEq, Addr.mk.injEq, and_true] at hv3
          obtain ⟨rfl, -, -⟩ := hv3
          rw [List.set_set, List.set_set, hset] at ho3
          rw [Nat.add_zero] at ho1 ho2 ho3 hg1 hg2 hg3
          have HO5 := Bx.mk ho3
          have HG5 := Bx.mk (grown_same (grown_same (grown_same HG3.out hg1) hg2) hg3)
          have hr3 := HR3.out
          have m0 := cell_of_row _ _ 0 _ _ _ hr3
          have m1 := cell_of_row _ _ 1 _ _ _ hr3
          have m2 := cell_of_row _ _ 2 _ _ _ hr3
          simp only [List.getElem?_toArray, List.getElem?_cons_zero, List.getElem?_cons_succ] at m0 m1 m2
          clear ho1 ho2 ho3 hg1 hg2 hg3 hr3 hset he hid hy0 hB1 hB2 hB3 hlt2 hlt3 hfr2 hfr3
          go_wp2_with fail
          go_roundw
          case rel => exact ⟨i + 1, j + 1, by omega, by omega, by go_num, by go_num, HI2, HO5, HG5⟩
          case measure => simp [intOf]; omega
      · obtain rfl : j = N := by omega
        obtain ⟨z, hz⟩ : ∃ z : Value, z = .agg #[.string ⟨#[]⟩, .slice none 0 0, .slice none 0 0] := ⟨_, rfl⟩
        obtain ⟨L, hL⟩ : ∃ L, L = (Builtin.zeroCells z.cells (j - i)).toList := ⟨_, rfl⟩
        have hLl : L.length = (j - i) * 3 := by rw [hL, hz]; simp [Builtin.zeroCells, Value.cells]
        have hLo : ∀ u ∈ L, u.oneCell' = true := by
          intro u hu
          rw [hL, hz] at hu
          unfold Builtin.zeroCells at hu
          rw [Array.toList_map, List.mem_map] at hu
          obtain ⟨a, -, rfl⟩ := hu
          rcases (show a % 3 = 0 ∨ a % 3 = 1 ∨ a % 3 = 2 by omega) with e | e | e
          · show ((#[.string ⟨#[]⟩, .slice none 0 0, .slice none 0 0] : Array Value)[a % 3]!).oneCell' = true
            rw [e]; rfl
          · show ((#[.string ⟨#[]⟩, .slice none 0 0, .slice none 0 0] : Array Value)[a % 3]!).oneCell' = true
            rw [e]; rfl
          · show ((#[.string ⟨#[]⟩, .slice none 0 0, .slice none 0 0] : Array Value)[a % 3]!).oneCell' = true
            rw [e]; rfl
        have hdl := delJ_len p l j (by rw [← HN.out]; exact Nat.le_refl _)
        have hrow : ∃ cur, wr.heap[g]? = some (.cells cur 65 (0, 0)) ∧ cur.size = c * 3 := by
          rcases hO.out.2 with ⟨h0, -⟩ | ⟨g', cap', cur', hv, -, hb, -, -, hcs, -⟩
          · simp at h0
          · simp only [Value.slice.injEq, Option.some.injEq, Addr.mk.injEq] at hv
            obtain ⟨⟨rfl, -⟩, -, rfl⟩ := hv
            exact ⟨cur', hb, hcs⟩
        obtain ⟨cw, hrw, hrs⟩ := hrow
        have hcl := fun ty => run_clear_rows (P := Tryz.prog) wr 61 65 ty z und_vers (by rw [hz]; exact Tryz.zeroValue65) L (j - i) hL.symm hLo g (i * 3) (c - i) (by omega) (fun r hr => by rw [cell_of_row _ _ _ _ _ _ hrw, Array.getElem?_eq_getElem (show i * 3 + r < cw.size by rw [hrs]; rw [hLl] at hr; have := HLC.out; omega)]; rfl) (fun r hr => frozen_row hrw)
        have hown := Own.head encV_ok hO.out i (by rw [hdl, ← HN.out]; omega) L
        have hgr := setCells_grown g (i * 3) L wr
        have HFO := Bx.mk (show Slc.Own (wr.setCells g (i * 3) L) Bk 65 3 encV (.slice (some ⟨g, 0, none⟩) i c) (l.filter p) by
          have h1 := delJ_all p l
          rw [← HN.out, ← hI.out] at h1
          rw [← h1]; exact hown)
        have HFG := Bx.mk (grown_same hG.out hgr)
        clear hown hgr hrw hrs hLo hLl hdl hL hz z
        go_wp2_with fail
        go_ret
        exact ⟨_, rfl, rfl, HFO.out, HFG.out⟩
end Go.Proofs.YtmagjdocondmhaaGreat.Tr.Gr
namespace Go.Proofs.YtmagjdocondmhaaGreat.Tr.Gr
open Go Go.RowKit Go.Proofs.YtmagjdocondmhaaGreat.Slc Go.Proofs.YtmagjdocondmhaaGreat.St Go.Proofs.YtmagjdocondmhaaGreat.Mp Go.Proofs.YtmagjdocondmhaaGreat.Tr Go.Proofs.YtmagjdocondmhaaGreat.Rg
set_option linter.unusedVariables false
set_option linter.unusedSimpArgs false
attribute [local go_sem] Oper.semAt_some

theorem setCells_row' (g : Nat) : ∀ (vs : List Value) (o : Nat) (w : World) (cur : Array Value) (t : TypeId) (fr : Nat × Nat), w.heap[g]? = some (.cells cur t fr) → o + vs.length ≤ cur.size →
    ∃ cur', (w.setCells g o vs).heap[g]? = some (.cells cur' t fr) ∧ cur'.size = cur.size ∧ (∀ j, j < o → cur'[j]? = cur[j]?) ∧ ∀ j, j < vs.length → cur'[o + j]? = vs[j]?
  | [], o, w, cur, t, fr, h, _ => ⟨cur, h, rfl, fun _ _ => rfl, fun j hj => by simp at hj⟩
  | v :: r, o, w, cur, t, fr, h, hs => by
    rw [List.length_cons] at hs
    obtain ⟨cur', h1, h2, h3, h4⟩ := setCells_row' g r (o + 1) (w.setCell ⟨g, o, none⟩ v) (cur.setIfInBounds o v) t fr (row_set h v) (by simp; omega)
    refine ⟨cur', h1, by rw [h2]; simp, fun j hj => ?_, fun j hj => ?_⟩
    · rw [h3 j (by omega), Array.getElem?_setIfInBounds]
      rw [if_neg (by omega)]
    · cases j with
      | zero =>
        rw [Nat.add_zero, h3 o (by omega), Array.getElem?_setIfInBounds, if_pos rfl, if_pos (by omega)]; rfl
      | succ j =>
        rw [List.length_cons] at hj
        have := h4 j (by omega)
        rw [show o + (j + 1) = o + 1 + j by omega, this]; rfl
/-- elements written behind the first of an owned slice, within its room -/
theorem Own.onto {α : Type} {w : World} {B g n c : Nat} {t : TypeId} {z : Nat} {enc : α → List Value} {l : List α} (E : Enc z enc) (h : Slc.Own w B t z enc (.slice (some ⟨g, 0, none⟩) n c) l) (i : Nat) (hi : i ≤ l.length) (m : List α) (hm : i + m.length ≤ c) :
    Slc.Own (w.setCells g (i * z) (m.flatMap enc)) B t z enc (.slice (some ⟨g, 0, none⟩) (i + m.length) c) (l.take i ++ m) := by
  rcases h.2 with ⟨h0, hn⟩ | ⟨g', cap', cur, hv, hB, hb, hc, hmx, hcs, ht⟩
  · simp at h0
  simp only [Value.slice.injEq, Option.some.injEq, Addr.mk.injEq] at hv
  obtain ⟨⟨rfl, -⟩, hnl, rfl⟩ := hv
  have hml : (m.flatMap enc).length = m.length * z := flat_len E m
  have hle : (i + m.length) * z ≤ c * z := Nat.mul_le_mul_right z hm
  rw [Nat.add_mul] at hle
  obtain ⟨cur', h1, h2, h3, h4⟩ := setCells_row' g (m.flatMap enc) (i * z) w cur t (0, 0) hb (by rw [hml, hcs]; exact hle)
  have hkl : (l.take i ++ m).length = i + m.length := by rw [List.length_append, List.length_take]; omega
  refine ⟨flat_len E _, .inr ⟨g, c, cur', by rw [hkl], hB, h1, by rw [hkl]; omega, hmx, by rw [h2]; exact hcs, ?_⟩⟩
  have e2 : ((l.take i).flatMap enc).length = i * z := by rw [flat_len E, List.length_take, Nat.min_eq_left hi]
  have e1 : l.flatMap enc = (l.take i).flatMap enc ++ (l.drop i).flatMap enc := by rw [← List.flatMap_append, List.take_append_drop]
  have hiz : i * z ≤ l.length * z := Nat.mul_le_mul_right z hi
  rw [hkl, List.flatMap_append, Nat.add_mul]
  apply List.ext_getElem?
  intro j
  rw [List.getElem?_take]
  by_cases hj : j < i * z
  · rw [if_pos (by omega), List.getElem?_append_left (by omega)]
    have q1 := h3 j hj
    have q2 : (l.flatMap enc)[j]? = ((l.take i).flatMap enc)[j]? := by rw [e1, List.getElem?_append_left (by omega)]
    rw [← q2, ← ht, List.getElem?_take, if_pos (by omega)]
    simpa using q1
  · rw [List.getElem?_append_right (by omega), e2]
    by_cases hj2 : j < i * z + m.length * z
    · rw [if_pos hj2]
      have := h4 (j - i * z) (by omega)
      rw [show i * z + (j - i * z) = j by omega] at this
      simpa using this
    · rw [if_neg hj2, List.getElem?_eq_none (by omega)]
theorem zeroRows_cells (n : Nat) : ∀ u ∈ (Builtin.zeroCells (Value.agg #[.string ⟨#[]⟩, .slice none 0 0, .slice none 0 0]).cells n).toList, u.oneCell' = true := by
  intro u hu
  unfold Builtin.zeroCells at hu
  rw [Array.toList_map, List.mem_map] at hu
  obtain ⟨a, -, rfl⟩ := hu
  rcases (show a % 3 = 0 ∨ a % 3 = 1 ∨ a % 3 = 2 by omega) with e | e | e
  · show ((#[.string ⟨#[]⟩, .slice none 0 0, .slice none 0 0] : Array Value)[a % 3]!).oneCell' = true
    rw [e]; rfl
  · show ((#[.string ⟨#[]⟩, .slice none 0 0, .slice none 0 0] : Array Value)[a % 3]!).oneCell' = true
    rw [e]; rfl
  · show ((#[.string ⟨#[]⟩, .slice none 0 0, .slice none 0 0] : Array Value)[a % 3]!).oneCell' = true
    rw [e]; rfl
set_option maxRecDepth 100000 in
set_option maxHeartbeats 4000000 in
theorem gdelete_any (w : World) (Bk : Nat) (v : Value) (l : List Vt) (h : Slc.Own w Bk 65 3 encV v l) (hn : l.length ≤ 100000) (i j : Nat) (hij : i < j) (hji : j ≤ i + 1) (hj : j ≤ l.length) :
    Calls Tryz.prog 70 #[v, .int .i64 i, .int .i64 j] w fun e w' => ∃ v', e = .returned v' ∧ v'.ownBlock = v.ownBlock ∧ Slc.Own w' Bk 65 3 encV v' (l.take i ++ l.drop j) ∧ w.grownBy w' v.ownBlock := by
  have mixed : Tryz.prog.follows .mixedOrders = true := by kernel_rfl
  obtain ⟨iv, hiv, hiv0, hiv1, hiv2⟩ := info_parts info_ver
  rcases h.2 with ⟨h0, hn0⟩ | ⟨g, c, cur, rfl, hB, hb, hlc, hmx, hcs, ht⟩
  · exact absurd hn0 (by omega)
  obtain ⟨N, hN⟩ : ∃ N, N = l.length := ⟨_, rfl⟩
  have HN := Bx.mk hN
  have hD := h.drew
  obtain ⟨news, hnews⟩ : ∃ news, news = (l.drop j).flatMap encV := ⟨_, rfl⟩
  have hnl : news.length = (N - j) * 3 := by rw [hnews, flat_len encV_ok, List.length_drop, ← hN]
  have hrow : w.drew.heap[g]? = some (.cells cur 65 (0, 0)) := hb
  have s1 := Bx.mk hnl
  have hjc : j ≤ c := by omega
  have hic : i ≤ c := by omega
  obtain ⟨ad, had⟩ : ∃ ad : Addr, ad = if c = j then ⟨g, 0, none⟩ else ⟨g, j * 3, none⟩ := ⟨_, rfl⟩
  have HAD := Bx.mk (show (if c = j then some (⟨g, 0, none⟩ : Addr) else some ⟨g, j * 3, none⟩) = some ad by rw [had]; split <;> rfl)
  have hsrc := Bx.mk (show ∀ r u, news[r]? = some u → w.drew.cell? (ad.add r) = some u from fun r u hr => by
    rw [had]
    by_cases hcj : c = j
    · exfalso
      have h0 : news.length = 0 := by rw [hnl]; omega
      rw [List.eq_nil_of_length_eq_zero h0] at hr
      simp at hr
    rw [if_neg hcj]
    have e1 : l.flatMap encV = (l.take j).flatMap encV ++ (l.drop j).flatMap encV := by rw [← List.flatMap_append, List.take_append_drop]
    have e2 : ((l.take j).flatMap encV).length = j * 3 := by rw [flat_len encV_ok, List.length_take, Nat.min_eq_left hj]
    have h2 : (l.flatMap encV)[j * 3 + r]? = some u := by
      rw [e1, List.getElem?_append_right (by omega), e2, Nat.add_sub_cancel_left, ← hnews]; exact hr
    have h3 := World.ownsRow.cells hD (g := g) rfl (j * 3 + r) u h2
    rw [add_at] at h3 ⊢
    rw [Nat.zero_add] at h3
    exact h3)
  have s2 := Bx.mk (show ∀ u ∈ news, u.oneCell' = true from fun u hu => by
    rw [hnews] at hu
    obtain ⟨x, -, hx⟩ := List.mem_flatMap.1 hu
    exact encV_ok.one x u hx)
  have s3 := Bx.mk (show ∀ r, r < news.length → (w.drew.cell? ⟨g, 0 + i * 3 + r, none⟩).isSome = true ∧ w.drew.frozen? ⟨g, 0 + i * 3 + r, none⟩ = false from fun r hr => by
    refine ⟨?_, frozen_row hrow⟩
    rw [cell_of_row _ _ _ _ _ _ hrow, Array.getElem?_eq_getElem (show 0 + i * 3 + r < cur.size by rw [hcs]; rw [hnl] at hr; omega)]; rfl)
  obtain ⟨W1, hW1⟩ : ∃ W1, W1 = w.drew.setCells g (0 + i * 3) news := ⟨_, rfl⟩
  have hown : Slc.Own W1 Bk 65 3 encV (.slice (some ⟨g, 0, none⟩) (i + (l.drop j).length) c) (l.take i ++ l.drop j) := by
    rw [hW1, hnews, Nat.zero_add]
    exact Own.onto encV_ok hD i (by omega) (l.drop j) (by rw [List.length_drop]; omega)
  have hW := Bx.mk hW1
  have hg1 : w.grownBy W1 (some g) := by
    have h1 := setCells_grown g (0 + i * 3) news w.drew
    rw [← hW1] at h1
    have h0 : w.grownBy w.drew (some g) := ⟨rfl, rfl, rfl, Nat.le_refl _, fun _ _ _ => rfl⟩
    exact grown_same h0 h1
  have hdl : (l.drop j).length = N - j := by rw [List.length_drop, hN]
  rw [hdl] at hown
  obtain ⟨K, hK⟩ : ∃ K, K = i + (N - j) := ⟨_, rfl⟩
  have hKN : K < N := by omega
  have hNK : N ≤ K + 1 := by omega
  have hlK : (l.take i ++ l.drop j).length = K := by rw [List.length_append, hdl, List.length_take]; omega
  rw [← hK] at hown
  have hrow1 : ∃ cur, W1.heap[g]? = some (.cells cur 65 (0, 0)) ∧ cur.size = c * 3 := by
    rcases hown.2 with ⟨h0, -⟩ | ⟨g', cap', cur', hv, -, hb, -, -, hcs, -⟩
    · simp at h0
    · simp only [Value.slice.injEq, Option.some.injEq, Addr.mk.injEq] at hv
      obtain ⟨⟨rfl, -⟩, -, rfl⟩ := hv
      exact ⟨cur', hb, hcs⟩
  obtain ⟨cw, hrw, hrs⟩ := hrow1
  obtain ⟨L, hL⟩ : ∃ L, L = (Builtin.zeroCells (Value.agg #[.string ⟨#[]⟩, .slice none 0 0, .slice none 0 0]).cells (N - K)).toList := ⟨_, rfl⟩
  have hLl : L.length = (N - K) * 3 := by rw [hL]; simp [Builtin.zeroCells, Value.cells]
  have hcl := fun ty => run_clear_rows (P := Tryz.prog) W1 61 65 ty _ und_vers Tryz.zeroValue65 L (N - K) hL.symm (by rw [hL]; exact zeroRows_cells _) g (K * 3) (c - K) (by omega) (fun r hr => by rw [cell_of_row _ _ _ _ _ _ hrw, Array.getElem?_eq_getElem (show K * 3 + r < cw.size by rw [hrs]; rw [hLl] at hr; omega)]; rfl) (fun r hr => frozen_row hrw)
  have HFO := Bx.mk (show Slc.Own (W1.setCells g (K * 3) L) Bk 65 3 encV (.slice (some ⟨g, 0, none⟩) K c) (l.take i ++ l.drop j) by
    have h1 := Own.head encV_ok hown K (by rw [hlK]; exact Nat.le_refl _) L
    rw [List.take_of_length_le (by rw [hlK]; exact Nat.le_refl _)] at h1
    exact h1)
  have HFG := Bx.mk (grown_same hg1 (setCells_grown g (K * 3) L W1))
  have HK := Bx.mk hK
  have hcK : c ≠ K := by omega
  rw [← hN] at hn hj hlc ⊢
  clear h hb ht hN hD hnews hnl hrow hW1 had hg1 hdl hlK hown hrw hrs hL hLl hK
  go_enter Tryz.func70, Tryz.ntmps70
  go_wp2_with fail
  go_region_law_o (refine step_append_room rfl (.tmp 22) (.tmp 25) 61 rfl 65 iv 3 und_vers hiv hiv1 g 0 i c (by simp [Act.eval, Act.put]) ad (N - j) (c - j) news (by simp [Act.eval, Act.put]; exact HAD.out) s1.out hsrc.out s2.out (by omega) s3.out ?_; rw [← hW.out, ← HK.out])
  go_wp2_with fail
  all_goals first
    | (have hcj : c = j := by assumption
       subst hcj
       go_ret
       exact ⟨_, rfl, rfl, HFO.out, HFG.out⟩)
    | (go_ret
       exact ⟨_, rfl, rfl, HFO.out, HFG.out⟩)
end Go.Proofs.YtmagjdocondmhaaGreat.Tr.Gr
