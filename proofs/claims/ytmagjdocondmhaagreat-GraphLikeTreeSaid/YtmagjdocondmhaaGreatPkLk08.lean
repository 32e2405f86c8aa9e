/- packed -/
import Derived.Test.YtmagjdocondmhaaGreatPkLk07
import Derived.Laws.Append
import Derived.Laws.PanicsMore
import Derived.Lib.AppendZeros
import Derived.Lib.SlKeysI
set_option linter.unusedVariables false
set_option linter.unusedSimpArgs false
set_option maxRecDepth 100000
set_option maxHeartbeats 64000000
namespace Go.Proofs.YtmagjdocondmhaaGreat.Tr
open Go Go.RowKit Go.Shelf Go.Sort Slc St Mp Rg
attribute [local go_sem] Oper.semAt_some
def MB (w : World) (b : Nat) (m : List Bool) : Prop := w.heap[b]? = some (.cells (m.map Value.bool).toArray 4 (0, 0))
theorem MB.cell {w : World} {b : Nat} {m : List Bool} (h : MB w b m) (i : Nat) (hi : i < m.length) : w.cell? ⟨b, i, none⟩ = some (.bool m[i]!) := by
 have := cell_of_row _ _ i _ _ _ h;rw [this, getElem!_pos m i hi];simp [hi]
theorem MB.set {w : World} {b : Nat} {m : List Bool} (h : MB w b m) (i : Nat) (x : Bool) : MB (w.setCell ⟨b, i, none⟩ (.bool x)) b (m.set i x) := by
 have := row_set h (i := i) (.bool x);unfold MB;rw [this, List.map_set];simp
theorem MB.rd {w : World} {b c : Nat} {m : List Bool} (h : MB w b m) (hc : m.length <= c) : Rd w encM (.slice (some ⟨b, 0, none⟩) m.length c) m := by
 refine .inr ⟨b, 0, c, rfl, lt_of_some h, hc, fun j u hj => ?_⟩
 have e : m.flatMap encM = m.map Value.bool := by
  clear h hc hj
  induction m with
  | nil => rfl
  | cons x l ih => simp [encM, List.flatMap_cons, ih]
 rw [e] at hj;have := cell_of_row _ _ j _ _ _ h;rw [Nat.zero_add, this];simpa using hj
theorem MB.kept {A W : World} {B0 b : Nat} {m : List Bool} {row : Option Nat} (h : MB A b m) (hg : A.grownBy W row) (hr : ∀ r, row = some r -> B0 <= r /\ ∃ o : Obj, A.heap[r]? = some o /\ o.isCells = false) : MB W b m := cells_kept (B0 := B0) h hg hr
theorem made_marks (n : Nat) : madeCells (Value.bool false).cells (n * 1) = ((List.replicate n false).map Value.bool).toArray := by
 have := toList_madeCells_one (.bool false) n;have e : (Value.bool false).cells = #[.bool false] := rfl;rw [e, Nat.mul_one, List.map_replicate, <- this]
def stepN (D : Int) (m : List Bool) (x : Int × Nt) : List Bool :=
 let m1 := if x.2.n.d = D then m.set x.1.toNat true else m
 if m1[x.1.toNat]! && decide (x.2.n.p >= 0) then m1.set x.2.n.p.toNat true else m1
theorem stepN_length (D : Int) (m : List Bool) (x : Int × Nt) : (stepN D m x).length = m.length := by
 have e : ∀ (m1 : List Bool), m1.length = m.length -> (if m1[x.1.toNat]! && decide (x.2.n.p >= 0) then m1.set x.2.n.p.toNat true else m1).length = m.length := by
  intro m1 h;split
  ·rw [zL]; exact h
  ·exact h
 unfold stepN;refine e _ ?_;split
 ·rw [zL]
 ·rfl
def foldN (D : Int) (N : Nat) (l : List (Int × Nt)) : List Bool := l.foldl (stepN D) (List.replicate N false)
theorem foldN_length (D : Int) (N : Nat) (l : List (Int × Nt)) : (foldN D N l).length = N := by
 have : ∀ (l : List (Int × Nt)) (m : List Bool), (l.foldl (stepN D) m).length = m.length := by
  intro l
  induction l with
  | nil => intro m; rfl
  | cons x l ih => intro m; rw [List.foldl_cons, ih, stepN_length]
 unfold foldN; rw [this, List.length_replicate]
theorem foldN_snoc (D : Int) (N : Nat) (l : List (Int × Nt)) (x : Int × Nt) : foldN D N (l ++ [x]) = stepN D (foldN D N l) x := by unfold foldN; rw [List.foldl_append]; rfl
theorem foldN_bw (l : List Nt) (D : Int) : ∀ k, k <= l.length -> foldN D l.length (bw l k) = pmB (nds l) D k := by
 intro k
 induction k with
 | zero => intro _; simp [foldN, bw, pmB, nds]
 | succ k ih =>
  intro hk;obtain ⟨m, hm⟩ : ∃ m, m + 1 + k = l.length := ⟨l.length - 1 - k, by omega⟩
  have hml : m < l.length := by omega
  rw [bw_succ l k m hm, foldN_snoc, ih (by omega), pmB];have e : (nds l).length - 1 - k = m := by rw [nds_len]; omega
  rw [e];unfold stepN stepM;rw [nds_at l m hml]; rfl
theorem rd_put {α : Type} {enc : α -> List Value} {w : World} {D : Nat} {x : Option (List Deferred)} {o : Obj} {v : Value} {l : List α} (h : Rd w enc v l) (hD : w.heap[D]? = some (.deferred x)) : Rd (w.putObj D o) enc v l := by
 rcases h with h | ⟨b, c, cp, rfl, hlt, hc, hcell⟩
 ·exact .inl h
 ·have hg := grownBy_putObj' w D o;refine .inr ⟨b, c, cp, rfl, by have := hg.size; omega, hc, fun j u hj => ?_⟩;have h1 := hcell j u hj;by_cases e : b = D
  ·subst e;unfold World.cell? at h1;rw [hD] at h1
   cases h1
  ·unfold World.cell? at h1 |-;rw [hg.block b hlt (by simp only [ne_eq, zO]; exact e)];exact h1
theorem TO.put {w : World} {Bk D : Nat} {x : Option (List Deferred)} {o : Obj} {v : Value} {l : List Nt} (h : TO w Bk v l) (hD : w.heap[D]? = some (.deferred x)) : TO (w.putObj D o) Bk v l :=
 ⟨own_kept (B0 := 0) h.own (grownBy_putObj' w D o) (fun r hr => by cases hr; exact ⟨by omega, _, hD, rfl⟩), fun y hy => by
  obtain ⟨⟨h1, h2⟩, h3⟩ := h.nm y hy
  exact ⟨⟨rd_put h1 hD, h2⟩, h3⟩⟩
theorem prune_any (w : World) (v : Value) (l : List Nt) (h : TL w v l) (hn : l.length <= 5000) (hp : ∀ i, i < l.length -> -1 <= (nds l)[i]!.p /\ (nds l)[i]!.p < i) (D : Int) :
  Calls Tryz.prog 84 #[v, .int .i64 D] w fun e w' => ∃ v' l', e = .returned v' /\ TO w' w.heap.size v' l' /\ nds l' = pruneP (nds l) D /\ Below w.heap.size w w' := by
 obtain ⟨ib, hib, hib0, hib1, hib2⟩ := info_parts (show (Tryz.prog.info? 4).map (fun i => (i.zero, i.size, i.bytes)) = some (some (.bool false), 1, 1) by kernel_rfl);obtain ⟨ad, c, rfl, -⟩ := h.rd.form;have HL := Bx.mk h;have HPA := Bx.mk hp
 have HS := Bx.mk (show ∀ (i : Nat) (h : i < l.length), -1 <= (l[i]).n.p /\ (l[i]).n.p < i from fun i hi => by
  have := hp i hi;rw [nds_at l i hi] at this
  exact this)
 clear h hp;obtain ⟨q, hq⟩ : ∃ q, q = w.heap.size := ⟨_, rfl⟩
 have HQ := Bx.mk hq;have hmk := fun W : World => run_makeSlice (P := Tryz.prog) W 75 4 ib (.bool false) Tryz.underlying75 hib hib0 .i64 .i64 (l.length : Nat) (l.length : Nat) (by omega) (by omega) (by rw [Int.toNat_natCast, hib1]; omega) (by rw [hib2]; omega) (by omega)
 simp only [Int.toNat_natCast, hib1, made_marks] at hmk
 obtain ⟨W1, hW1⟩ : ∃ W1, W1 = w.alloc (.cells #[.int .i64 D] 3) := ⟨_, rfl⟩
 obtain ⟨W2, hW2⟩ : ∃ W2, W2 = W1.alloc (.cells ((List.replicate l.length false).map Value.bool).toArray 4) := ⟨_, rfl⟩
 obtain ⟨W3, hW3⟩ : ∃ W3, W3 = W2.alloc (.cells #[.slice (some ⟨q + 1, 0, none⟩) l.length l.length] 75) := ⟨_, rfl⟩
 obtain ⟨W4, hW4⟩ : ∃ W4, W4 = W3.alloc (.cells #[.slice ad l.length c] 54) := ⟨_, rfl⟩
 have s1 : W1.heap.size = q + 1 := by rw [hW1, hq]; simp
 have s2 : W2.heap.size = q + 2 := by rw [hW2]; simp [s1]
 have s3 : W3.heap.size = q + 3 := by rw [hW3]; simp [s2]
 have s4 : W4.heap.size = q + 4 := by rw [hW4]; simp [s3]
 have HR0 := Bx.mk (show W4.heap[q]? = some (.cells #[.int .i64 D] 3 (0, 0)) by rw [hW4, hW3, hW2]; exact alloc_keep (alloc_keep (alloc_keep (by rw [hW1]; exact alloc_at hq))));have HR1 := Bx.mk (show MB W4 (q + 1) (List.replicate l.length false) by unfold MB; rw [hW4, hW3]; exact alloc_keep (alloc_keep (by rw [hW2]; exact alloc_at (by omega))));have HR2 := Bx.mk (show W4.heap[q + 2]? = some (.cells #[.slice (some ⟨q + 1, 0, none⟩) l.length l.length] 75 (0, 0)) by rw [hW4]; exact alloc_keep (by rw [hW3]; exact alloc_at (by omega)));have HR3 := Bx.mk (show W4.heap[q + 3]? = some (.cells #[.slice ad l.length c] 54 (0, 0)) by rw [hW4]; exact alloc_at (by omega))
 have HB0 := Bx.mk (show Below q w W4 by
  rw [hW4, hW3, hW2, hW1]
  exact ((((Below.refl _ _).alloc (by omega) _).alloc (by simp; omega) _).alloc (by simp; omega) _).alloc (by simp; omega) _)
 have HZ := Bx.mk s4;have hbc := fun W => callsIn_wide.1 (backN_in Fence.wide 6 trivial rfl ad l.length c W)
 refine (callsIn_wide (n := 6)).1 (callsIn_of_wp_marks Tryz.func84 rfl trivial (wpIn_wide.2 ?_) rfl);simp only [Tryz.ntmps84, List.size_toArray, List.length_cons, List.length_nil, Nat.reduceAdd, Nat.reduceSub, Array.replicate_succ, Array.replicate_zero, List.push_toArray, List.append_toArray, List.nil_append, List.cons_append]
 go_upto_region 1 with fail
 rw [<- hq, <- hW1];have hmk1 := hmk W1;rw [s1, <- hW2] at hmk1;clear hW1 hmk hq hW2;go_upto_region 2 with fail
 rw [<- hW3];clear hmk1 hW3;go_wp2_with (go_at_call 118; refine (hbc _).mono ?_; rintro e w' ⟨rfl, rfl⟩)
 rw [<- hW4];clear hW4 hbc s1 s2 s3 s4;have b3 := HR3.out;have b3c := cell_of_row _ _ 0 _ _ _ b3;simp only [List.getElem?_toArray, List.getElem?_cons_zero] at b3c
 refine wpIn_wide.1 (rf_H (F := Fence.wide) (n := 6) rfl (by omega) (gf := 135) (lb := #[.pointer (some ⟨q + 3, 0, none⟩)]) rfl trivial (enters_of Tryz.func135 (by kernel_rfl) rfl)
  (backN_stops Fence.wide 5 trivial rfl (by omega) (q + 3) (q + 4) (q + 1) ad c l (by omega) HS.out W4 (by have := HZ.out; omega) (by omega) (by omega) b3c ⟨w, HL.out.rd, by have := HQ.out; omega, by have := HQ.out; omega, HQ.out ▸ HB0.out⟩) (fun h k => h.trans k) (fun W l o o' h1 h2 h3 h4 => KB.of_below (belowK_b (w := W4) (by have := HZ.out; omega) W l o o' h1 h2 h3 h4)) (Below.refl _ _) (fun _ => rfl)
  (fun (pre : List (NtB l.length)) W => (W.heap[q]? = some (.cells #[.int .i64 D] 3 (0, 0)) /\ MB W (q + 1) (foldN D l.length (pre.map (fun y : NtB l.length => y.1))) /\ W.heap[q + 2]? = some (.cells #[.slice (some ⟨q + 1, 0, none⟩) l.length l.length] 75 (0, 0)) /\ W.heap[q + 3]? = some (.cells #[.slice ad l.length c] 54 (0, 0))) /\ Below q w W)
  (fun _ _ _ => False)
  (OwnFrom.and (fun s A B row h hg hr => ⟨cells_kept h.1 hg hr, h.2.1.kept hg hr, cells_kept h.2.2.1 hg hr, cells_kept h.2.2.2 hg hr⟩) (ownFrom_below (by have := HQ.out; omega) (by have := HZ.out; omega)))
  (fun c s A B row h hg hr => h)
  ⟨⟨HR0.out, HR1.out, HR2.out, HR3.out⟩, HB0.out⟩
  (fun a x a' W => ∃ bx : Nat, q + 4 <= bx /\ W.heap[bx]? = some (.cells #[.int .i64 x.1.2.n.d, .int .i64 x.1.2.n.p, .string (bstr x.1.2.n.pol), .slice x.1.2.u.ad x.1.2.u.n x.1.2.u.c] 111 (0, 0)) /\ a' = { tmps := (((a.tmps.setIfInBounds 13 (.int .i64 x.1.1)).setIfInBounds 14 (.agg #[.int .i64 x.1.2.n.d, .int .i64 x.1.2.n.p, .string (bstr x.1.2.n.pol), .slice x.1.2.u.ad x.1.2.u.n x.1.2.u.c])).setIfInBounds 6 (.int .i64 x.1.1)).setIfInBounds 7 (.pointer (some ⟨bx, 0, none⟩)), defers := [] })
  (fun x a' s A B row h hg hr => by obtain ⟨bx, q1, q2, q3⟩ := h; exact ⟨bx, q1, cells_kept q2 hg hr, q3⟩)
  ?assign ?body ?done ?stop)
 case assign =>
  rintro l' pre x W K' ⟨⟨i0, i1, i2, i3⟩, hB⟩ hK;have hsz := lt_of_at i3;unfold nodS
  gi_wp2
  exact hK _ _ ((KeepsOthers.alloc _ _).from _) (KB.of_below ((Below.refl _ W).alloc (by omega) _)) ⟨⟨alloc_keep i0, alloc_keep i1, alloc_keep i2, alloc_keep i3⟩, hB.alloc (by omega) _⟩ ⟨W.heap.size, by omega, heap_alloc_new _ _, rfl⟩
 case body =>
  rintro l' pre x a' W hl' hr ⟨⟨i0, i1, i2, i3⟩, hB⟩ ⟨bx, hbx, hbk, rfl⟩ hlt;obtain ⟨M, hM⟩ : ∃ M, M = foldN D l.length (pre.map (·.1)) := ⟨_, rfl⟩
  have hML : M.length = l.length := by rw [hM, foldN_length]
  have HSN := Bx.mk (show ∀ y : NtB l.length, foldN D l.length ((pre ++ [y]).map (·.1)) = stepN D M y.1 from fun y => by
   rw [List.map_append, List.map_singleton, foldN_snoc, hM])
  rw [<- hM] at i1;obtain ⟨⟨n0, x⟩, hx0, hx1, hx2, hx3⟩ := x;simp only at hx0 hx1 hx2 hx3 hbk
  obtain ⟨k, rfl⟩ : ∃ k : Nat, n0 = (k : Int) := ⟨n0.toNat, by omega⟩
  have hsz := lt_of_at i3;have HI1 := Bx.mk i1;have HM := Bx.mk hML;have HI := Bx.mk (And.intro i0 (And.intro i2 i3));have HB := Bx.mk hB;simp only [List.setIfInBounds_toArray, List.set_cons_succ, List.set_cons_zero]
  have d0 := cell_of_row _ _ 0 _ _ _ i0;have k0 := cell_of_row _ _ 0 _ _ _ hbk;have k1 := cell_of_row _ _ 1 _ _ _ hbk;have e0 := cell_of_row _ _ 0 _ _ _ i2;simp only [List.getElem?_toArray, List.getElem?_cons_zero, List.getElem?_cons_succ] at d0 k0 k1 e0
  have zf := fun i => frozen_row (i := i) i1
  have hkl : k < l.length := by omega
  have hkc := i1.cell k (by omega);have hset : stepN D M ((k : Int), x) = if (if x.n.d = D then M.set k true else M)[k]! && decide (x.n.p >= 0) then (if x.n.d = D then M.set k true else M).set x.n.p.toNat true else (if x.n.d = D then M.set k true else M) := rfl
  have HSET := Bx.mk hset;have hBq := HB.out.size;clear hM hML i0 i2 i3 hB hset i1;by_cases td : x.n.d = D
  ·have tq : (x.n.d == D) = true := by simp [td]
   have hk1 : (M.set k true)[k]! = true := by rw [set_at _ _ _ _ (by have := HM.out; omega), if_pos rfl]
   have HK1 := Bx.mk hk1;have HTD := Bx.mk td;clear hk1 td;by_cases tp : 0 <= x.n.p
   ·obtain ⟨k2, hk2⟩ : ∃ k2 : Nat, x.n.p = (k2 : Int) := ⟨x.n.p.toNat, by omega⟩
    have h12 : k2 < k := (by omega);have hne : ¬ k = k2 := (by omega);have hne' : ¬ k2 = k := (by omega);have hk2l : k2 < l.length := (by omega);have hkc2 := HI1.out.cell k2 (by have := HM.out; omega);have HK2 := Bx.mk hk2;rw [hk2] at k1;have tg : decide ((k2 : Int) >= 0) = true := zT (by omega);clear tp hk2
    gi_wp2
    refine ⟨((KeepsOthers.setCell _ _ _).trans (KeepsOthers.setCell _ _ _)).from _, (KB.set _ _ _ (by omega)).trans (KB.set _ _ _ (by simp; omega)), ⟨row_other (row_other HI.out.1 (by omega) _) (by omega) _, ?_, row_other (row_other HI.out.2.1 (by omega) _) (by omega) _, row_other (row_other HI.out.2.2 (by omega) _) (by omega) _⟩, (HB.out.setCell (by show q <= q + 1; omega) _).setCell (by show q <= q + 1; omega) _⟩;rw [HSN.out, HSET.out, if_pos HTD.out, HK1.out, HK2.out, if_pos (by rw [Bool.true_and, decide_eq_true_eq]; omega), Int.toNat_natCast];exact (HI1.out.set k true).set k2 true
   ·have tg : decide (x.n.p >= 0) = false := zF tp;have HTP := Bx.mk tp;clear tp
    gi_wp2
    refine ⟨(KeepsOthers.setCell _ _ _).from _, KB.set _ _ _ (by omega), ⟨row_other HI.out.1 (by omega) _, ?_, row_other HI.out.2.1 (by omega) _, row_other HI.out.2.2 (by omega) _⟩, HB.out.setCell (by show q <= q + 1; omega) _⟩;rw [HSN.out, HSET.out, if_pos HTD.out, HK1.out, if_neg (by rw [Bool.true_and, decide_eq_true_eq]; have := HTP.out; omega)];exact HI1.out.set k true
  ·have tq : (x.n.d == D) = false := by simp [td]
   have HTD := Bx.mk td;obtain ⟨b, hb⟩ : ∃ b, b = M[k]! := ⟨_, rfl⟩
   rw [<- hb] at hkc;have HBM := Bx.mk hb;clear td hb
   cases b with
   | false =>
    gi_wp2
    refine ⟨KeepsFrom.refl _ _, KB.refl _ _ _, ⟨HI.out.1, ?_, HI.out.2.1, HI.out.2.2⟩, HB.out⟩;rw [HSN.out, HSET.out, if_neg HTD.out, <- HBM.out, if_neg (by simp)]
    exact HI1.out
   | true =>
    by_cases tp : 0 <= x.n.p
    ·obtain ⟨k2, hk2⟩ : ∃ k2 : Nat, x.n.p = (k2 : Int) := ⟨x.n.p.toNat, by omega⟩
     have hk2l : k2 < l.length := (by omega);have hkc2 := HI1.out.cell k2 (by have := HM.out; omega);have HK2 := Bx.mk hk2;rw [hk2] at k1;have tg : decide ((k2 : Int) >= 0) = true := zT (by omega);clear tp hk2
     gi_wp2
     refine ⟨(KeepsOthers.setCell _ _ _).from _, KB.set _ _ _ (by omega), ⟨row_other HI.out.1 (by omega) _, ?_, row_other HI.out.2.1 (by omega) _, row_other HI.out.2.2 (by omega) _⟩, HB.out.setCell (by show q <= q + 1; omega) _⟩;rw [HSN.out, HSET.out, if_neg HTD.out, <- HBM.out, HK2.out, if_pos (by rw [Bool.true_and, decide_eq_true_eq]; omega), Int.toNat_natCast];exact HI1.out.set k2 true
    ·have tg : decide (x.n.p >= 0) = false := zF tp;have HTP := Bx.mk tp;clear tp
     gi_wp2
     refine ⟨KeepsFrom.refl _ _, KB.refl _ _ _, ⟨HI.out.1, ?_, HI.out.2.1, HI.out.2.2⟩, HB.out⟩;rw [HSN.out, HSET.out, if_neg HTD.out, <- HBM.out, if_neg (by rw [Bool.true_and, decide_eq_true_eq]; have := HTP.out; omega)];exact HI1.out
 case done =>
  rintro DD ys W hD hys ⟨⟨i0, i1, i2, i3⟩, hB⟩ hK;rw [hys, foldN_bw l D _ (zR _)] at i1;have hpm : pmB (nds l) D l.length = pruneM (nds l) D := by unfold pruneM; rw [nds_len]
  rw [hpm] at i1;have hml : (pruneM (nds l) D).length = l.length := by unfold pruneM; rw [pmB_length, nds_len]
  have hBw : Below w.heap.size w W := HQ.out ▸ hB;have hrd := i1.rd (c := l.length) (by omega);rw [hml] at hrd;have hcall := keep_any W _ _ l (pruneM (nds l) D) (HL.out.below hBw) hrd hml (by omega) (fun i hi _ => HPA.out i hi);have e0 := cell_of_row _ _ 0 _ _ _ i2;simp only [List.getElem?_toArray, List.getElem?_cons_zero, List.getElem?_cons_succ] at e0
  have HBW := Bx.mk hBw;have HK := Bx.mk hK;have hDlt := lt_of_at hK;clear i0 i1 i2 i3 hB hBw hpm hml hys hrd hK b3 b3c;go_wp2_with (go_at_call 87; refine hcall.mono ?_; rintro e w5 ⟨v5, l5, rfl, ho5, hn5, hb5⟩; obtain ⟨a5, c5, rfl, -⟩ := ho5.own.rd.form)
  have hK5 := (hb5.block DD hDlt).trans HK.out;refine ⟨by simp, .inl ⟨_, _, rfl, run_takeDeferred hK5, ?_⟩⟩;refine ⟨_, results_tmp rfl _ _ _, _, l5, rfl, (ho5.put hK5).mono HBW.out.size, hn5, ?_⟩;exact (HBW.out.trans (hb5.mono HBW.out.size)).trans (belowK_b (w := W4) (by have := HZ.out; have := HQ.out; omega) _ DD _ _ hD hK5 rfl rfl)
 case stop =>
  rintro D c pre W hD hS hF;exact hF.elim
end Go.Proofs.YtmagjdocondmhaaGreat.Tr
namespace Go.Proofs.YtmagjdocondmhaaGreat.Tr
open Go Go.RowKit Slc St Mp
section
variable {P : Program} {α : Type} {enc : α -> List Value} {z : Nat}
theorem run_append_full (w : World) (t ty e : TypeId) (i : TypeInfo) (zv : Value) (bytes : Nat) (E : Enc z enc) (ht : P.underlying t = some (.slice e)) (hi : P.info? e = some i) (hz : i.zero = some zv) (hsize : i.size = z) (hby : i.bytes = bytes) (hzs : zv.cells.size = z)
  (ad : Option Addr) (c0 : Nat) (l m : List α) (mv : Value) (h : Rd w enc (.slice ad l.length c0) l) (hm : Rd w enc mv m) (h63 : l.length + m.length <= maxLen) (hbytes : (l.length + m.length) * bytes <= 140737488355328) :
  ∃ v' w', (Builtin.append_ #[t, t] ty #[.slice ad l.length l.length, mv]).run P w = .ok v' w' /\ Below w.heap.size w w' /\ ((m = [] /\ v' = .slice ad l.length l.length /\ w' = w) \/ (m ≠ [] /\ Slc.Own w' w.heap.size e z enc v' (l ++ m))) := by
 subst hsize hby
 have hmake : ∀ (W : World) (n cap : Nat) (xs : List Value), n = (l ++ m).length -> xs = (l ++ m).flatMap enc -> n <= cap -> cap <= maxLen -> W.heap.size = w.heap.size ->
   Slc.Own (W.alloc (.cells (xs.toArray ++ Builtin.zeroCells zv.cells (cap - n)) e)) w.heap.size e i.size enc (.slice (some ⟨w.heap.size, 0, none⟩) n cap) (l ++ m) := by
  intro W n cap xs hn hx hc hcm hs;subst hn hx;refine ⟨by rw [flat_len E], .inr ⟨w.heap.size, cap, _, rfl, zR _, by rw [<- hs]; exact heap_alloc_new W _, hc, hcm, ?_, ?_⟩⟩
  ·simp only [Array.size_append, List.size_toArray, size_zeroCells, hzs, flat_len E, <- Nat.add_mul]
   congr 1; omega
  ·rw [Array.toList_append, List.take_left' (flat_len E (l ++ m))]
 rcases hm with ⟨rfl, rfl⟩ | ⟨a, o, c, rfl, hlt, hc, hcell⟩
 ·refine ⟨.slice ad l.length l.length, w, ?_, Below.refl _ _, .inl ⟨rfl, rfl, rfl⟩⟩
  cases ad <;> simp [Builtin.append_, run_underlying ht, sizeOf, typeInfo, hi, Builtin.lenOf, Builtin.firstCells, loadCells, loadCellsFrom, go_sem]
 ·by_cases h0 : m = []
  ·subst h0;refine ⟨.slice ad l.length l.length, w, ?_, Below.refl _ _, .inl ⟨rfl, rfl, rfl⟩⟩;rcases h with ⟨h1, rfl⟩ | ⟨b, o', c', h1, h2, h3, h4⟩
   ·simp only [Value.slice.injEq] at h1
    obtain ⟨rfl, -, -⟩ := h1;simp [Builtin.append_, run_underlying ht, sizeOf, typeInfo, hi, Builtin.lenOf, Builtin.firstCells, loadCells, loadCellsFrom, go_sem]
   ·simp only [Value.slice.injEq] at h1
    obtain ⟨rfl, -, -⟩ := h1;simp [Builtin.append_, run_underlying ht, sizeOf, typeInfo, hi, Builtin.lenOf, Builtin.firstCells, loadCells, loadCellsFrom, go_sem]
  ·have hp : 0 < m.length := by
    rcases Nat.eq_zero_or_pos m.length with q | q
    ·exact absurd (List.eq_nil_of_length_eq_zero q) h0
    ·exact q
   have hfm : ∀ j v, (m.flatMap enc)[j]? = some v -> w.cell? ((⟨a, o, none⟩ : Addr).add j) = some v := fun j v hj => by rw [add_at]; exact hcell j v hj
   rcases h with ⟨h1, rfl⟩ | ⟨b, o', c', h1, h2, h3, h4⟩
   ·simp only [Value.slice.injEq] at h1
    obtain ⟨rfl, -, -⟩ := h1;simp only [List.length_nil, Nat.zero_add] at h63 hbytes
    have hr := run_append_nil (P := P) (w := w) t ty e i zv ht hi hz ⟨a, o, none⟩ m.length c (m.flatMap enc) (flat_len E m) hfm hp (by simp only [maxLen] at h63; omega) (by omega);refine ⟨_, _, hr, ⟨rfl, rfl, rfl, by simp, fun k hk => heap_alloc_old w.drew _ hk⟩, .inr ⟨h0, ?_⟩⟩;exact hmake w.drew _ _ _ (by simp) (by simp) (grownCap_ge w m.length 0 e) (grownCap_le_maxLen w m.length 0 e h63) rfl
   ·simp only [Value.slice.injEq] at h1
    obtain ⟨rfl, -, -⟩ := h1;have hr := run_append_grow (P := P) w t ty e i zv ht hi hz ⟨b, o', none⟩ l.length l.length (l.flatMap enc) (flat_len E l) (fun j v hj => by rw [add_at]; exact h4 j v hj) ⟨a, o, none⟩ m.length c (m.flatMap enc) (flat_len E m) hfm (by omega) (by simp only [maxLen] at h63; omega) (growslice_fits (by omega) hbytes);refine ⟨_, _, hr, ⟨rfl, rfl, rfl, by simp, fun k hk => heap_alloc_old w.drew _ hk⟩, .inr ⟨h0, ?_⟩⟩;have := hmake w.drew (l.length + m.length) _ (l.flatMap enc ++ m.flatMap enc) (by simp) (by simp) (grownCap_ge w (l.length + m.length) l.length e) (grownCap_le_maxLen w _ l.length e h63) rfl;simpa using this
end
theorem cut_full (ad : Option Addr) (n c : Nat) (hn : n <= c) (h0 : ad = none -> n = 0) (W : World) : (Instr.slice 54 (.slice ad n c) none (some (.int .i64 (n : Nat))) (some (.int .i64 (n : Nat)))).run Tryz.prog W = .ok (.slice ad n n) W := by
 have h1 : (n : Int) <= (c : Int) := by omega
 rw [run_slice_any W _ _ _ _ und_nodes']
 cases ad <;> simp [Instr.sliceBounds, run_sliceBound, size_nodes, sliced, Result.andThen, go_sem, h1]
theorem sorted_nds {l l' : List Nt} (h1 : Srt ltT (nds l')) (h2 : Stab ltT (nds l) (nds l')) : nds l' = sortT (nds l) := srtL_unique ltT_ord h1 h2
def GrP (w : World) (l m : List Nt) (e : Ending) (w' : World) : Prop :=
 (2048 < l.length + m.length /\ e = .returned (.tuple #[.slice none 0 0, .bool false]) /\ Below w.heap.size w w') \/
 (l.length + m.length <= 2048 /\ ∃ v' l', e = .returned (.tuple #[v', .bool true]) /\ TO w' w.heap.size v' l' /\ nds l' = sortT (nds l ++ nds m) /\ Below w.heap.size w w')
theorem grown_any (w : World) (tv mv : Value) (l m : List Nt) (h : TL w tv l) (hm : TL w mv m) (hn : l.length <= 100000) (hmn : m.length <= 100000) :
  Calls Tryz.prog 83 #[tv, mv] w fun e w' => GrP w l m e w' := by
 obtain ⟨i0, hi0, hz0, hz1, hz2⟩ := info_parts info_node;obtain ⟨ad, c, rfl, hlc⟩ := h.rd.form;obtain ⟨md, mc, rfl, -⟩ := hm.rd.form;obtain ⟨v1, w1, hrun, hb1, hcase⟩ := run_append_full (P := Tryz.prog) w 54 54 111 i0 _ 56 encN_ok und_nodes hi0 hz0 hz1 hz2 rfl ad c l m (.slice md m.length mc) h.rd hm.rd (by unfold maxLen; omega) (by omega)
 have hcut := cut_full ad l.length c hlc (fun e => by
  subst e;rcases h.rd with ⟨h1, rfl⟩ | ⟨b, o, c', h1, -⟩
  ·rfl
  ·simp at h1)
 have HL := Bx.mk h;have HM := Bx.mk hm;have HB1 := Bx.mk hb1;have HN1 := Bx.mk (show nds (l ++ m) = nds l ++ nds m by simp [nds]);unfold GrP;rcases hcase with ⟨hm0, rfl, he⟩ | ⟨hm0, hown⟩
 ·have he' := he.symm;subst he';subst hm0;clear he
  have hT : TL w (.slice ad l.length l.length) l := ⟨by
   rcases h.rd with ⟨h1, rfl⟩ | ⟨b, o, c', h1, h2, h3, h4⟩
   ·simp only [Value.slice.injEq] at h1; obtain ⟨rfl, -, -⟩ := h1; exact .inl ⟨rfl, rfl⟩
   ·simp only [Value.slice.injEq] at h1; obtain ⟨rfl, -, rfl⟩ := h1; exact .inr ⟨b, o, _, rfl, h2, zR _, h4⟩, h.at_⟩
  have hcl := cloneN_any w _ l hT (by omega);simp only [List.length_nil, Nat.add_zero] at hrun |-
  by_cases hl : 2048 < l.length
  ·have t1 : decide ((l.length : Int) > 2048) = true := zT (by omega);clear hcl h hm hb1 hT;go_enter Tryz.func83, Tryz.ntmps83;go_wp2_with (at_builtin; refine Lib.wpList_append_run _ rfl _ _ _ _ rfl _ _ rfl rfl _ _ hrun ?_)
   go_ret2;exact .inl ⟨hl, rfl, Below.refl _ _⟩
  ·have t1 : decide ((l.length : Int) > 2048) = false := zF (by omega);clear h hm hb1 hT;go_enter Tryz.func83, Tryz.ntmps83
   go_wp2_with first
    | (at_builtin; refine Lib.wpList_append_run _ rfl _ _ _ _ rfl _ _ rfl rfl _ _ hrun ?_)
    | fail
   go_at_call 88;refine hcl.mono ?_;rintro e w2 ⟨u, rfl, hto, hb2⟩;have hs := sort_any w2 w.heap.size u l hto (by omega);obtain ⟨ua, uc, rfl, -⟩ := hto.own.rd.form;have HTO := Bx.mk hto;have HB2 := Bx.mk hb2;clear hcl hto hb2 hcut hrun;unfold cmpV at hs;go_wp2_with fail
   go_at_call 116;refine hs.mono ?_;rintro e w3 ⟨rfl, l', ho3, h1, h2, hg3⟩;have HO3 := Bx.mk ho3;have HF := Bx.mk (sorted_nds h1 h2);have HB3 := Bx.mk (HB2.out.grown hg3 HB2.out.size fun k hk => (HTO.out.own.lt k hk).1);clear hs ho3 h1 h2 hg3;go_wp2_with fail
   go_ret2;exact .inr ⟨by omega, _, l', rfl, HO3.out, by simpa [nds] using HF.out, HB3.out⟩
 ·have hto : TO w1 w.heap.size v1 (l ++ m) := ⟨hown, fun x hx => by
   have hx' : NtAt w x := by
    rcases List.mem_append.1 hx with q | q
    ·exact h.at_ x q
    ·exact hm.at_ x q
   exact ((NtIn.of hx').below hb1).mono fun k _ hk e => by have := (hown.lt k e).1; omega⟩
  have hs := sort_any w1 w.heap.size v1 (l ++ m) hto (by simp; omega);obtain ⟨ua, uc, rfl, -⟩ := hto.own.rd.form
  have hmp : 0 < m.length := by
   rcases Nat.eq_zero_or_pos m.length with q | q
   ·exact absurd (List.eq_nil_of_length_eq_zero q) hm0
   ·exact q
  have t2 : decide ((m.length : Int) = 0) = false := zF (by omega);have t3 : ((m.length : Int) == 0) = false := by rw [beq_eq_false_iff_ne]; omega
  have HTO := Bx.mk hto;clear hto hown h hm hb1;rw [List.length_append] at hrun hs;unfold cmpV at hs;by_cases hl : 2048 < l.length + m.length
  ·have t1 : decide (((l.length + m.length : Nat) : Int) > 2048) = true := zT (by omega);have t1' : decide ((l.length : Int) + (m.length : Int) > 2048) = true := zT (by omega);clear hs;go_enter Tryz.func83, Tryz.ntmps83;go_wp2_with (at_builtin; refine Lib.wpList_append_run _ rfl _ _ _ _ rfl _ _ rfl rfl _ _ hrun ?_)
   go_ret2;exact .inl ⟨hl, rfl, HB1.out⟩
  ·have t1 : decide (((l.length + m.length : Nat) : Int) > 2048) = false := zF (by omega);have t1' : decide ((l.length : Int) + (m.length : Int) > 2048) = false := zF (by omega);go_enter Tryz.func83, Tryz.ntmps83
   go_wp2_with first
    | (at_builtin; refine Lib.wpList_append_run _ rfl _ _ _ _ rfl _ _ rfl rfl _ _ hrun ?_)
    | fail
   go_at_call 116;refine hs.mono ?_;rintro e w3 ⟨rfl, l', ho3, h1, h2, hg3⟩;have HO3 := Bx.mk ho3;have HF := Bx.mk (sorted_nds h1 h2);have HB3 := Bx.mk (HB1.out.grown hg3 HB1.out.size fun k hk => (HTO.out.own.lt k (by rw [List.length_append]; exact hk)).1);clear hs ho3 h1 h2 hg3 hrun hcut;go_wp2_with fail
   go_ret2;exact .inr ⟨by omega, _, l', rfl, HO3.out, by rw [HF.out, HN1.out], HB3.out⟩
theorem own_alloc {α : Type} {enc : α -> List Value} {z Bk : Nat} {e : TypeId} (E : Enc z enc) (w : World) (l : List α) (cs : Array Value) (hc : cs.toList = l.flatMap enc) (hB : Bk <= w.heap.size) (hl : l.length <= maxLen) :
  Slc.Own (w.alloc (.cells cs e)) Bk e z enc (.slice (some ⟨w.heap.size, 0, none⟩) l.length l.length) l := by
 have hs : cs.size = l.length * z := by rw [<- Array.length_toList, hc, flat_len E]
 refine ⟨flat_len E l, .inr ⟨w.heap.size, l.length, cs, rfl, hB, heap_alloc_new _ _, zR _, hl, hs, ?_⟩⟩;rw [<- hs, <- hc, <- Array.length_toList, List.take_length]
theorem proot_any (w : World) : Calls Tryz.prog 36 #[] w fun e w' => ∃ v' l', e = .returned v' /\ TO w' w.heap.size v' l' /\ nds l' = [⟨0, -1, anyP, [anyP]⟩] /\ Below w.heap.size w w' := by
 go_enter Tryz.func36, Tryz.ntmps36;go_wp2
 go_ret;obtain ⟨W1, hW1⟩ : ∃ W1, W1 = w.alloc (.cells #[.string ⟨#[50, 46, 53, 46, 50, 57, 46, 51, 50, 46, 48]⟩] 9) := ⟨_, rfl⟩
 have ho1 : Slc.Own W1 w.heap.size 9 1 encS (.slice (some ⟨w.heap.size, 0, none⟩) 1 1) [anyP] := by
  rw [hW1]; exact own_alloc encS_ok w [anyP] _ rfl (zR _) (by unfold maxLen; simp)
 have hs1 : W1.heap.size = w.heap.size + 1 := by rw [hW1]; simp
 have hb1 : Below w.heap.size w W1 := by rw [hW1]; exact (Below.refl _ _).alloc (zR _) _
 rw [<- hW1]
 have ho2 : Slc.Own (W1.alloc (.cells #[.int .i64 0, .int .i64 (-1), .string ⟨#[50, 46, 53, 46, 50, 57, 46, 51, 50, 46, 48]⟩, .slice (some ⟨w.heap.size, 0, none⟩) 1 1] 111)) w.heap.size 111 4 encN (.slice (some ⟨W1.heap.size, 0, none⟩) 1 1) [⟨⟨0, -1, anyP, [anyP]⟩, ⟨some ⟨w.heap.size, 0, none⟩, 1, 1⟩⟩] :=
  own_alloc encN_ok W1 [⟨⟨0, -1, anyP, [anyP]⟩, ⟨some ⟨w.heap.size, 0, none⟩, 1, 1⟩⟩] _ rfl (by omega) (by unfold maxLen; simp)
 rw [hs1] at ho2;refine ⟨_, [⟨⟨0, -1, anyP, [anyP]⟩, ⟨some ⟨w.heap.size, 0, none⟩, 1, 1⟩⟩], rfl, ⟨ho2, fun x hx => ?_⟩, rfl, hb1.alloc (by omega) _⟩;rw [zS] at hx;subst hx;refine ⟨⟨(ho1.below ((Below.refl _ _).alloc (zR _) _)).rd, fun k hk e => ?_⟩, ⟨by simp, fun b hb => ?_⟩, by show 11 <= 1000000; omega⟩
 ·have hk' : some w.heap.size = some k := hk;have he' : some (w.heap.size + 1) = some k := e;rw [<- hk'] at he';simp only [zO] at he'
  omega
 ·rw [zS] at hb;subst hb
  show 11 <= 1000000; omega
end Go.Proofs.YtmagjdocondmhaaGreat.Tr
namespace Go.Proofs.YtmagjdocondmhaaGreat.Tr.Gr
open Go Go.RowKit Slc St Mp Tr
theorem VtIn.and {w : World} {S S' : Nat -> Prop} {x : Vt} (h : VtIn w S x) (h' : VtIn w S' x) : VtIn w (fun k => S k /\ S' k) x := by
 refine ⟨⟨h.1.1, fun k hk => ⟨h.1.2 k hk, h'.1.2 k hk⟩⟩, ?_, h.2.2⟩;rcases h.2.1 with q | q
 ·exact .inl q
 ·rcases h'.2.1 with q' | q'
  ·exact .inl q'
  ·exact .inr ⟨q.1, fun k hk => ⟨q.2 k hk, q'.2 k hk⟩⟩
theorem GB.set {v : Value} {g : List Lv} {i : Nat} {L' : Lv} {k : Nat} (h : GB v (g.set i L') k) : GB v g k \/ L'.s.val.ownBlock = some k := by
 rcases h with h | ⟨L, hL, h⟩
 ·exact .inl (.inl h)
 ·rcases List.mem_or_eq_of_mem_set hL with q | rfl
  ·exact .inl (.inr ⟨L, q, h⟩)
  ·exact .inr h
theorem GO.setL {w : World} {B : Nat} {v : Value} {g : List Lv} (h : GO w B v g) (i : Nat) (hi : i < g.length) (L' : Lv) (hL : Slc.Own w B 65 3 encV L'.s.val L'.vs)
  (hb : ∀ k, L'.s.val.ownBlock = some k -> v.ownBlock ≠ some k /\ ∀ (j : Nat) (hj : j < g.length), j ≠ i -> (g[j]).s.val.ownBlock ≠ some k)
  (ho : ∀ (j : Nat) (hj : j < g.length), j ≠ i -> ∀ x ∈ (g[j]).vs, VtIn w (fun k => L'.s.val.ownBlock ≠ some k) x)
  (hx : ∀ x ∈ L'.vs, VtIn w (fun k => ¬ GB v (g.set i L') k) x) :
  ∃ gb cap, v = .slice (some ⟨gb, 0, none⟩) g.length cap /\ gb < w.heap.size /\ (∀ i, w.frozen? ⟨gb, i, none⟩ = false) /\ GO (w.setCell ⟨gb, i, none⟩ L'.s.val) B v (g.set i L') /\ w.grownBy (w.setCell ⟨gb, i, none⟩ L'.s.val) (some gb) := by
 obtain ⟨gb, cap, hv, hB, hlt, hfr, hown, hgr⟩ := h.own.set1 encL_ok i 0 hi (by omega) L'.s.val L' rfl;rw [Nat.mul_one, Nat.add_zero] at hown hgr;have hvb : v.ownBlock = some gb := by rw [hv]; rfl
 refine ⟨gb, cap, hv, hlt, hfr, ⟨hown, fun L hL' => ?_, ?_, ?_, ?_⟩, hgr⟩
 ·rcases List.mem_or_eq_of_mem_set hL' with q | rfl
  ·exact (h.lv L q).keep fun k hk hkl => hgr.block k hkl (by simp only [ne_eq, zO]; rintro rfl; exact h.ao L q k hk hvb)
  ·exact hL.keep fun k hk hkl => hgr.block k hkl (by simp only [ne_eq, zO]; rintro rfl; exact (hb k hk).1 hvb)
 ·intro a b ha hb' hab k hk;rw [zL] at ha hb';rw [List.getElem_set] at hk |-;by_cases e1 : i = a
  ·rw [if_pos e1] at hk;rw [if_neg (by omega)];exact (hb k hk).2 b hb' (by omega)
  ·rw [if_neg e1] at hk;by_cases e2 : i = b
   ·rw [if_pos e2];exact fun q => (hb k q).2 a ha (fun e => e1 e.symm) hk
   ·rw [if_neg e2]; exact h.ap a b ha hb' hab k hk
 ·intro L hL' k hk;rcases List.mem_or_eq_of_mem_set hL' with q | rfl
  ·exact h.ao L q k hk
  ·exact (hb k hk).1
 ·intro L hL' x hxm;have hfrm : Fr (fun k => ¬ (k ≠ gb)) w (w.setCell ⟨gb, i, none⟩ L'.s.val) := Fr.of_grown hgr fun k hk => by simp only [zO] at hk; simp [hk]
  have step : ∀ y, VtIn w (fun k => ¬ GB v (g.set i L') k) y -> VtIn (w.setCell ⟨gb, i, none⟩ L'.s.val) (fun k => ¬ GB v (g.set i L') k) y := fun y hy =>
   hy.keep hgr.size fun k hk hkl => hgr.block k hkl (by simp only [ne_eq, zO]; rintro rfl; exact hk (.inl hvb))
  apply step
  obtain ⟨j, hj, rfl⟩ := List.getElem_of_mem hL';rw [zL] at hj;rw [List.getElem_set] at hxm;by_cases e : i = j
  ·rw [if_pos e] at hxm; exact hx x hxm
  ·rw [if_neg e] at hxm;have h1 := h.nm _ (zM hj) x hxm;have h2 := ho j hj (fun q => e q.symm) x hxm
   exact (h1.and h2).mono fun k _ hk hn => by
    rcases GB.set hn with q | q
    ·exact hk.1 q
    ·exact hk.2 q
theorem GB.same {v : Value} {g : List Lv} {i : Nat} (hi : i < g.length) (vs : List Vt) {k : Nat} : GB v (g.set i ⟨vs, (g[i]).s⟩) k ↔ GB v g k := by
 constructor
 ·intro h;rcases GB.set h with q | q
  ·exact q
  ·exact .inr ⟨_, zM hi, q⟩
 ·rintro (h | ⟨L, hL, h⟩)
  ·exact .inl h
  ·obtain ⟨j, hj, rfl⟩ := List.getElem_of_mem hL;by_cases e : i = j
   ·subst e;exact .inr ⟨⟨vs, (g[i]).s⟩, List.mem_iff_getElem.2 ⟨i, by simpa using hj, by simp⟩, h⟩
   ·exact .inr ⟨g[j], List.mem_iff_getElem.2 ⟨j, by simpa using hj, by simp [List.getElem_set, e]⟩, h⟩
theorem GO.setV {w : World} {B : Nat} {v : Value} {g : List Lv} (h : GO w B v g) (i : Nat) (hi : i < g.length) (j : Nat) (hj : j < (g[i]).vs.length) (o : Nat) (ho : o < 3) (u : Value) (x' : Vt) (he : encV x' = (encV ((g[i]).vs[j])).set o u)
  (hx : VtIn w (fun k => ¬ GB v g k) x') :
  ∃ nb cap, (g[i]).s.val = .slice (some ⟨nb, 0, none⟩) (g[i]).vs.length cap /\ nb < w.heap.size /\ (∀ i, w.frozen? ⟨nb, i, none⟩ = false) /\ GO (w.setCell ⟨nb, j * 3 + o, none⟩ u) B v (g.set i ⟨(g[i]).vs.set j x', (g[i]).s⟩) /\ w.grownBy (w.setCell ⟨nb, j * 3 + o, none⟩ u) (some nb) := by
 obtain ⟨nb, cap, hv, hB, hlt, hfr, hown, hgr⟩ := (h.lv _ (zM hi)).set1 encV_ok j o hj ho u x' he;have hnb : (g[i]).s.val.ownBlock = some nb := by rw [hv]; rfl
 have hGB : GB v g nb := .inr ⟨_, zM hi, hnb⟩;refine ⟨nb, cap, hv, hlt, hfr, ⟨?_, fun L hL' => ?_, ?_, ?_, ?_⟩, hgr⟩
 ·have h1 := h.own.keep (w' := w.setCell ⟨nb, j * 3 + o, none⟩ u) fun k hk hkl => hgr.block k hkl (by simp only [ne_eq, zO]; rintro rfl; exact h.ao _ (zM hi) k hnb hk)
  have e : (g.set i ⟨(g[i]).vs.set j x', (g[i]).s⟩).flatMap encL = g.flatMap encL := by
   have := flat_set encL_ok (⟨(g[i]).vs.set j x', (g[i]).s⟩ : Lv) (g[i]).s.val 0 (by omega) g i hi rfl;rw [this, Nat.mul_one, Nat.add_zero];apply List.ext_getElem?
   intro q;rw [List.getElem?_set];by_cases eq : i = q
   ·subst eq;have hl : i < (g.flatMap encL).length := (by rw [flat_len encL_ok]; omega);rw [if_pos rfl, if_pos hl];have := flat_at encL_ok g i 0 hi (by omega);rw [Nat.mul_one, Nat.add_zero] at this;rw [this]; rfl
   ·rw [if_neg eq]
  unfold Slc.Own at h1 |-;rw [zL, e]; exact h1
 ·obtain ⟨q, hq, rfl⟩ := List.getElem_of_mem hL';rw [zL] at hq;rw [List.getElem_set];by_cases e : i = q
  ·subst e; rw [if_pos rfl]; exact hown
  ·rw [if_neg e];exact (h.lv _ (zM hq)).keep fun k hk hkl => hgr.block k hkl (by simp only [ne_eq, zO]; rintro rfl; exact h.ap i q hi hq e k hnb hk)
 ·intro a b ha hb' hab k hk;rw [zL] at ha hb'
  have e1 : ∀ (q : Nat) (hq : q < g.length), ((g.set i ⟨(g[i]).vs.set j x', (g[i]).s⟩)[q]'(by simpa using hq)).s = (g[q]).s := by
   intro q hq;rw [List.getElem_set];split
   ·rename_i e; subst e; rfl
   ·rfl
  rw [e1 a ha] at hk;rw [e1 b hb'];exact h.ap a b ha hb' hab k hk
 ·intro L hL' k hk;rcases List.mem_or_eq_of_mem_set hL' with q | rfl
  ·exact h.ao L q k hk
  ·exact h.ao _ (zM hi) k hk
 ·intro L hL' x hxm
  have step : ∀ y, VtIn w (fun k => ¬ GB v g k) y -> VtIn (w.setCell ⟨nb, j * 3 + o, none⟩ u) (fun k => ¬ GB v (g.set i ⟨(g[i]).vs.set j x', (g[i]).s⟩) k) y := fun y hy =>
   (hy.keep hgr.size fun k hk hkl => hgr.block k hkl (by simp only [ne_eq, zO]; rintro rfl; exact hk hGB)).mono fun k _ hk hn => hk ((GB.same hi _).1 hn)
  apply step
  rcases List.mem_or_eq_of_mem_set hL' with q | rfl
  ·exact h.nm L q x hxm
  ·rcases List.mem_or_eq_of_mem_set hxm with q | rfl
   ·exact h.nm _ (zM hi) x q
   ·exact hx
theorem GO.cellL {w : World} {B : Nat} {ad : Option Addr} {n c : Nat} {g : List Lv} (h : GO w B (.slice ad n c) g) (i : Nat) (hi : i < g.length) : ∃ gb, ad = some ⟨gb, 0, none⟩ /\ w.cell? ⟨gb, i, none⟩ = some (g[i]).s.val /\ (∀ j, w.frozen? ⟨gb, j, none⟩ = false) := by
 obtain ⟨gb, cap, hv, -, -, hfr, -, -⟩ := h.own.set1 encL_ok i 0 hi (by omega) (g[i]).s.val (g[i]) rfl;simp only [Value.slice.injEq] at hv
 obtain ⟨rfl, rfl, rfl⟩ := hv;have := h.own.cell encL_ok i hi 0 (by omega) _ rfl;rw [Nat.mul_one, Nat.add_zero] at this;exact ⟨gb, rfl, this, hfr⟩
end Go.Proofs.YtmagjdocondmhaaGreat.Tr.Gr
namespace Go.Proofs.YtmagjdocondmhaaGreat.Mp
open Go Go.RowKit Go.Maps Go.ChangeMaps Go.MapKept
section
variable {P : Program} {kt e t : TypeId} {K γ : Type} {ed : γ -> DW} {Y : Ky P kt K} {R : Value -> Option (DW × List MemPlace)} {w : World} {b n : Nat} {f : K -> Option γ}
theorem OwnF.clearM (h : OwnF w Y R ed b n f) (ht : P.underlying t = some (.map kt e)) : ∃ w', (∀ ty, (Builtin.clear_ #[t] ty #[.map (some b)]).run P w = .ok (.tuple #[]) w') /\ OwnF w' Y R ed b 0 (fun _ => none) /\ w.grownBy w' (some b) := by
 obtain ⟨D, ⟨es, clock, hb, F, hs, hD⟩, hf⟩ := h;refine ⟨setBlock w b (.map #[] clock), fun ty => ?_, ⟨.map [], ⟨#[], clock, heap_setBlock_same hb _, ⟨by simp, stamped_empty clock, by simp⟩, zR _, rfl⟩, IsF.empty Y ed⟩, ⟨rfl, rfl, rfl, by simp [setBlock], fun i _ hi => heap_setBlock_other hb _ (fun e => hi (by rw [e]))⟩⟩;simp [Builtin.clear_, run_underlying ht, MapKept.run_getObj_map hb, MapKept.run_setObj_map _ hb, Result.andThen, setBlock]
end
section
variable {P : Program} {kt e t : TypeId} {γ : Type} {ed : γ -> DW} {R : Value -> Option (DW × List MemPlace)} {w : World} {b n : Nat}
theorem OwnF.lenI {hk : P.underlying kt = some (.int .i64)} {f : Int -> Option γ} (h : OwnF w (kyInt hk) R ed b n f) (ht : P.underlying t = some (.map kt e)) (ks : List Int) (hn : ks.Nodup) (hm : ∀ k, k ∈ ks ↔ (f k).isSome = true) (ty : TypeId) :
  (Builtin.len_ #[t] ty #[.map (some b)]).run P w = .ok (.int .i64 ks.length) w := by
 obtain ⟨D, hown, hf⟩ := h;rw [hown.len ht ty]
 have hp : ks.Perm (intKeys D) := CollectedI.perm (left := fun _ => false) ⟨hn, fun x => by
  have h1 : Maps.has D (.int .i64 x) = (f x).isSome := hf.has_ x
  rw [h1, hm]; simp⟩ hown (int_keyed hk) hk fun _ => rfl
 have : ks.length = Maps.size D := by
  rw [hp.length_eq];obtain ⟨es, clock, -, -, -, rfl⟩ := hown;simp [intKeys, Maps.size]
 rw [this]
end
end Go.Proofs.YtmagjdocondmhaaGreat.Mp
namespace Go.Proofs.YtmagjdocondmhaaGreat.Tr.Gr
open Go Go.RowKit Slc St Mp Tr
attribute [local go_sem] Oper.semAt_some
def Vx.Oq (n : Vx) : Prop := Few n.ex /\ n.pol.length <= 1000000 /\ n.par.length <= 100000
def VqAt (w : World) (x : Vt) : Prop := Rq w x.u.val x.n.ex /\ Ri w x.q.val x.n.par /\ Vx.Oq x.n
theorem VqAt.below {w w' : World} {x : Vt} (h : VqAt w x) (hb : Below w.heap.size w w') : VqAt w' x := ⟨h.1.below hb, h.2.1.below hb, h.2.2⟩
theorem VtAt.q {w : World} {x : Vt} (h : VtAt w x) : VqAt w x := ⟨.inr h.1.1, h.2.1, h.2.2.1, h.2.2.2.1, h.2.2.2.2.1⟩
structure VQ (w : World) (v : Value) (l : List Vt) : Prop where
 rd : RqIn w (fun k => k < w.heap.size) encV v l
 at_ : ∀ x ∈ l, VqAt w x
theorem VQ.below {w w' : World} {v : Value} {l : List Vt} (h : VQ w v l) (hb : Below w.heap.size w w') : VQ w' v l := ⟨(h.rd.below hb).all, fun x hx => (h.at_ x hx).below hb⟩
theorem VL.q {w : World} {v : Value} {l : List Vt} (h : VL w v l) : VQ w v l := ⟨.inr ⟨h.rd, h.rd.lt⟩, fun x hx => (h.at_ x hx).q⟩
theorem VQ.at3 {w : World} {ad : Option Addr} {n c : Nat} {l : List Vt} (h : VQ w (.slice ad n c) l) (W : World) (hW : Below w.heap.size w W) (k : Nat) (hk : k < l.length) : ∃ b o, ad = some ⟨b, o, none⟩ /\ b < w.heap.size /\ W.cell? ⟨b, o + k * 3, none⟩ = some (.string (bstr (l[k]).n.pol)) /\ W.cell? ⟨b, o + k * 3 + 1, none⟩ = some (l[k]).u.val /\ W.cell? ⟨b, o + k * 3 + 2, none⟩ = some (l[k]).q.val :=
 (vs_cells (h.rd.rd (by omega))).2 W (fun k hk _ => hW.block k hk) k hk
structure GQ (w : World) (v : Value) (g : List Lv) : Prop where
 rd : Rd w encL v g
 lv : ∀ L ∈ g, VQ w L.s.val L.vs
theorem GQ.below {w w' : World} {v : Value} {g : List Lv} (h : GQ w v g) (hb : Below w.heap.size w w') : GQ w' v g := ⟨h.rd.below hb, fun L hL => (h.lv L hL).below hb⟩
theorem GL.q {w : World} {v : Value} {g : List Lv} (h : GL w v g) : GQ w v g := ⟨h.rd, fun L hL => (h.lv L hL).q⟩
theorem GQ.at1 {w : World} {ad : Option Addr} {n c : Nat} {g : List Lv} (h : GQ w (.slice ad n c) g) (W : World) (hW : Below w.heap.size w W) (k : Nat) (hk : k < g.length) : ∃ b o, ad = some ⟨b, o, none⟩ /\ b < w.heap.size /\ W.cell? ⟨b, o + k, none⟩ = some (g[k]).s.val :=
 (ls_cells h.rd).2 W (fun k hk _ => hW.block k hk) k hk
def badV (v : Vx) (n : Nat) : Bool := !ascB v.ex || (!ascI v.par || (decide (v.par[0]! < 0) || decide (v.par[v.par.length - 1]! >= (n : Int))))
def gfitB (v : Vx) (ab : List Vx) : Bool := !badV v ab.length && (if specV v then decide (v.par.length = 1) && (specV (ab[(v.par[0]!).toNat]!) && onlyB v.ex) else !decide (anyP ∈ v.ex))
theorem ascI_pos {l : List Int} (h : ascI l = true) : 0 < l.length := by
 unfold ascI at h;rw [Bool.and_eq_true] at h
 cases l with
 | nil => simp at h
 | cons a b => simp
theorem par_in {l : List Int} {n : Nat} (ha : ascI l = true) (h0 : ¬ l[0]! < 0) (h1 : ¬ l[l.length - 1]! >= (n : Int)) : ∀ p ∈ l, 0 <= p /\ p < (n : Int) := by
 have hp := ascI_pos ha;unfold ascI at ha;simp only [Bool.and_eq_true, decide_eq_true_eq] at ha
 have hs := List.pairwise_iff_getElem.1 ha.1;rw [getElem!_pos l 0 hp] at h0;rw [getElem!_pos l _ (by omega)] at h1;intro p hm;obtain ⟨i, hi, rfl⟩ := List.getElem_of_mem hm;constructor
 ·rcases Nat.eq_zero_or_pos i with e | e
  ·subst e; omega
  ·have := hs 0 i hp hi e; omega
 ·rcases Nat.lt_or_ge i (l.length - 1) with e | e
  ·have := hs i (l.length - 1) hi (by omega) e; omega
  ·have : i = l.length - 1 := by omega
   subst this; omega
theorem gfits_any (w : World) (x : Vt) (av : Value) (ab : List Vt) (hx : VqAt w x) (ha : VQ w av ab) (hn : ab.length <= 100000) :
  Calls Tryz.prog 43 #[verV x, av] w fun e w' => e = .returned (.bool (gfitB x.n (vxs ab))) /\ Below w.heap.size w w' := by
 obtain ⟨ad, c, rfl, -⟩ := ha.rd.form;have HA := Bx.mk ha.at3;obtain ⟨R, hR⟩ : ∃ R, R = gfitB x.n (vxs ab) := ⟨_, rfl⟩
 rw [<- hR];unfold gfitB badV at hR;rw [vxs_len] at hR;have HR := Bx.mk hR;have HXS := Bx.mk (show ∀ k (hk : k < ab.length), (vxs ab)[k]! = (ab[k]).n from fun k hk => vxs_at ab k hk);obtain ⟨N, hN⟩ : ∃ N, N = ab.length := ⟨_, rfl⟩
 have HN := Bx.mk hN;rw [<- hN] at hn |-;rw [<- HN.out] at HR;have hX := hx;obtain ⟨hex, hpar, hok⟩ := hx;have HEX := Bx.mk (fun (W : World) (hW : Below w.heap.size w W) => hex.below hW);have HPA := Bx.mk (fun (W : World) (hW : Below w.heap.size w W) => hpar.below hW);have HOK := Bx.mk hok;have hsp := fun W => gspec_any x W
 unfold verV at hsp |-;obtain ⟨pa, pc, hpq, -⟩ := RqIn.form hpar;obtain ⟨ua, uc, hup, -⟩ := hex.form;rw [hpq] at HPA hsp |-;rw [hup] at HEX hsp |-;have HPC := Bx.mk (Ri.cells (hpq ▸ hpar));obtain ⟨PN, hPN⟩ : ∃ PN, PN = x.n.par.length := ⟨_, rfl⟩
 have HPN := Bx.mk hPN;have hPb : PN <= 100000 := by rw [hPN]; exact hok.2.2
 obtain ⟨UN, hUN⟩ : ∃ UN, UN = x.n.ex.length := ⟨_, rfl⟩
 have HUN := Bx.mk hUN;rw [<- hPN] at HPA hsp |-;rw [<- hUN] at HEX hsp |-;obtain ⟨W0, hW0⟩ : ∃ W0, W0 = w.alloc (.cells #[.string (bstr x.n.pol), .slice ua UN uc, .slice pa PN pc] 65) := ⟨_, rfl⟩
 have HB0 := Bx.mk (show Below w.heap.size w W0 by rw [hW0]; exact (Below.refl _ _).alloc (zR _) _);have HR0 := Bx.mk (show W0.heap[w.heap.size]? = some (.cells #[.string (bstr x.n.pol), .slice ua UN uc, .slice pa PN pc] 65 (0, 0)) by rw [hW0]; exact heap_alloc_new _ _);obtain ⟨q, hq⟩ : ∃ q, q = w.heap.size := ⟨_, rfl⟩
 have HC0 := Bx.mk (show ∀ W, Below W0.heap.size W0 W -> W.cell? ⟨q, 0, none⟩ = some (.string (bstr x.n.pol)) /\ W.cell? ⟨q, 1, none⟩ = some (.slice ua UN uc) /\ W.cell? ⟨q, 2, none⟩ = some (.slice pa PN pc) by
  intro W hW;have hr := (hW.block _ (lt_of_some HR0.out)).trans HR0.out;rw [hq];have m0 := cell_of_row _ _ 0 _ _ _ hr;have m1 := cell_of_row _ _ 1 _ _ _ hr;have m2 := cell_of_row _ _ 2 _ _ _ hr;simp only [List.getElem?_toArray, List.getElem?_cons_zero, List.getElem?_cons_succ] at m0 m1 m2
  exact ⟨m0, m1, m2⟩)
 have FIN := Bx.mk (show ∀ W, Below W0.heap.size W0 W -> Below w.heap.size w W from fun W hW => HB0.out.trans (hW.mono HB0.out.size));clear ha hR hN hX hex hpar hok hpq hup hPN hUN;have HSP := Bx.mk hsp;clear hsp;obtain ⟨c0, c1, c2⟩ := HC0.out W0 (Below.refl _ _);have hc := gascS_q W0 _ x.n.ex (HEX.out W0 HB0.out) (by have := HOK.out.1.1; omega);obtain ⟨A, hA⟩ : ∃ A, A = ascB x.n.ex := ⟨_, rfl⟩
 rw [<- hA] at hc HR;have HAA := Bx.mk hA;clear hA;generalize bstr x.n.pol = S at *;go_enter Tryz.func43, Tryz.ntmps43;go_upto_region 1 with fail
 rw [<- hW0, <- hq];clear hW0 hq;go_wp2_with fail
 go_at_call 91;refine hc.mono ?_;rintro e w1 ⟨rfl, hb1⟩;have HB1 := Bx.mk hb1;clear hc hb1 c0 c1 c2;obtain ⟨c0, c1, c2⟩ := HC0.out w1 HB1.out
 cases A with
 | false =>
  have HF := Bx.mk (show R = false by rw [HR.out]; rfl);go_wp2_with fail
  go_ret
  exact ⟨by rw [HF.out]; rfl, FIN.out _ HB1.out⟩
 | true =>
 have hc := gascI_any w1 _ x.n.par (HPA.out w1 (FIN.out _ HB1.out)) (by have := HPN.out; omega);obtain ⟨A2, hA2⟩ : ∃ A, A = ascI x.n.par := ⟨_, rfl⟩
 rw [<- hA2] at hc HR;have HA2 := Bx.mk hA2;clear hA2;go_wp2_with fail
 go_at_call 92;refine hc.mono ?_;rintro e w2 ⟨rfl, hb2⟩;have HB2 := Bx.mk (HB1.out.trans (hb2.mono HB1.out.size));clear hc hb2 c0 c1 c2;obtain ⟨c0, c1, c2⟩ := HC0.out w2 HB2.out
 cases A2 with
 | false =>
  have HF := Bx.mk (show R = false by rw [HR.out]; rfl);go_wp2_with fail
  go_ret
  exact ⟨by rw [HF.out]; rfl, FIN.out _ HB2.out⟩
 | true =>
 have hpos : 0 < PN := by rw [HPN.out]; exact ascI_pos HA2.out.symm
 obtain ⟨b, o, rfl, hbl, d0⟩ := HPC.out w2 (FIN.out _ HB2.out) 0 (by rw [<- HPN.out]; exact hpos);obtain ⟨b', o', hbo, -, d1⟩ := HPC.out w2 (FIN.out _ HB2.out) (PN - 1) (by rw [<- HPN.out]; omega);simp only [zO, Addr.mk.injEq, and_true] at hbo
 obtain ⟨rfl, rfl⟩ := hbo;have e0 : x.n.par[0]! = x.n.par[0]'(by rw [<- HPN.out]; exact hpos) := getElem!_pos _ _ _;have e1 : x.n.par[PN - 1]! = x.n.par[PN - 1]'(by rw [<- HPN.out]; omega) := getElem!_pos _ _ _;rw [<- e0] at d0;rw [<- e1] at d1;rw [<- HPN.out] at HR;simp only [Nat.add_zero] at d0
 obtain ⟨P0, hP0⟩ : ∃ P0, P0 = x.n.par[0]! := ⟨_, rfl⟩
 obtain ⟨P1, hP1⟩ : ∃ P1, P1 = x.n.par[PN - 1]! := ⟨_, rfl⟩
 rw [<- hP0] at d0 HR;rw [<- hP1] at d1 HR;have HP0 := Bx.mk hP0;have HP1 := Bx.mk hP1;clear e0 e1 hP0 hP1 hbl;have w1' : IntKind.i64.wrap ((PN : Int) - 1) = ((PN - 1 : Nat) : Int) := by rw [IntWalk.i64_in _ (by omega)]; omega
 have w2' : (PN : Int) - 1 = ((PN - 1 : Nat) : Int) := by omega
 have w3' : ((PN : Int) - 1).toNat = PN - 1 := by omega
 have w4' : 0 <= (PN : Int) - 1 /\ (PN : Int) - 1 < PN := by omega
 by_cases hlo : P0 < 0
 ·have t1 : decide (P0 < 0) = true := zT hlo;have HF := Bx.mk (show R = false by rw [HR.out, t1]; rfl);go_wp2_with fail
  go_ret;exact ⟨by rw [HF.out]; rfl, FIN.out _ HB2.out⟩
 have t1 : decide (P0 < 0) = false := zF hlo;by_cases hhi : P1 >= (N : Int)
 ·have t2 : decide (P1 >= (N : Int)) = true := zT hhi;have HF := Bx.mk (show R = false by rw [HR.out, t1, t2]; rfl);go_wp2_with fail
  go_ret;exact ⟨by rw [HF.out]; rfl, FIN.out _ HB2.out⟩
 have t2 : decide (P1 >= (N : Int)) = false := zF hhi;have HRR := Bx.mk (show R = (if specV x.n then decide (PN = 1) && (specV ((vxs ab)[P0.toNat]!) && onlyB x.n.ex) else !decide (anyP ∈ x.n.ex)) by rw [HR.out, t1, t2]; rfl);have HIN := Bx.mk (par_in HA2.out.symm (by rw [<- HP0.out]; exact hlo) (by rw [<- HPN.out, <- HP1.out]; exact hhi));have hsp := HSP.out w2;obtain ⟨SP, hSP⟩ : ∃ s, s = specV x.n := ⟨_, rfl⟩
 rw [<- hSP] at hsp HRR;clear hSP;go_wp2_with fail
 go_at_call 41;refine hsp.mono ?_;rintro e w3 ⟨rfl, hb3⟩;have HB3 := Bx.mk (HB2.out.trans (hb3.mono HB2.out.size));clear hsp hb3 c0 c1 c2 d0 d1;obtain ⟨c0, c1, c2⟩ := HC0.out w3 HB3.out
 cases SP with
 | false =>
  have hcn := contains_q w3 _ x.n.ex anyP (HEX.out w3 (FIN.out _ HB3.out)) (by have := HOK.out.1.1; omega);rw [anyP_str] at hcn;go_wp2_with fail
  go_at_call 48;refine hcn.mono ?_;rintro e w4 ⟨rfl, rfl⟩;clear hcn;go_wp2_with fail
  go_ret
  exact ⟨by rw [HRR.out]; rfl, FIN.out _ HB3.out⟩
 | true =>
  by_cases hone : PN = 1
  ·have h0N : 0 <= P0 /\ P0 < (N : Int) := HIN.out P0 (by
    rw [HP0.out, getElem!_pos _ 0 (by rw [<- HPN.out]; exact hpos)]
    exact zM _)
   obtain ⟨pp, rfl⟩ : ∃ pp : Nat, P0 = (pp : Int) := ⟨P0.toNat, by omega⟩
   have hpp : pp < N := by omega
   obtain ⟨b2, o2, rfl, -, a0, a1, a2⟩ := HA.out w3 (FIN.out _ HB3.out) pp (by rw [<- HN.out]; exact hpp);have HAX := Bx.mk (HXS.out pp (by rw [<- HN.out]; exact hpp));obtain ⟨y, hy⟩ : ∃ y, y = ab[pp]'(by rw [<- HN.out]; exact hpp) := ⟨_, rfl⟩
   rw [<- hy] at a0 a1 a2 HAX;have hsy := gspec_any y w3;unfold verV at hsy;simp only [Sl.val] at a1 a2 hsy
   obtain ⟨SY, hSY⟩ : ∃ s, s = specV y.n := ⟨_, rfl⟩
   rw [<- hSY] at hsy;have d0 := (HPC.out w3 (FIN.out _ HB3.out) 0 (by rw [<- HPN.out]; exact hpos));obtain ⟨b3, o3, hbo, -, d0⟩ := d0;simp only [zO, Addr.mk.injEq, and_true] at hbo
   obtain ⟨rfl, rfl⟩ := hbo;rw [<- getElem!_pos x.n.par 0 (by rw [<- HPN.out]; exact hpos), <- HP0.out, Nat.add_zero] at d0;have t3 : ((PN : Int) == 1) = true := by simp; omega
   have t4 : ((PN : Int) = 1) = True := by simp; omega
   have HRS := Bx.mk (show R = (SY && onlyB x.n.ex) by
    have : (vxs ab)[((pp : Nat) : Int).toNat]! = y.n := HAX.out
    rw [HRR.out, if_pos rfl, zT hone, Bool.true_and, this, hSY])
   clear hy hSY w1' w2' w3' w4' hone;go_wp2_with fail
   go_at_call 41;refine hsy.mono ?_;rintro e w4 ⟨rfl, hb4⟩;have HB4 := Bx.mk (HB3.out.trans (hb4.mono HB3.out.size));clear hsy hb4 c0 c1 c2 d0 a0 a1 a2;obtain ⟨c0, c1, c2⟩ := HC0.out w4 HB4.out
   cases SY with
   | false =>
    have HF := Bx.mk (show R = false by rw [HRS.out]; rfl);go_wp2_with fail
    go_ret
    exact ⟨by rw [HF.out]; rfl, FIN.out _ HB4.out⟩
   | true =>
    have hon := gonly_q w4 _ x.n.ex (HEX.out w4 (FIN.out _ HB4.out));have HF := Bx.mk (show R = onlyB x.n.ex by rw [HRS.out]; rfl);go_wp2_with fail
    go_at_call 42;refine hon.mono ?_;rintro e w5 ⟨rfl, rfl⟩;clear hon;go_wp2_with fail
    go_ret;exact ⟨by rw [HF.out]; rfl, FIN.out _ HB4.out⟩
  ·have t3 : ((PN : Int) == 1) = false := by simp; omega
   have t4 : ((PN : Int) = 1) = False := by simp; omega
   have HF := Bx.mk (show R = false by rw [HRR.out, if_pos rfl, zF hone]; rfl);clear w1' w2' w3' w4' hone;go_wp2_with fail
   go_ret;exact ⟨by rw [HF.out]; rfl, FIN.out _ HB3.out⟩
end Go.Proofs.YtmagjdocondmhaaGreat.Tr.Gr
namespace Go.Proofs.YtmagjdocondmhaaGreat.Tr
open Go Go.RowKit Go.Shelf Go.Sort Slc St Mp Rg
attribute [local go_sem] Oper.semAt_some
theorem valS1_in (F : Fence) (n : Nat) (hF : F.fn 109) (hro : F.round = none) (hn : 1 <= n) (l Bs n₀ b off cap : Nat) (zs : List B) (hlen : zs.length <= 1000000000) (J Jx : List B -> World -> Prop)
  (hY : ∀ pre x W, J pre W -> pre.length < zs.length -> YieldAt F (n - 1) Tryz.prog l #[.string (bstr x)] W fun e W' =>
   (e = .returned (.bool true) /\ J (pre ++ [x]) W' /\ Below n₀ W W') \/ (e = .returned (.bool false) /\ Jx (pre ++ [x]) W'))
  (W : World) (hBs : W.cell? ⟨Bs, 0, none⟩ = some (.slice (some ⟨b, off, none⟩) zs.length cap)) (hc : ∀ W', Below n₀ W W' -> ∀ j (h : j < zs.length), W'.cell? ⟨b, off + j, none⟩ = some (.string (bstr zs[j]))) (h0 : J [] W) :
  CallsIn F n Tryz.prog 109 #[.func (.yield l) #[] #[], .pointer (some ⟨Bs, 0, none⟩)] W fun e W' => (∃ v, e = .returned v) /\
   ((∃ ys, ys = zs /\ J ys W') \/ (∃ pre, (∃ k, k <= zs.length /\ pre = zs.take k) /\ Jx pre W')) := by
 have HC := Lib.hid hc;clear hc;refine callsIn_of_wp Tryz.func109 rfl hF ?_ hro;simp only [Tryz.ntmps109, List.size_toArray, List.length_cons, List.length_nil, Nat.reduceAdd, Nat.reduceSub, Array.replicate_succ, Array.replicate_zero, List.push_toArray, List.append_toArray, List.nil_append, List.cons_append]
 gi_wp2
 gi_loopw [7] (fun i wr => ∃ k : Nat, k <= zs.length /\ i = .int .i64 (k : Int) /\ J (zs.take k) wr /\ Below n₀ W wr)
  (fun i _ => zs.length - (intOf i).toNat)
 case atStart => exact ⟨0, by omega, rfl, by simpa using h0, Below.refl _ _⟩
 case round =>
  obtain ⟨k, hk, rfl, hJs, hnx⟩ := hrel;have HNX := Lib.hid hnx;by_cases hlt : k < zs.length
  ·have hx := HC.out wr hnx k hlt;have hsucc : zs.take (k + 1) = zs.take k ++ [zs[k]] := zA hlt;obtain ⟨x, hxx⟩ : ∃ x, x = zs[k] := ⟨_, rfl⟩
   rw [<- hxx] at hx hsucc;have HS := Lib.hid hsucc;obtain ⟨fn, tmps, assign, body, hy, hR⟩ := hY _ x wr hJs (by rw [List.length_take]; omega);rw [<- hsucc] at hR;clear hnx hsucc hxx hBs
   gi_wp2
   refine hR.mono ?_;rintro e W3 (⟨rfl, hJ3, hk3⟩ | ⟨rfl, hJx3⟩)
   ·gi_wp2
    go_roundw
    case rel => exact ⟨k + 1, by omega, by go_num, hJ3, HNX.out.trans hk3⟩
    case measure => simp [intOf]; omega
   ·gi_wp2
    refine bodyPost_ret (results_none rfl _ _ _) rfl ?_;exact ⟨⟨_, rfl⟩, .inr ⟨_, ⟨k + 1, by omega, rfl⟩, hJx3⟩⟩
  ·obtain rfl : k = zs.length := by omega
   rw [List.take_length] at hJs;clear hnx hBs
   gi_wp2
   go_end0
   exact ⟨⟨_, rfl⟩, .inl ⟨_, rfl, hJs⟩⟩
theorem valS1_nil_in (F : Fence) (n : Nat) (hF : F.fn 109) (hro : F.round = none) (l Bs : Nat) (c : Nat) (a : Option Addr) (J : List B -> World -> Prop) (W : World) (hBs : W.cell? ⟨Bs, 0, none⟩ = some (.slice a 0 c)) (h0 : J [] W) :
  CallsIn F n Tryz.prog 109 #[.func (.yield l) #[] #[], .pointer (some ⟨Bs, 0, none⟩)] W fun e W' => (∃ v, e = .returned v) /\ J [] W' := by
 refine callsIn_of_wp Tryz.func109 rfl hF ?_ hro;simp only [Tryz.ntmps109, List.size_toArray, List.length_cons, List.length_nil, Nat.reduceAdd, Nat.reduceSub, Array.replicate_succ, Array.replicate_zero, List.push_toArray, List.append_toArray, List.nil_append, List.cons_append]
 gi_wp2
 gi_loopw [7] (fun i wr => i = .int .i64 0 /\ J [] wr) (fun _ _ => 0)
 case atStart => exact ⟨rfl, h0⟩
 case round =>
  obtain ⟨rfl, hJs⟩ := hrel
  gi_wp2
  go_end0
  exact ⟨⟨_, rfl⟩, hJs⟩
theorem valS_any (a : Option Addr) (len cap : Nat) (w : World) :
  Calls Tryz.prog 72 #[.slice a len cap] w fun e w' => e = .returned (.func (.func 109) #[] #[.pointer (some ⟨w.heap.size, 0, none⟩)]) /\ w' = w.alloc (.cells #[.slice a len cap] 34) := by
 go_enter Tryz.func72, Tryz.ntmps72;go_wp2
 go_ret;exact ⟨rfl, rfl⟩
theorem valS_stops (F : Fence) (n : Nat) (hF : F.fn 109) (hro : F.round = none) (hn : 1 <= n) (Bs n₀ : Nat) (sv : Value) (zs : List B) (hlen : zs.length <= 1000000000) (w : World) (hBs0 : Bs < n₀) (hn₀ : n₀ <= w.heap.size)
  (hc : w.cell? ⟨Bs, 0, none⟩ = some sv) (hI : ∃ w0, Rd w0 encS sv zs /\ w0.heap.size <= n₀ /\ Below w0.heap.size w0 w) :
  SeqStopsK F n Tryz.prog 109 #[.pointer (some ⟨Bs, 0, none⟩)] (fun x : B => #[Value.string (bstr x)]) (Below n₀) (fun ys => ys = zs)
   (fun pre => ∃ k, k <= zs.length /\ pre = zs.take k) zs.length w := fun l J Jx W hW _ _ hY h0 => by
 have hc' := (hW.cell (p := ⟨Bs, 0, none⟩) (Nat.lt_of_lt_of_le hBs0 hn₀)).trans hc;obtain ⟨w0, hrd, hw0, hbw⟩ := hI;rcases Nat.eq_zero_or_pos zs.length with hz | hp
 ·obtain rfl : zs = [] := List.eq_nil_of_length_eq_zero hz;obtain ⟨a, c, rfl, -⟩ := hrd.form;exact (valS1_nil_in F n hF hro l Bs c a J W hc' h0).mono fun e W' ⟨he, hj⟩ => ⟨he, .inl ⟨_, rfl, hj⟩⟩
 ·obtain ⟨b, o, c, hv, _, hlt, hcell⟩ := hrd.cells encS_ok hp;subst hv;refine valS1_in F n hF hro hn l Bs n₀ b o c zs hlen J Jx hY W hc' (fun W' hW' j hj => ?_) h0;have hb2 : Below w0.heap.size w0 W' := hbw.trans ((hW.mono hbw.size).trans (hW'.mono hw0));have q := hcell W' (fun k hk => by cases hk; exact hb2.block b hlt) j hj 0 _ (by omega) rfl;rw [Nat.mul_one, Nat.add_zero] at q;exact q
theorem encS_str (l : List B) : l.flatMap encS = l.map encStr := by
 induction l with
 | nil => rfl
 | cons x l ih => simp [encS, List.flatMap_cons, ih, encStr, bstr]
theorem apS_any (w : World) (Bs : Nat) (sv : Value) (zs : List B) (hlen : zs.length <= 1000000) (hBs : Bs < w.heap.size) (hc : w.cell? ⟨Bs, 0, none⟩ = some sv) (hI : ∃ w0, Rd w0 encS sv zs /\ w0.heap.size <= w.heap.size /\ Below w0.heap.size w0 w) :
  Calls Tryz.prog 121 #[.slice none 0 0, .func (.func 109) #[] #[.pointer (some ⟨Bs, 0, none⟩)]] w fun e w' => ∃ v, e = .returned v /\ Slc.Own w' w.heap.size 9 1 encS v zs /\ Below w.heap.size w w' := by
 obtain ⟨i0, hi0, hz0, hz1, hz2⟩ := info_parts info_str;obtain ⟨p, hp⟩ : ∃ p, p = w.heap.size := ⟨_, rfl⟩
 have HP := Bx.mk hp;obtain ⟨W1, hW1⟩ : ∃ W1, W1 = w.alloc (.cells #[.slice none 0 0] 34) := ⟨_, rfl⟩
 have HB0 := Bx.mk (show Below p w W1 by rw [hW1, hp]; exact (Below.refl _ _).alloc (zR _) _);have HR0 := Bx.mk (show W1.heap[p]? = some (.cells #[.slice none 0 0] 34 (0, 0)) by rw [hW1]; exact Rg.alloc_at hp);have HZ := Bx.mk (show W1.heap.size = p + 1 by rw [hW1, hp]; simp);have HI := Bx.mk hI;have HC := Bx.mk (show W1.cell? ⟨Bs, 0, none⟩ = some sv from (HB0.out.cell (p := ⟨Bs, 0, none⟩) (by rw [hp]; exact hBs)).trans hc);rw [<- hp] at hBs;have HBS := Bx.mk hBs;clear hI hc hBs;refine (callsIn_wide (n := 6)).1 (callsIn_of_wp_marks Tryz.func121 rfl trivial (wpIn_wide.2 ?_) rfl);simp only [Tryz.ntmps121, List.size_toArray, List.length_cons, List.length_nil, Nat.reduceAdd, Nat.reduceSub, Array.replicate_succ, Array.replicate_zero, List.push_toArray, List.append_toArray, List.nil_append, List.cons_append]
 go_wp2
 rw [<- hp, <- hW1];clear hp hW1
 refine wpIn_wide.1 (rf_H (F := Fence.wide) (n := 6) rfl (by omega) (gf := 109) (lb := #[.pointer (some ⟨Bs, 0, none⟩)]) rfl trivial (enters_of Tryz.func109 (by kernel_rfl) rfl)
  (valS_stops Fence.wide 5 trivial rfl (by omega) Bs p sv zs (by omega) W1 HBS.out (by have := HZ.out; omega) HC.out (by
   obtain ⟨w0, h1, h2, h3⟩ := HI.out
   exact ⟨w0, h1, by rw [HP.out]; exact h2, h3.trans (HB0.out.mono (by rw [HP.out]; exact h2))⟩)) belowK_t (belowK_b (by have := HZ.out; omega)) (Below.refl _ _) (fun _ => rfl)
  (fun pre W => (∃ v, W.heap[p]? = some (.cells #[v] 34 (0, 0)) /\ Slc.Own W (p + 1) 9 1 encS v pre) /\ Below p w W)
  (fun _ _ _ => False)
  (OwnFrom.and (fun s A B row h hg hr => by obtain ⟨v, h1, h2⟩ := h; exact ⟨v, cells_kept h1 hg hr, own_kept h2 hg hr⟩) (ownFrom_below (by have := HP.out; omega) (by have := HZ.out; omega)))
  (fun c s A B row h hg hr => h)
  ⟨⟨_, HR0.out, Slc.Own.nil _ _⟩, HB0.out⟩
  (fun a x a' W => a' = { tmps := (a.tmps.setIfInBounds 7 (.string (bstr x))).setIfInBounds 5 (.string (bstr x)), defers := [] })
  (fun x a' s A B row h hg hr => h)
  ?assign ?body ?done ?stop)
 case assign =>
  rintro l' pre x W K' hI hK
  gi_wp2
  exact hK _ _ (KeepsFrom.refl _ _) (Below.refl _ _) hI rfl
 case body =>
  rintro l' pre x a' W hl' hr ⟨⟨v, h1, h2⟩, hB⟩ rfl hlt;simp only [List.setIfInBounds_toArray, List.set_cons_succ, List.set_cons_zero]
  have hc0 := cell_of_row _ _ 0 _ _ _ h1;simp only [List.getElem?_toArray, List.getElem?_cons_zero] at hc0
  have hpl := lt_of_at h1;obtain ⟨av, cv, rfl, -⟩ := h2.rd.form;have hpk : ∀ (o : Obj) (w3 : World), (W.alloc o).grownBy w3 (Value.slice av pre.length cv).ownBlock -> w3.heap[p]? = some (.cells #[.slice av pre.length cv] 34 (0, 0)) := fun o w3 hg => (hg.block p (by simp; omega) (fun e => by have := (h2.lt p e.symm).1; omega)).trans (Rg.alloc_keep h1)
  have H2 := Bx.mk h2;have HB := Bx.mk hB;have HLT := Bx.mk hlt;have HPL := Bx.mk hpl;have HPK := Bx.mk hpk;clear h1 h2 hB hlt hpk;have hen : encS x = [.string (bstr x)] := rfl
  gi_wp2_with (gi_at_builtin; refine wpListIn_append_own _ rfl _ _ 34 rfl (p + 1) 9 i0 (.string ⟨#[]⟩) 1 16 und_strs hi0 hz0 hz1 hz2 rfl (by decide) _ _ _ rfl (H2.out.alloc _) ⟨W.heap.size, 0, none⟩ 1 1 [.string (bstr x)] rfl rfl (cell_one_new _ _ _) (by simp [Value.oneCell']) (by have := HLT.out; unfold maxLen; omega) (by have := HLT.out; omega) (by have := HPL.out; simp; omega) ?_; intro v' w3 hown' hg3 hnil3; obtain ⟨g', cap', rfl⟩ := ownsRow_succ hown'; have hp3 := HPK.out _ _ hg3; have hz3 := frozen_row (i := 0) hp3; have hcc3 := cell_of_row _ _ 0 _ _ _ hp3; simp only [List.getElem?_toArray, List.getElem?_cons_zero] at hcc3)
  have hsz3 := hg3.size;have hpl := HPL.out;simp only [World.size_alloc] at hsz3
  have hOW : Slc.Own w3 (p + 1) 9 1 encS (.slice (some ⟨g', 0, none⟩) (pre.length + 1) cap') (pre ++ [x]) := Slc.Own.of hown' (by simp) (by rw [List.flatMap_append]; rfl);have hbw : Below p W w3 := ((Below.refl p W).alloc (by omega) _).grown hg3 (by simp; omega) (fun k hk => by have := (H2.out.lt k hk).1; omega);refine ⟨(((KeepsOthers.alloc _ _).from _).trans ((KeepsOthers.of_grownBy hg3 (fun j o hj ho => own_cells (H2.out.alloc _) j o hj ho)).from _)).trans ((KeepsOthers.setCell _ _ _).from _), hbw.setCell (zR _) _, ⟨_, row_set hp3 _, ?_⟩, (HB.out.trans hbw).setCell (zR _) _⟩;refine hOW.keep fun k hk hlt => heap_setCell_other _ _ _ _ fun e => ?_
  have e : k = p := e;have := (hOW.lt k hk).1;omega
 case done =>
  rintro D ys W hD rfl ⟨⟨v, h1, h2⟩, hB⟩ hK;have hc0 := cell_of_row _ _ 0 _ _ _ h1;simp only [List.getElem?_toArray, List.getElem?_cons_zero] at hc0
  obtain ⟨av, cv, rfl, -⟩ := h2.rd.form;have H2 := Bx.mk h2;have HB := Bx.mk hB;clear h1 h2 hB;go_wp2
  refine ⟨by simp, .inl ⟨_, _, rfl, run_takeDeferred hK, ?_⟩⟩;refine ⟨_, results_tmp rfl _ _ _, _, rfl, ?_, ?_⟩
  ·exact (own_kept (B0 := 0) H2.out (grownBy_putObj' _ D _) (fun r hr => by cases hr; exact ⟨by omega, _, hK, rfl⟩)).mono (by have := HP.out; omega)
  ·rw [<- HP.out];exact HB.out.trans (belowK_b (w := W1) (by have := HZ.out; omega) W D _ _ hD hK rfl rfl)
 case stop =>
  rintro D c pre W hD hS hF;exact hF.elim
end Go.Proofs.YtmagjdocondmhaaGreat.Tr
namespace Go.Proofs.YtmagjdocondmhaaGreat.Tr
open Go Go.RowKit Go.Shelf Go.Sort Slc St Mp Rg
attribute [local go_sem] Oper.semAt_some
theorem compact_mem (zs : List B) (x : B) : x ∈ Lib.compact zs ↔ x ∈ zs := by
 unfold Lib.compact Lib.compactUpTo;rw [List.mem_map];constructor
 ·rintro ⟨i, hi, rfl⟩;rw [List.mem_filter, List.mem_range] at hi;rw [getElem!_pos zs.toArray i (by simpa using hi.1)];simp
 ·intro h;obtain ⟨j, hj, rfl⟩ := List.getElem_of_mem h
  have key : ∀ j (hj : j < zs.length), ∃ a ∈ (List.range zs.length).filter (Lib.keeps zs.toArray), zs.toArray[a]! = zs[j] := by
   intro j
   induction j with
   | zero =>
    intro hj
    exact ⟨0, List.mem_filter.2 ⟨List.mem_range.2 hj, by simp [Lib.keeps]⟩, by rw [getElem!_pos zs.toArray 0 (by simpa using hj)]; simp⟩
   | succ j ih =>
    intro hj;have e1 : zs.toArray[j + 1]! = zs[j + 1] := (by rw [getElem!_pos zs.toArray _ (by simpa using hj)]; simp);have e0 : zs.toArray[j]! = zs[j] := (by rw [getElem!_pos zs.toArray _ (by simp; omega)]; simp);by_cases q : Lib.keeps zs.toArray (j + 1) = true
    ·exact ⟨j + 1, List.mem_filter.2 ⟨List.mem_range.2 hj, q⟩, e1⟩
    ·obtain ⟨a, ha, he⟩ := ih (by omega);refine ⟨a, ha, he.trans ?_⟩;unfold Lib.keeps at q;rw [decide_eq_true_eq] at q;have : zs.toArray[j + 1]! = zs.toArray[j]! := Classical.byContradiction fun h => q (.inr h)
     rw [e1, e0] at this;exact this.symm
  exact key j hj
theorem compact_asc {zs : List B} (h : zs.Pairwise fun x y => ¬ y < x) : Asc (Lib.compact zs) := by
 unfold Lib.compact Lib.compactUpTo Asc;rw [List.pairwise_map]
 have hle : ∀ i j, i <= j -> j < zs.length -> ¬ zs.toArray[j]! < zs.toArray[i]! := by
  intro i j hij hj;rw [getElem!_pos zs.toArray j (by simpa using hj), getElem!_pos zs.toArray i (by simp; omega)];simp only [List.getElem_toArray]
  by_cases e : i = j
  ·subst e; exact ltB_irr _
  ·exact List.pairwise_iff_getElem.1 h i j (by omega) hj (by omega)
 have hp : ((List.range zs.length).filter (Lib.keeps zs.toArray)).Pairwise (· < ·) := List.Pairwise.filter _ List.pairwise_lt_range
 have hm : ∀ j ∈ (List.range zs.length).filter (Lib.keeps zs.toArray), j < zs.length /\ Lib.keeps zs.toArray j = true := fun j hj => by
  rw [List.mem_filter, List.mem_range] at hj; exact hj
 refine List.Pairwise.imp_of_mem ?_ hp;intro i j hi hj hij;obtain ⟨h1, h2⟩ := hm j hj;unfold Lib.keeps at h2;rw [decide_eq_true_eq] at h2;have h3 : zs.toArray[j - 1]! < zs.toArray[j]! := ltB_or (hle (j - 1) j (by omega) h1) (by rcases h2 with h2 | h2; omega; exact h2);by_cases e : i = j - 1
 ·rw [e]; exact h3
 ·have h4 := hle i (j - 1) (by omega) (by omega);by_cases q : zs.toArray[i]! = zs.toArray[j - 1]!
  ·rw [q]; exact h3
  ·exact ltB_tr (ltB_or h4 (fun e => q e.symm)) h3
theorem sorted_pair (l : List B) : (l.mergeSort fun x y => decide (x <= y)).Pairwise fun x y => ¬ y < x := by
 have h := List.pairwise_mergeSort (le := fun x y : B => decide (x <= y)) (fun a b c h1 h2 => by
  rw [decide_eq_true_eq] at h1 h2 |-; exact List.le_trans h1 h2) (fun a b => by
  rw [Bool.or_eq_true, decide_eq_true_eq, decide_eq_true_eq]; exact List.le_total a b) l
 exact h.imp fun {a b} h => (leB_iff a b).1 (by simpa using h)
theorem compact_sort (l : List B) : Lib.compact (l.mergeSort fun x y => decide (x <= y)) = setB l :=
 setB_eq (compact_asc (sorted_pair l)) fun x => by rw [compact_mem, List.mem_mergeSort]
theorem holds_strs {w : World} {Bk g n cap : Nat} {l : List B} (h : Slc.Own w Bk 9 1 encS (.slice (some ⟨g, 0, none⟩) n cap) l) : Holds encStr w g 0 l.toArray := by
 intro i hi;have hi' : i < l.length := by simpa using hi
 have h1 := Slc.Own.cell encS_ok h i hi' 0 (by omega) _ rfl;rw [Nat.mul_one, Nat.add_zero] at h1;refine ⟨?_, ?_⟩
 ·rw [Nat.zero_add, h1, getElem!_pos l.toArray i hi]; simp [bstr]
 ·rcases h.2 with ⟨h0, hn⟩ | ⟨g', cap', cur, hv, _, hb, _⟩
  ·simp at h0
  ·simp only [Value.slice.injEq, zO, Addr.mk.injEq] at hv
   obtain ⟨⟨rfl, -⟩, -⟩ := hv;simp [World.frozen?, hb]
theorem own_put {w W : World} {Bk g n cap m k : Nat} {os : Array Obj} {l d : List B} (h : Slc.Own w Bk 9 1 encS (.slice (some ⟨g, 0, none⟩) n cap) l) (hs : d.length = l.length) (hk : k <= d.length) (hS : W = grow (putRow encStr (Sort.ahead w m) g 0 d.toArray) os) :
  Slc.Own W Bk 9 1 encS (.slice (some ⟨g, 0, none⟩) k cap) (d.take k) /\ w.grownBy W (some g) := by
 subst hS;rcases h.2 with ⟨h0, hn⟩ | ⟨g', cap', cur, hv, hB, hb, hc, hm, hcs, ht⟩
 ·simp at h0
 simp only [Value.slice.injEq, zO, Addr.mk.injEq] at hv
 obtain ⟨⟨rfl, -⟩, rfl, rfl⟩ := hv;have hg : g < w.heap.size := lt_of_some hb
 have hheap : (grow (putRow encStr (Sort.ahead w m) g 0 d.toArray) os).heap[g]? = some (.cells (putCells encStr 0 d.toArray cur) 9 (0, 0)) := by
  unfold putRow;rw [heap_grow_old _ _ (by simpa [mapBlock] using hg)];simp [mapBlock, Sort.ahead, Array.getElem?_modify, hb, onCells]
 have hlk : (d.take k).length = k := by rw [List.length_take]; omega
 refine ⟨⟨by rw [flat_len encS_ok, hlk], .inr ⟨g, cap, putCells encStr 0 d.toArray cur, by rw [hlk], hB, hheap, by rw [hlk]; omega, hm, by simp [putCells, hcs], ?_⟩⟩, ⟨rfl, rfl, rfl, by simp [putRow, mapBlock], fun j hj hne => ?_⟩⟩
 ·rw [hlk, Nat.mul_one];apply List.ext_getElem?
  intro j;rw [encS_str];by_cases hj : j < k
  ·rw [List.getElem?_take_of_lt hj, List.getElem?_map, List.getElem?_take_of_lt hj, Array.getElem?_toList];have h1 : j < cur.size := by omega
   have h2 : j < d.length := by omega
   simp [putCells, h1, h2]
  ·rw [List.getElem?_take_eq_none (by omega), List.getElem?_eq_none (by simp; omega)]
 ·unfold putRow;rw [heap_grow_old _ _ (by simpa [mapBlock] using hj)];have : g ≠ j := fun e => hne (by rw [e])
  simp [mapBlock, Sort.ahead, Array.getElem?_modify, this]
theorem sortS_any (w : World) (Bk : Nat) (v : Value) (l : List B) (h : Slc.Own w Bk 9 1 encS v l) (hn : l.length <= 1000000) :
  Calls Tryz.prog 104 #[v] w fun e w' => e = .returned (.tuple #[]) /\ Slc.Own w' Bk 9 1 encS v (l.mergeSort fun x y => decide (x <= y)) /\ w.grownBy w' v.ownBlock := by
 obtain ⟨ad, c, rfl, -⟩ := h.rd.form;rcases Nat.eq_zero_or_pos l.length with h0 | hp
 ·obtain rfl : l = [] := List.eq_nil_of_length_eq_zero h0;refine (AnyM.slices_Sort_string_none Tryz.sortA ad c w).mono ?_;rintro e w' ⟨rfl, rfl⟩;exact ⟨rfl, by simpa using h, rfl, rfl, rfl, zR _, fun _ _ _ => rfl⟩
 ·have h' := h;rcases h'.2 with ⟨_, hn0⟩ | ⟨g, cap, cur, hv, hB, hb, -⟩
  ·omega
  simp only [Value.slice.injEq] at hv
  obtain ⟨rfl, -, rfl⟩ := hv;refine (AnyM.slices_Sort_string Tryz.sortA g 0 c l w (holds_strs h) (lt_of_some hb) (by omega)).mono ?_;rintro e w' ⟨rfl, m, os, hW⟩;have hl : (l.mergeSort fun x y => decide (x <= y)).length = l.length := List.length_mergeSort _;have := own_put (k := l.length) h hl (by omega) hW;rw [List.take_of_length_le (by omega)] at this;exact ⟨rfl, this⟩
theorem compS_any (w : World) (Bk : Nat) (v : Value) (l : List B) (h : Slc.Own w Bk 9 1 encS v l) (hn : l.length <= 1000000) :
  Calls Tryz.prog 71 #[v] w fun e w' => ∃ v', e = .returned v' /\ Slc.Own w' Bk 9 1 encS v' (Lib.compact l) /\ w.grownBy w' v.ownBlock := by
 obtain ⟨ad, c, rfl, hlc⟩ := h.rd.form;rcases Nat.eq_zero_or_pos l.length with h0 | hp
 ·obtain rfl : l = [] := List.eq_nil_of_length_eq_zero h0;refine (Any.slices_Compact_string_empty Tryz.lays194 ad c w).mono ?_;rintro e w' ⟨rfl, rfl⟩;exact ⟨_, rfl, by simpa [Lib.compact, Lib.compactUpTo] using h, rfl, rfl, rfl, zR _, fun _ _ _ => rfl⟩
 ·have h' := h;rcases h'.2 with ⟨_, hn0⟩ | ⟨g, cap, cur, hv, hB, hb, -⟩
  ·omega
  simp only [Value.slice.injEq] at hv
  obtain ⟨rfl, -, rfl⟩ := hv;refine (Any.slices_Compact_string Tryz.lays194 g 0 c l w (holds_strs h) (by omega) hlc).mono ?_;rintro e w' ⟨rfl, q, hW⟩
  have hcl : (Lib.compact l).length <= l.length := by
   unfold Lib.compact Lib.compactUpTo;rw [List.length_map];exact Nat.le_trans (List.length_filter_le _ _) (by simp)
  have := own_put (W := w') (k := (Lib.compact l).length) (os := #[]) (m := q) (d := Lib.compact l ++ List.replicate (l.length - (Lib.compact l).length) []) h (by rw [List.length_append, List.length_replicate]; omega) (by rw [List.length_append]; omega) (by rw [grow_empty]; exact hW);rw [List.take_left'  rfl] at this;exact ⟨_, rfl, this⟩
theorem sortedV_any (w : World) (Bs : Nat) (sv : Value) (zs : List B) (hlen : zs.length <= 1000000) (hBs : Bs < w.heap.size) (hc : w.cell? ⟨Bs, 0, none⟩ = some sv) (hI : ∃ w0, Rd w0 encS sv zs /\ w0.heap.size <= w.heap.size /\ Below w0.heap.size w0 w) :
  Calls Tryz.prog 63 #[.func (.func 109) #[] #[.pointer (some ⟨Bs, 0, none⟩)]] w fun e w' => ∃ v, e = .returned v /\ Slc.Own w' w.heap.size 9 1 encS v (zs.mergeSort fun x y => decide (x <= y)) /\ Below w.heap.size w w' := by
 have h1 := apS_any w Bs sv zs hlen hBs hc hI
 have h2 : Calls Tryz.prog 103 #[.func (.func 109) #[] #[.pointer (some ⟨Bs, 0, none⟩)]] w fun e w' => ∃ v, e = .returned v /\ Slc.Own w' w.heap.size 9 1 encS v zs /\ Below w.heap.size w w' := by
  clear hI hc hBs;go_enter Tryz.func103, Tryz.ntmps103;go_wp2_with (go_at_call 121; refine h1.mono ?_; rintro e w' ⟨v, rfl, ho, hb⟩; obtain ⟨av, cv, rfl, -⟩ := ho.rd.form)
  go_ret;exact ⟨_, rfl, ho, hb⟩
 clear h1 hI hc hBs;go_enter Tryz.func63, Tryz.ntmps63;go_wp2_with fail
 go_at_call 103;refine h2.mono ?_;rintro e w1 ⟨v, rfl, ho, hb⟩;have h3 := sortS_any w1 w.heap.size v zs ho hlen;obtain ⟨av, cv, rfl, -⟩ := ho.rd.form;clear h2;go_wp2_with fail
 go_at_call 104;refine h3.mono ?_;rintro e w2 ⟨rfl, ho2, hg2⟩;go_wp2_with fail
 go_ret;exact ⟨_, rfl, ho2, hb.grown hg2 hb.size fun k hk => (ho.lt k hk).1⟩
theorem set_any (w : World) (v : Value) (l : List B) (h : Rd w encS v l) (hn : l.length <= 1000000) :
  Calls Tryz.prog 81 #[v] w fun e w' => ∃ v', e = .returned v' /\ Slc.Own w' w.heap.size 9 1 encS v' (setB l) /\ Below w.heap.size w w' := by
 have h1 := fun (a : Option Addr) (len cap : Nat) => valS_any a len cap w
 have h2 := sortedV_any (w.alloc (.cells #[v] 34)) w.heap.size v l hn (by simp) (by unfold World.cell?; rw [heap_alloc_new]; rfl) ⟨w, h, by simp, (Below.refl _ _).alloc (zR _) _⟩;obtain ⟨W1, hW1⟩ : ∃ W1, W1 = w.alloc (.cells #[v] 34) := ⟨_, rfl⟩
 have hB1 : Below w.heap.size w W1 := by rw [hW1]; exact (Below.refl _ _).alloc (zR _) _
 have hsz1 : w.heap.size <= W1.heap.size := hB1.size;obtain ⟨ad, c, rfl, -⟩ := h.form;obtain ⟨S, hS⟩ : ∃ S, S = l.mergeSort (fun x y => decide (x <= y)) := ⟨_, rfl⟩
 rw [<- hW1, <- hS] at h2;have HSL := Bx.mk (show S.length <= 1000000 by rw [hS, List.length_mergeSort]; exact hn);have HCS := Bx.mk (show Lib.compact S = setB l by rw [hS, compact_sort]);clear hS h;go_enter Tryz.func81, Tryz.ntmps81;go_wp2_with fail
 go_at_call 72;refine (h1 _ _ _).mono ?_;rintro e w1 ⟨rfl, rfl⟩;rw [<- hW1];clear h1 hW1;go_wp2_with fail
 go_at_call 63;refine h2.mono ?_;rintro e w2 ⟨v2, rfl, ho, hb⟩;have h3 := compS_any w2 W1.heap.size v2 _ ho HSL.out;rw [HCS.out] at h3;obtain ⟨av, cv, rfl, -⟩ := ho.rd.form;clear h2;go_wp2_with fail
 go_at_call 71;refine h3.mono ?_;rintro e w3 ⟨v3, rfl, ho3, hg3⟩;obtain ⟨av3, cv3, rfl, -⟩ := ho3.rd.form;clear h3;go_wp2_with fail
 go_ret;exact ⟨_, rfl, ho3.mono hsz1, (hB1.trans (hb.mono hsz1)).grown hg3 (Nat.le_trans hsz1 hb.size) fun k hk => Nat.le_trans hsz1 (ho.lt k hk).1⟩
end Go.Proofs.YtmagjdocondmhaaGreat.Tr
