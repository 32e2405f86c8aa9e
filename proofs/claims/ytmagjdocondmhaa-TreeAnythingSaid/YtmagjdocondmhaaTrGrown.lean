/-
  ptree.prune.
-/
/-
  ptree.grown; ptree.Root.
-/
import Derived.Test.YtmagjdocondmhaaTrKeep
import Derived.Test.YtmagjdocondmhaaTrStay
import Derived.Test.YtmagjdocondmhaaTrSort
import Derived.Laws.Append
import Derived.Laws.PanicsMore
import Derived.Lib.AppendZeros
namespace Go.Proofs.Ytmagjdocondmhaa.Tr
open Go Go.RowKit Go.Shelf Go.Sort Go.Proofs.Ytmagjdocondmhaa.Slc Go.Proofs.Ytmagjdocondmhaa.St Go.Proofs.Ytmagjdocondmhaa.Mp Go.Proofs.Ytmagjdocondmhaa.Rg
set_option linter.unusedVariables false
set_option linter.unusedSimpArgs false
attribute [local go_sem] Oper.semAt_some

/-- a block of marks -/
def MB (w : World) (b : Nat) (m : List Bool) : Prop := w.heap[b]? = some (.cells (m.map Value.bool).toArray 4 (0, 0))
theorem MB.cell {w : World} {b : Nat} {m : List Bool} (h : MB w b m) (i : Nat) (hi : i < m.length) : w.cell? ⟨b, i, none⟩ = some (.bool m[i]!) := by
  have := cell_of_row _ _ i _ _ _ h
  rw [this, getElem!_pos m i hi]
  simp [hi]
theorem MB.set {w : World} {b : Nat} {m : List Bool} (h : MB w b m) (i : Nat) (x : Bool) : MB (w.setCell ⟨b, i, none⟩ (.bool x)) b (m.set i x) := by
  have := row_set h (i := i) (.bool x)
  unfold MB
  rw [this, List.map_set]
  simp
theorem MB.rd {w : World} {b c : Nat} {m : List Bool} (h : MB w b m) (hc : m.length ≤ c) : Rd w encM (.slice (some ⟨b, 0, none⟩) m.length c) m := by
  refine .inr ⟨b, 0, c, rfl, lt_of_some h, hc, fun j u hj => ?_⟩
  have e : m.flatMap encM = m.map Value.bool := by
    clear h hc hj
    induction m with
    | nil => rfl
    | cons x l ih => simp [encM, List.flatMap_cons, ih]
  rw [e] at hj
  have := cell_of_row _ _ j _ _ _ h
  rw [Nat.zero_add, this]
  simpa using hj
theorem MB.other {w : World} {b p i : Nat} {m : List Bool} (h : MB w b m) (hne : b ≠ p) (v : Value) : MB (w.setCell ⟨p, i, none⟩ v) b m := row_other h hne v
theorem MB.kept {A W : World} {B0 b : Nat} {m : List Bool} {row : Option Nat} (h : MB A b m) (hg : A.grownBy W row) (hr : ∀ r, row = some r → B0 ≤ r ∧ ∃ o : Obj, A.heap[r]? = some o ∧ o.isCells = false) : MB W b m := cells_kept (B0 := B0) h hg hr
theorem made_marks (n : Nat) : madeCells (Value.bool false).cells (n * 1) = ((List.replicate n false).map Value.bool).toArray := by
  have := toList_madeCells_one (.bool false) n
  have e : (Value.bool false).cells = #[.bool false] := rfl
  rw [e, Nat.mul_one, List.map_replicate, ← this]
/-- one node of pruning -/
def stepN (D : Int) (m : List Bool) (x : Int × Nt) : List Bool :=
  let m1 := if x.2.n.d = D then m.set x.1.toNat true else m
  if m1[x.1.toNat]! && decide (x.2.n.p ≥ 0) then m1.set x.2.n.p.toNat true else m1
theorem stepN_length (D : Int) (m : List Bool) (x : Int × Nt) : (stepN D m x).length = m.length := by
  have e : ∀ (m1 : List Bool), m1.length = m.length → (if m1[x.1.toNat]! && decide (x.2.n.p ≥ 0) then m1.set x.2.n.p.toNat true else m1).length = m.length := by
    intro m1 h
    split
    · rw [List.length_set]; exact h
    · exact h
  unfold stepN
  refine e _ ?_
  split
  · rw [List.length_set]
  · rfl
def foldN (D : Int) (N : Nat) (l : List (Int × Nt)) : List Bool := l.foldl (stepN D) (List.replicate N false)
theorem foldN_length (D : Int) (N : Nat) (l : List (Int × Nt)) : (foldN D N l).length = N := by
  have : ∀ (l : List (Int × Nt)) (m : List Bool), (l.foldl (stepN D) m).length = m.length := by
    intro l
    induction l with
    | nil => intro m; rfl
    | cons x l ih => intro m; rw [List.foldl_cons, ih, stepN_length]
  unfold foldN; rw [this, List.length_replicate]
theorem foldN_snoc (D : Int) (N : Nat) (l : List (Int × Nt)) (x : Int × Nt) : foldN D N (l ++ [x]) = stepN D (foldN D N l) x := by unfold foldN; rw [List.foldl_append]; rfl
theorem foldN_bw (l : List Nt) (D : Int) : ∀ k, k ≤ l.length → foldN D l.length (bw l k) = pmB (nds l) D k := by
  intro k
  induction k with
  | zero => intro _; simp [foldN, bw, pmB, nds]
  | succ k ih =>
    intro hk
    obtain ⟨m, hm⟩ : ∃ m, m + 1 + k = l.length := ⟨l.length - 1 - k, by omega⟩
    have hml : m < l.length := by omega
    rw [bw_succ l k m hm, foldN_snoc, ih (by omega), pmB]
    have e : (nds l).length - 1 - k = m := by rw [nds_len]; omega
    rw [e]
    unfold stepN stepM
    rw [nds_at l m hml]; rfl
theorem rd_put {α : Type} {enc : α → List Value} {w : World} {D : Nat} {x : Option (List Deferred)} {o : Obj} {v : Value} {l : List α} (h : Rd w enc v l) (hD : w.heap[D]? = some (.deferred x)) : Rd (w.putObj D o) enc v l := by
  rcases h with h | ⟨b, c, cp, rfl, hlt, hc, hcell⟩
  · exact .inl h
  · have hg := grownBy_putObj' w D o
    refine .inr ⟨b, c, cp, rfl, by have := hg.size; omega, hc, fun j u hj => ?_⟩
    have h1 := hcell j u hj
    by_cases e : b = D
    · subst e
      unfold World.cell? at h1
      rw [hD] at h1
      cases h1
    · unfold World.cell? at h1 ⊢
      rw [hg.block b hlt (by simp only [ne_eq, Option.some.injEq]; exact e)]
      exact h1
theorem TO.put {w : World} {Bk D : Nat} {x : Option (List Deferred)} {o : Obj} {v : Value} {l : List Nt} (h : TO w Bk v l) (hD : w.heap[D]? = some (.deferred x)) : TO (w.putObj D o) Bk v l :=
  ⟨own_kept (B0 := 0) h.own (grownBy_putObj' w D o) (fun r hr => by cases hr; exact ⟨by omega, _, hD, rfl⟩), fun y hy => by
    obtain ⟨⟨h1, h2⟩, h3⟩ := h.nm y hy
    exact ⟨⟨rd_put h1 hD, h2⟩, h3⟩⟩
set_option maxRecDepth 100000 in
set_option maxHeartbeats 4000000 in
theorem prune_any (w : World) (v : Value) (l : List Nt) (h : TL w v l) (hn : l.length ≤ 5000) (hp : ∀ i, i < l.length → -1 ≤ (nds l)[i]!.p ∧ (nds l)[i]!.p < i) (D : Int) :
    Calls Try.prog 42 #[v, .int .i64 D] w fun e w' => ∃ v' l', e = .returned v' ∧ TO w' w.heap.size v' l' ∧ nds l' = pruneP (nds l) D ∧ Below w.heap.size w w' := by
  obtain ⟨ib, hib, hib0, hib1, hib2⟩ := info_parts (show (Try.prog.info? 4).map (fun i => (i.zero, i.size, i.bytes)) = some (some (.bool false), 1, 1) by kernel_rfl)
  obtain ⟨ad, c, rfl, -⟩ := h.rd.form
  have HL := Bx.mk h
  have HPA := Bx.mk hp
  have HS := Bx.mk (show ∀ (i : Nat) (h : i < l.length), -1 ≤ (l[i]).n.p ∧ (l[i]).n.p < i from fun i hi => by
    have := hp i hi
    rw [nds_at l i hi] at this
    exact this)
  clear h hp
  obtain ⟨q, hq⟩ : ∃ q, q = w.heap.size := ⟨_, rfl⟩
  have HQ := Bx.mk hq
  have hmk := fun W : World => run_makeSlice (P := Try.prog) W 76 4 ib (.bool false) Try.underlying76 hib hib0 .i64 .i64 (l.length : Nat) (l.length : Nat) (by omega) (by omega) (by rw [Int.toNat_natCast, hib1]; omega) (by rw [hib2]; omega) (by omega)
  simp only [Int.toNat_natCast, hib1, made_marks] at hmk
  obtain ⟨W1, hW1⟩ : ∃ W1, W1 = w.alloc (.cells #[.int .i64 D] 3) := ⟨_, rfl⟩
  obtain ⟨W2, hW2⟩ : ∃ W2, W2 = W1.alloc (.cells ((List.replicate l.length false).map Value.bool).toArray 4) := ⟨_, rfl⟩
  obtain ⟨W3, hW3⟩ : ∃ W3, W3 = W2.alloc (.cells #[.slice (some ⟨q + 1, 0, none⟩) l.length l.length] 76) := ⟨_, rfl⟩
  obtain ⟨W4, hW4⟩ : ∃ W4, W4 = W3.alloc (.cells #[.slice ad l.length c] 23) := ⟨_, rfl⟩
  have s1 : W1.heap.size = q + 1 := by rw [hW1, hq]; simp
  have s2 : W2.heap.size = q + 2 := by rw [hW2]; simp [s1]
  have s3 : W3.heap.size = q + 3 := by rw [hW3]; simp [s2]
  have s4 : W4.heap.size = q + 4 := by rw [hW4]; simp [s3]
  have HR0 := Bx.mk (show W4.heap[q]? = some (.cells #[.int .i64 D] 3 (0, 0)) by rw [hW4, hW3, hW2]; exact alloc_keep (alloc_keep (alloc_keep (by rw [hW1]; exact alloc_at hq))))
  have HR1 := Bx.mk (show MB W4 (q + 1) (List.replicate l.length false) by unfold MB; rw [hW4, hW3]; exact alloc_keep (alloc_keep (by rw [hW2]; exact alloc_at (by omega))))
  have HR2 := Bx.mk (show W4.heap[q + 2]? = some (.cells #[.slice (some ⟨q + 1, 0, none⟩) l.length l.length] 76 (0, 0)) by rw [hW4]; exact alloc_keep (by rw [hW3]; exact alloc_at (by omega)))
  have HR3 := Bx.mk (show W4.heap[q + 3]? = some (.cells #[.slice ad l.length c] 23 (0, 0)) by rw [hW4]; exact alloc_at (by omega))
  have HB0 := Bx.mk (show Below q w W4 by
    rw [hW4, hW3, hW2, hW1]
    exact ((((Below.refl _ _).alloc (by omega) _).alloc (by simp; omega) _).alloc (by simp; omega) _).alloc (by simp; omega) _)
  have HZ := Bx.mk s4
  have hbc := fun W => callsIn_wide.1 (backN_in Fence.wide 6 trivial rfl ad l.length c W)
  refine (callsIn_wide (n := 6)).1 (callsIn_of_wp_marks Try.func42 rfl trivial (wpIn_wide.2 ?_) rfl)
  simp only [Try.ntmps42, List.size_toArray, List.length_cons, List.length_nil, Nat.reduceAdd, Nat.reduceSub, Array.replicate_succ, Array.replicate_zero, List.push_toArray, List.append_toArray, List.nil_append, List.cons_append]
  go_upto_region 1 with fail
  rw [← hq, ← hW1]
  have hmk1 := hmk W1
  rw [s1, ← hW2] at hmk1
  clear hW1 hmk hq hW2
  go_upto_region 2 with fail
  rw [← hW3]
  clear hmk1 hW3
  go_wp2_with (go_at_call 66; refine (hbc _).mono ?_; rintro e w' ⟨rfl, rfl⟩)
  rw [← hW4]
  clear hW4 hbc s1 s2 s3 s4
  have b3 := HR3.out
  have b3c := cell_of_row _ _ 0 _ _ _ b3
  simp only [List.getElem?_toArray, List.getElem?_cons_zero] at b3c
  refine wpIn_wide.1 (rf_H (F := Fence.wide) (n := 6) rfl (by omega) (gf := 77) (lb := #[.pointer (some ⟨q + 3, 0, none⟩)]) rfl trivial (enters_of Try.func77 (by kernel_rfl) rfl)
    (backN_stops Fence.wide 5 trivial rfl (by omega) (q + 3) (q + 4) (q + 1) ad c l (by omega) HS.out W4 (by have := HZ.out; omega) (by omega) (by omega) b3c ⟨w, HL.out.rd, by have := HQ.out; omega, by have := HQ.out; omega, HQ.out ▸ HB0.out⟩) (fun h k => h.trans k) (fun W l o o' h1 h2 h3 h4 => KB.of_below (belowK_b (w := W4) (by have := HZ.out; omega) W l o o' h1 h2 h3 h4)) (Below.refl _ _) (fun _ => rfl)
    (fun (pre : List (NtB l.length)) W => (W.heap[q]? = some (.cells #[.int .i64 D] 3 (0, 0)) ∧ MB W (q + 1) (foldN D l.length (pre.map (fun y : NtB l.length => y.1))) ∧ W.heap[q + 2]? = some (.cells #[.slice (some ⟨q + 1, 0, none⟩) l.length l.length] 76 (0, 0)) ∧ W.heap[q + 3]? = some (.cells #[.slice ad l.length c] 23 (0, 0))) ∧ Below q w W)
    (fun _ _ _ => False)
    (OwnFrom.and (fun s A B row h hg hr => ⟨cells_kept h.1 hg hr, h.2.1.kept hg hr, cells_kept h.2.2.1 hg hr, cells_kept h.2.2.2 hg hr⟩) (ownFrom_below (by have := HQ.out; omega) (by have := HZ.out; omega)))
    (fun c s A B row h hg hr => h)
    ⟨⟨HR0.out, HR1.out, HR2.out, HR3.out⟩, HB0.out⟩
    (fun a x a' W => ∃ bx : Nat, q + 4 ≤ bx ∧ W.heap[bx]? = some (.cells #[.int .i64 x.1.2.n.d, .int .i64 x.1.2.n.p, .string (bstr x.1.2.n.pol), .slice x.1.2.u.ad x.1.2.u.n x.1.2.u.c] 56 (0, 0)) ∧ a' = { tmps := (((a.tmps.setIfInBounds 13 (.int .i64 x.1.1)).setIfInBounds 14 (.agg #[.int .i64 x.1.2.n.d, .int .i64 x.1.2.n.p, .string (bstr x.1.2.n.pol), .slice x.1.2.u.ad x.1.2.u.n x.1.2.u.c])).setIfInBounds 6 (.int .i64 x.1.1)).setIfInBounds 7 (.pointer (some ⟨bx, 0, none⟩)), defers := [] })
    (fun x a' s A B row h hg hr => by obtain ⟨bx, q1, q2, q3⟩ := h; exact ⟨bx, q1, cells_kept q2 hg hr, q3⟩)
    ?assign ?body ?done ?stop)
  case assign =>
    rintro l' pre x W K' ⟨⟨i0, i1, i2, i3⟩, hB⟩ hK
    have hsz := lt_of_at i3
    unfold nodS
    gi_wp2
    exact hK _ _ ((KeepsOthers.alloc _ _).from _) (KB.of_below ((Below.refl _ W).alloc (by omega) _)) ⟨⟨alloc_keep i0, alloc_keep i1, alloc_keep i2, alloc_keep i3⟩, hB.alloc (by omega) _⟩ ⟨W.heap.size, by omega, heap_alloc_new _ _, rfl⟩
  case body =>
    rintro l' pre x a' W hl' hr ⟨⟨i0, i1, i2, i3⟩, hB⟩ ⟨bx, hbx, hbk, rfl⟩ hlt
    obtain ⟨M, hM⟩ : ∃ M, M = foldN D l.length (pre.map (·.1)) := ⟨_, rfl⟩
    have hML : M.length = l.length := by rw [hM, foldN_length]
    have HSN := Bx.mk (show ∀ y : NtB l.length, foldN D l.length ((pre ++ [y]).map (·.1)) = stepN D M y.1 from fun y => by
      rw [List.map_append, List.map_singleton, foldN_snoc, hM])
    rw [← hM] at i1
    obtain ⟨⟨n0, x⟩, hx0, hx1, hx2, hx3⟩ := x
    simp only at hx0 hx1 hx2 hx3 hbk
    obtain ⟨k, rfl⟩ : ∃ k : Nat, n0 = (k : Int) := ⟨n0.toNat, by omega⟩
    have hsz := lt_of_at i3
    have HI1 := Bx.mk i1
    have HM := Bx.mk hML
    have HI := Bx.mk (And.intro i0 (And.intro i2 i3))
    have HB := Bx.mk hB
    simp only [List.setIfInBounds_toArray, List.set_cons_succ, List.set_cons_zero]
    have d0 := cell_of_row _ _ 0 _ _ _ i0
    have k0 := cell_of_row _ _ 0 _ _ _ hbk
    have k1 := cell_of_row _ _ 1 _ _ _ hbk
    have e0 := cell_of_row _ _ 0 _ _ _ i2
    simp only [List.getElem?_toArray, List.getElem?_cons_zero, List.getElem?_cons_succ] at d0 k0 k1 e0
    have zf := fun i => frozen_row (i := i) i1
    have hkl : k < l.length := by omega
    have hkc := i1.cell k (by omega)
    have hset : stepN D M ((k : Int), x) = if (if x.n.d = D then M.set k true else M)[k]! && decide (x.n.p ≥ 0) then (if x.n.d = D then M.set k true else M).set x.n.p.toNat true else (if x.n.d = D then M.set k true else M) := rfl
    have HSET := Bx.mk hset
    have hBq := HB.out.size
    clear hM hML i0 i2 i3 hB hset i1
    by_cases td : x.n.d = D
    · have tq : (x.n.d == D) = true := by simp [td]
      have hk1 : (M.set k true)[k]! = true := by rw [set_at _ _ _ _ (by have := HM.out; omega), if_pos rfl]
      have HK1 := Bx.mk hk1
      have HTD := Bx.mk td
      clear hk1 td
      by_cases tp : 0 ≤ x.n.p
      · obtain ⟨k2, hk2⟩ : ∃ k2 : Nat, x.n.p = (k2 : Int) := ⟨x.n.p.toNat, by omega⟩
        have h12 : k2 < k := by omega
        have hne : ¬ k = k2 := by omega
        have hne' : ¬ k2 = k := by omega
        have hk2l : k2 < l.length := by omega
        have hkc2 := HI1.out.cell k2 (by have := HM.out; omega)
        have HK2 := Bx.mk hk2
        rw [hk2] at k1
        have tg : decide ((k2 : Int) ≥ 0) = true := decide_eq_true (by omega)
        clear tp hk2
        gi_wp2
        refine ⟨((KeepsOthers.setCell _ _ _).trans (KeepsOthers.setCell _ _ _)).from _, (KB.set _ _ _ (by omega)).trans (KB.set _ _ _ (by simp; omega)), ⟨row_other (row_other HI.out.1 (by omega) _) (by omega) _, ?_, row_other (row_other HI.out.2.1 (by omega) _) (by omega) _, row_other (row_other HI.out.2.2 (by omega) _) (by omega) _⟩, (HB.out.setCell (by show q ≤ q + 1; omega) _).setCell (by show q ≤ q + 1; omega) _⟩
        rw [HSN.out, HSET.out, if_pos HTD.out, HK1.out, HK2.out, if_pos (by rw [Bool.true_and, decide_eq_true_eq]; omega), Int.toNat_natCast]
        exact (HI1.out.set k true).set k2 true
      · have tg : decide (x.n.p ≥ 0) = false := decide_eq_false tp
        have HTP := Bx.mk tp
        clear tp
        gi_wp2
        refine ⟨(KeepsOthers.setCell _ _ _).from _, KB.set _ _ _ (by omega), ⟨row_other HI.out.1 (by omega) _, ?_, row_other HI.out.2.1 (by omega) _, row_other HI.out.2.2 (by omega) _⟩, HB.out.setCell (by show q ≤ q + 1; omega) _⟩
        rw [HSN.out, HSET.out, if_pos HTD.out, HK1.out, if_neg (by rw [Bool.true_and, decide_eq_true_eq]; have := HTP.out; omega)]
        exact HI1.out.set k true
    · have tq : (x.n.d == D) = false := by simp [td]
      have HTD := Bx.mk td
      obtain ⟨b, hb⟩ : ∃ b, b = M[k]! := ⟨_, rfl⟩
      rw [← hb] at hkc
      have HBM := Bx.mk hb
      clear td hb
      cases b with
      | false =>
        gi_wp2
        refine ⟨KeepsFrom.refl _ _, KB.refl _ _ _, ⟨HI.out.1, ?_, HI.out.2.1, HI.out.2.2⟩, HB.out⟩
        rw [HSN.out, HSET.out, if_neg HTD.out, ← HBM.out, if_neg (by simp)]
        exact HI1.out
      | true =>
        by_cases tp : 0 ≤ x.n.p
        · obtain ⟨k2, hk2⟩ : ∃ k2 : Nat, x.n.p = (k2 : Int) := ⟨x.n.p.toNat, by omega⟩
          have hk2l : k2 < l.length := by omega
          have hkc2 := HI1.out.cell k2 (by have := HM.out; omega)
          have HK2 := Bx.mk hk2
          rw [hk2] at k1
          have tg : decide ((k2 : Int) ≥ 0) = true := decide_eq_true (by omega)
          clear tp hk2
          gi_wp2
          refine ⟨(KeepsOthers.setCell _ _ _).from _, KB.set _ _ _ (by omega), ⟨row_other HI.out.1 (by omega) _, ?_, row_other HI.out.2.1 (by omega) _, row_other HI.out.2.2 (by omega) _⟩, HB.out.setCell (by show q ≤ q + 1; omega) _⟩
          rw [HSN.out, HSET.out, if_neg HTD.out, ← HBM.out, HK2.out, if_pos (by rw [Bool.true_and, decide_eq_true_eq]; omega), Int.toNat_natCast]
          exact HI1.out.set k2 true
        · have tg : decide (x.n.p ≥ 0) = false := decide_eq_false tp
          have HTP := Bx.mk tp
          clear tp
          gi_wp2
          refine ⟨KeepsFrom.refl _ _, KB.refl _ _ _, ⟨HI.out.1, ?_, HI.out.2.1, HI.out.2.2⟩, HB.out⟩
          rw [HSN.out, HSET.out, if_neg HTD.out, ← HBM.out, if_neg (by rw [Bool.true_and, decide_eq_true_eq]; have := HTP.out; omega)]
          exact HI1.out
  case done =>
    rintro DD ys W hD hys ⟨⟨i0, i1, i2, i3⟩, hB⟩ hK
    rw [hys, foldN_bw l D _ (Nat.le_refl _)] at i1
    have hpm : pmB (nds l) D l.length = pruneM (nds l) D := by unfold pruneM; rw [nds_len]
    rw [hpm] at i1
    have hml : (pruneM (nds l) D).length = l.length := by unfold pruneM; rw [pmB_length, nds_len]
    have hBw : Below w.heap.size w W := HQ.out ▸ hB
    have hrd := i1.rd (c := l.length) (by omega)
    rw [hml] at hrd
    have hcall := keep_any W _ _ l (pruneM (nds l) D) (HL.out.below hBw) hrd hml (by omega) (fun i hi _ => HPA.out i hi)
    have e0 := cell_of_row _ _ 0 _ _ _ i2
    simp only [List.getElem?_toArray, List.getElem?_cons_zero, List.getElem?_cons_succ] at e0
    have HBW := Bx.mk hBw
    have HK := Bx.mk hK
    have hDlt := lt_of_at hK
    clear i0 i1 i2 i3 hB hBw hpm hml hys hrd hK b3 b3c
    go_wp2_with (go_at_call 49; refine hcall.mono ?_; rintro e w5 ⟨v5, l5, rfl, ho5, hn5, hb5⟩; obtain ⟨a5, c5, rfl, -⟩ := ho5.own.rd.form)
    have hK5 := (hb5.block DD hDlt).trans HK.out
    refine ⟨by simp, .inl ⟨_, _, rfl, run_takeDeferred hK5, ?_⟩⟩
    refine ⟨_, results_tmp rfl _ _ _, _, l5, rfl, (ho5.put hK5).mono HBW.out.size, hn5, ?_⟩
    exact (HBW.out.trans (hb5.mono HBW.out.size)).trans (belowK_b (w := W4) (by have := HZ.out; have := HQ.out; omega) _ DD _ _ hD hK5 rfl rfl)
  case stop =>
    rintro D c pre W hD hS hF
    exact hF.elim
end Go.Proofs.Ytmagjdocondmhaa.Tr

namespace Go.Proofs.Ytmagjdocondmhaa.Tr
open Go Go.RowKit Go.Proofs.Ytmagjdocondmhaa.Slc Go.Proofs.Ytmagjdocondmhaa.St Go.Proofs.Ytmagjdocondmhaa.Mp
set_option linter.unusedVariables false
set_option linter.unusedSimpArgs false

section
variable {P : Program} {α : Type} {enc : α → List Value} {z : Nat}
/-- append to a full slice -/
theorem run_append_full (w : World) (t ty e : TypeId) (i : TypeInfo) (zv : Value) (bytes : Nat) (E : Enc z enc) (ht : P.underlying t = some (.slice e)) (hi : P.info? e = some i) (hz : i.zero = some zv) (hsize : i.size = z) (hby : i.bytes = bytes) (hzs : zv.cells.size = z)
    (ad : Option Addr) (c0 : Nat) (l m : List α) (mv : Value) (h : Rd w enc (.slice ad l.length c0) l) (hm : Rd w enc mv m) (h63 : l.length + m.length ≤ maxLen) (hbytes : (l.length + m.length) * bytes ≤ 140737488355328) :
    ∃ v' w', (Builtin.append_ #[t, t] ty #[.slice ad l.length l.length, mv]).run P w = .ok v' w' ∧ Below w.heap.size w w' ∧ ((m = [] ∧ v' = .slice ad l.length l.length ∧ w' = w) ∨ (m ≠ [] ∧ Slc.Own w' w.heap.size e z enc v' (l ++ m))) := by
  subst hsize hby
  have hmake : ∀ (W : World) (n cap : Nat) (xs : List Value), n = (l ++ m).length → xs = (l ++ m).flatMap enc → n ≤ cap → cap ≤ maxLen → W.heap.size = w.heap.size →
      Slc.Own (W.alloc (.cells (xs.toArray ++ Builtin.zeroCells zv.cells (cap - n)) e)) w.heap.size e i.size enc (.slice (some ⟨w.heap.size, 0, none⟩) n cap) (l ++ m) := by
    intro W n cap xs hn hx hc hcm hs
    subst hn hx
    refine ⟨by rw [flat_len E], .inr ⟨w.heap.size, cap, _, rfl, Nat.le_refl _, by rw [← hs]; exact heap_alloc_new W _, hc, hcm, ?_, ?_⟩⟩
    · simp only [Array.size_append, List.size_toArray, size_zeroCells, hzs, flat_len E, ← Nat.add_mul]
      congr 1; omega
    · rw [Array.toList_append, List.take_left' (flat_len E (l ++ m))]
  rcases hm with ⟨rfl, rfl⟩ | ⟨a, o, c, rfl, hlt, hc, hcell⟩
  · refine ⟨.slice ad l.length l.length, w, ?_, Below.refl _ _, .inl ⟨rfl, rfl, rfl⟩⟩
    cases ad <;> simp [Builtin.append_, run_underlying ht, sizeOf, typeInfo, hi, Builtin.lenOf, Builtin.firstCells, loadCells, loadCellsFrom, go_sem]
  · by_cases h0 : m = []
    · subst h0
      refine ⟨.slice ad l.length l.length, w, ?_, Below.refl _ _, .inl ⟨rfl, rfl, rfl⟩⟩
      rcases h with ⟨h1, rfl⟩ | ⟨b, o', c', h1, h2, h3, h4⟩
      · simp only [Value.slice.injEq] at h1
        obtain ⟨rfl, -, -⟩ := h1
        simp [Builtin.append_, run_underlying ht, sizeOf, typeInfo, hi, Builtin.lenOf, Builtin.firstCells, loadCells, loadCellsFrom, go_sem]
      · simp only [Value.slice.injEq] at h1
        obtain ⟨rfl, -, -⟩ := h1
        simp [Builtin.append_, run_underlying ht, sizeOf, typeInfo, hi, Builtin.lenOf, Builtin.firstCells, loadCells, loadCellsFrom, go_sem]
    · have hp : 0 < m.length := by
        rcases Nat.eq_zero_or_pos m.length with q | q
        · exact absurd (List.eq_nil_of_length_eq_zero q) h0
        · exact q
      have hfm : ∀ j v, (m.flatMap enc)[j]? = some v → w.cell? ((⟨a, o, none⟩ : Addr).add j) = some v := fun j v hj => by rw [add_at]; exact hcell j v hj
      rcases h with ⟨h1, rfl⟩ | ⟨b, o', c', h1, h2, h3, h4⟩
      · simp only [Value.slice.injEq] at h1
        obtain ⟨rfl, -, -⟩ := h1
        simp only [List.length_nil, Nat.zero_add] at h63 hbytes
        have hr := run_append_nil (P := P) (w := w) t ty e i zv ht hi hz ⟨a, o, none⟩ m.length c (m.flatMap enc) (flat_len E m) hfm hp (by simp only [maxLen] at h63; omega) (by omega)
        refine ⟨_, _, hr, ⟨rfl, rfl, rfl, by simp, fun k hk => heap_alloc_old w.drew _ hk⟩, .inr ⟨h0, ?_⟩⟩
        exact hmake w.drew _ _ _ (by simp) (by simp) (grownCap_ge w m.length 0 e) (grownCap_le_maxLen w m.length 0 e h63) rfl
      · simp only [Value.slice.injEq] at h1
        obtain ⟨rfl, -, -⟩ := h1
        have hr := run_append_grow (P := P) w t ty e i zv ht hi hz ⟨b, o', none⟩ l.length l.length (l.flatMap enc) (flat_len E l) (fun j v hj => by rw [add_at]; exact h4 j v hj) ⟨a, o, none⟩ m.length c (m.flatMap enc) (flat_len E m) hfm (by omega) (by simp only [maxLen] at h63; omega) (growslice_fits (by omega) hbytes)
        refine ⟨_, _, hr, ⟨rfl, rfl, rfl, by simp, fun k hk => heap_alloc_old w.drew _ hk⟩, .inr ⟨h0, ?_⟩⟩
        have := hmake w.drew (l.length + m.length) _ (l.flatMap enc ++ m.flatMap enc) (by simp) (by simp) (grownCap_ge w (l.length + m.length) l.length e) (grownCap_le_maxLen w _ l.length e h63) rfl
        simpa using this
end
theorem cut_full (ad : Option Addr) (n c : Nat) (hn : n ≤ c) (h0 : ad = none → n = 0) (W : World) : (Instr.slice 23 (.slice ad n c) none (some (.int .i64 (n : Nat))) (some (.int .i64 (n : Nat)))).run Try.prog W = .ok (.slice ad n n) W := by
  have h1 : (n : Int) ≤ (c : Int) := by omega
  rw [run_slice_any W _ _ _ _ und_nodes']
  cases ad <;> simp [Instr.sliceBounds, run_sliceBound, size_nodes, sliced, Result.andThen, go_sem, h1]
theorem sorted_nds {l l' : List Nt} (h1 : Srt ltT (nds l')) (h2 : Stab ltT (nds l) (nds l')) : nds l' = sortT (nds l) := srtL_unique ltT_ord h1 h2
/-- the end of grown: the sort -/
def GrP (w : World) (l m : List Nt) (e : Ending) (w' : World) : Prop :=
  (2048 < l.length + m.length ∧ e = .returned (.tuple #[.slice none 0 0, .bool false]) ∧ Below w.heap.size w w') ∨
  (l.length + m.length ≤ 2048 ∧ ∃ v' l', e = .returned (.tuple #[v', .bool true]) ∧ TO w' w.heap.size v' l' ∧ nds l' = sortT (nds l ++ nds m) ∧ Below w.heap.size w w')
set_option maxRecDepth 100000 in
set_option maxHeartbeats 4000000 in
theorem grown_any (w : World) (tv mv : Value) (l m : List Nt) (h : TL w tv l) (hm : TL w mv m) (hn : l.length ≤ 100000) (hmn : m.length ≤ 100000) :
    Calls Try.prog 41 #[tv, mv] w fun e w' => GrP w l m e w' := by
  obtain ⟨i0, hi0, hz0, hz1, hz2⟩ := info_parts info_node
  obtain ⟨ad, c, rfl, hlc⟩ := h.rd.form
  obtain ⟨md, mc, rfl, -⟩ := hm.rd.form
  obtain ⟨v1, w1, hrun, hb1, hcase⟩ := run_append_full (P := Try.prog) w 23 23 56 i0 _ 56 encN_ok und_nodes hi0 hz0 hz1 hz2 rfl ad c l m (.slice md m.length mc) h.rd hm.rd (by unfold maxLen; omega) (by omega)
  have hcut := cut_full ad l.length c hlc (fun e => by
    subst e
    rcases h.rd with ⟨h1, rfl⟩ | ⟨b, o, c', h1, -⟩
    · rfl
    · simp at h1)
  have HL := Bx.mk h
  have HM := Bx.mk hm
  have HB1 := Bx.mk hb1
  have HN1 := Bx.mk (show nds (l ++ m) = nds l ++ nds m by simp [nds])
  unfold GrP
  rcases hcase with ⟨hm0, rfl, he⟩ | ⟨hm0, hown⟩
  · have he' := he.symm
    subst he'
    subst hm0
    clear he
    have hT : TL w (.slice ad l.length l.length) l := ⟨by
      rcases h.rd with ⟨h1, rfl⟩ | ⟨b, o, c', h1, h2, h3, h4⟩
      · simp only [Value.slice.injEq] at h1; obtain ⟨rfl, -, -⟩ := h1; exact .inl ⟨rfl, rfl⟩
      · simp only [Value.slice.injEq] at h1; obtain ⟨rfl, -, rfl⟩ := h1; exact .inr ⟨b, o, _, rfl, h2, Nat.le_refl _, h4⟩, h.at_⟩
    have hcl := cloneN_any w _ l hT (by omega)
    simp only [List.length_nil, Nat.add_zero] at hrun ⊢
    by_cases hl : 2048 < l.length
    · have t1 : decide ((l.length : Int) > 2048) = true := decide_eq_true (by omega)
      clear hcl h hm hb1 hT
      go_enter Try.func41, Try.ntmps41
      go_wp2_with (at_builtin; refine Lib.wpList_append_run _ rfl _ _ _ _ rfl _ _ rfl rfl _ _ hrun ?_)
      go_ret2
      exact .inl ⟨hl, rfl, Below.refl _ _⟩
    · have t1 : decide ((l.length : Int) > 2048) = false := decide_eq_false (by omega)
      clear h hm hb1 hT
      go_enter Try.func41, Try.ntmps41
      go_wp2_with first
        | (at_builtin; refine Lib.wpList_append_run _ rfl _ _ _ _ rfl _ _ rfl rfl _ _ hrun ?_)
        | fail
      go_at_call 50
      refine hcl.mono ?_
      rintro e w2 ⟨u, rfl, hto, hb2⟩
      have hs := sort_any w2 w.heap.size u l hto (by omega)
      obtain ⟨ua, uc, rfl, -⟩ := hto.own.rd.form
      have HTO := Bx.mk hto
      have HB2 := Bx.mk hb2
      clear hcl hto hb2 hcut hrun
      unfold cmpV at hs
      go_wp2_with fail
      go_at_call 65
      refine hs.mono ?_
      rintro e w3 ⟨rfl, l', ho3, h1, h2, hg3⟩
      have HO3 := Bx.mk ho3
      have HF := Bx.mk (sorted_nds h1 h2)
      have HB3 := Bx.mk (HB2.out.grown hg3 HB2.out.size fun k hk => (HTO.out.own.lt k hk).1)
      clear hs ho3 h1 h2 hg3
      go_wp2_with fail
      go_ret2
      exact .inr ⟨by omega, _, l', rfl, HO3.out, by simpa [nds] using HF.out, HB3.out⟩
  · have hto : TO w1 w.heap.size v1 (l ++ m) := ⟨hown, fun x hx => by
      have hx' : NtAt w x := by
        rcases List.mem_append.1 hx with q | q
        · exact h.at_ x q
        · exact hm.at_ x q
      exact ((NtIn.of hx').below hb1).mono fun k _ hk e => by have := (hown.lt k e).1; omega⟩
    have hs := sort_any w1 w.heap.size v1 (l ++ m) hto (by simp; omega)
    obtain ⟨ua, uc, rfl, -⟩ := hto.own.rd.form
    have hmp : 0 < m.length := by
      rcases Nat.eq_zero_or_pos m.length with q | q
      · exact absurd (List.eq_nil_of_length_eq_zero q) hm0
      · exact q
    have t2 : decide ((m.length : Int) = 0) = false := decide_eq_false (by omega)
    have t3 : ((m.length : Int) == 0) = false := by rw [beq_eq_false_iff_ne]; omega
    have HTO := Bx.mk hto
    clear hto hown h hm hb1
    rw [List.length_append] at hrun hs
    unfold cmpV at hs
    by_cases hl : 2048 < l.length + m.length
    · have t1 : decide (((l.length + m.length : Nat) : Int) > 2048) = true := decide_eq_true (by omega)
      have t1' : decide ((l.length : Int) + (m.length : Int) > 2048) = true := decide_eq_true (by omega)
      clear hs
      go_enter Try.func41, Try.ntmps41
      go_wp2_with (at_builtin; refine Lib.wpList_append_run _ rfl _ _ _ _ rfl _ _ rfl rfl _ _ hrun ?_)
      go_ret2
      exact .inl ⟨hl, rfl, HB1.out⟩
    · have t1 : decide (((l.length + m.length : Nat) : Int) > 2048) = false := decide_eq_false (by omega)
      have t1' : decide ((l.length : Int) + (m.length : Int) > 2048) = false := decide_eq_false (by omega)
      go_enter Try.func41, Try.ntmps41
      go_wp2_with first
        | (at_builtin; refine Lib.wpList_append_run _ rfl _ _ _ _ rfl _ _ rfl rfl _ _ hrun ?_)
        | fail
      go_at_call 65
      refine hs.mono ?_
      rintro e w3 ⟨rfl, l', ho3, h1, h2, hg3⟩
      have HO3 := Bx.mk ho3
      have HF := Bx.mk (sorted_nds h1 h2)
      have HB3 := Bx.mk (HB1.out.grown hg3 HB1.out.size fun k hk => (HTO.out.own.lt k (by rw [List.length_append]; exact hk)).1)
      clear hs ho3 h1 h2 hg3 hrun hcut
      go_wp2_with fail
      go_ret2
      exact .inr ⟨by omega, _, l', rfl, HO3.out, by rw [HF.out, HN1.out], HB3.out⟩
theorem own_alloc {α : Type} {enc : α → List Value} {z Bk : Nat} {e : TypeId} (E : Enc z enc) (w : World) (l : List α) (cs : Array Value) (hc : cs.toList = l.flatMap enc) (hB : Bk ≤ w.heap.size) (hl : l.length ≤ maxLen) :
    Slc.Own (w.alloc (.cells cs e)) Bk e z enc (.slice (some ⟨w.heap.size, 0, none⟩) l.length l.length) l := by
  have hs : cs.size = l.length * z := by rw [← Array.length_toList, hc, flat_len E]
  refine ⟨flat_len E l, .inr ⟨w.heap.size, l.length, cs, rfl, hB, heap_alloc_new _ _, Nat.le_refl _, hl, hs, ?_⟩⟩
  rw [← hs, ← hc, ← Array.length_toList, List.take_length]
set_option maxRecDepth 100000 in
theorem proot_any (w : World) : Calls Try.prog 18 #[] w fun e w' => ∃ v' l', e = .returned v' ∧ TO w' w.heap.size v' l' ∧ nds l' = [⟨0, -1, anyP, [anyP]⟩] ∧ Below w.heap.size w w' := by
  go_enter Try.func18, Try.ntmps18
  go_wp2
  go_ret
  obtain ⟨W1, hW1⟩ : ∃ W1, W1 = w.alloc (.cells #[.string ⟨#[50, 46, 53, 46, 50, 57, 46, 51, 50, 46, 48]⟩] 9) := ⟨_, rfl⟩
  have ho1 : Slc.Own W1 w.heap.size 9 1 encS (.slice (some ⟨w.heap.size, 0, none⟩) 1 1) [anyP] := by
    rw [hW1]; exact own_alloc encS_ok w [anyP] _ rfl (Nat.le_refl _) (by unfold maxLen; simp)
  have hs1 : W1.heap.size = w.heap.size + 1 := by rw [hW1]; simp
  have hb1 : Below w.heap.size w W1 := by rw [hW1]; exact (Below.refl _ _).alloc (Nat.le_refl _) _
  rw [← hW1]
  have ho2 : Slc.Own (W1.alloc (.cells #[.int .i64 0, .int .i64 (-1), .string ⟨#[50, 46, 53, 46, 50, 57, 46, 51, 50, 46, 48]⟩, .slice (some ⟨w.heap.size, 0, none⟩) 1 1] 56)) w.heap.size 56 4 encN (.slice (some ⟨W1.heap.size, 0, none⟩) 1 1) [⟨⟨0, -1, anyP, [anyP]⟩, ⟨some ⟨w.heap.size, 0, none⟩, 1, 1⟩⟩] :=
    own_alloc encN_ok W1 [⟨⟨0, -1, anyP, [anyP]⟩, ⟨some ⟨w.heap.size, 0, none⟩, 1, 1⟩⟩] _ rfl (by omega) (by unfold maxLen; simp)
  rw [hs1] at ho2
  refine ⟨_, [⟨⟨0, -1, anyP, [anyP]⟩, ⟨some ⟨w.heap.size, 0, none⟩, 1, 1⟩⟩], rfl, ⟨ho2, fun x hx => ?_⟩, rfl, hb1.alloc (by omega) _⟩
  rw [List.mem_singleton] at hx
  subst hx
  refine ⟨⟨(ho1.below ((Below.refl _ _).alloc (Nat.le_refl _) _)).rd, fun k hk e => ?_⟩, ⟨by simp, fun b hb => ?_⟩, by show 11 ≤ 1000000; omega⟩
  · have hk' : some w.heap.size = some k := hk
    have he' : some (w.heap.size + 1) = some k := e
    rw [← hk'] at he'
    simp only [Option.some.injEq] at he'
    omega
  · rw [List.mem_singleton] at hb
    subst hb
    show 11 ≤ 1000000; omega
end Go.Proofs.Ytmagjdocondmhaa.Tr
