/-
ptree.prune.
Stores into a graph that the call owns.
Maps as functions: clear, len.
Graphs that came in; pgraph.fits.
-/
import Derived.Test.YtmagjdocondmhaaGreatPkSs06
import Derived.Laws.Append
import Derived.Laws.PanicsMore
import Derived.Lib.AppendZeros
import Derived.Test.YtmagjdocondmhaaGreatPkSs05
import Derived.Test.YtmagjdocondmhaaGreatPkSs04
import Derived.Lib.SlKeysI
namespace Go.Proofs.YtmagjdocondmhaaGreat.Tr
open Go Go.RowKit Go.Shelf Go.Sort Go.Proofs.YtmagjdocondmhaaGreat.Slc Go.Proofs.YtmagjdocondmhaaGreat.St Go.Proofs.YtmagjdocondmhaaGreat.Mp Go.Proofs.YtmagjdocondmhaaGreat.Rg
set_option linter.unusedVariables false
set_option linter.unusedSimpArgs false
attribute [local go_sem] Oper.semAt_some

/-- a block of marks -/
def MB (w : World) (b : Nat) (m : List Bool) : Prop := w.heap[b]? = some (.cells (m.map Value.bool).toArray 4 (0, 0))
theorem MB.cell {w : World} {b : Nat} {m : List Bool} (h : MB w b m) (i : Nat) (hi : i < m.length) : w.cell? ⟨b, i, none⟩ = some (.bool m[i]!) := by
  have := cell_of_row _ _ i _ _ _ h
  rw [this, getElem!_pos m i hi]
  simp [hi]
theorem MB.set {w : World} {b : Nat} {m : List Bool} (h : MB w b m) (i : Nat) (x : Bool) : MB (w.setCell ⟨b, i, none⟩ (.bool x)) b (m.set i x) := by
  have := row_set h (i := i) (.bool x)
  unfold MB
  rw [this, List.map_set]
  simp
theorem MB.rd {w : World} {b c : Nat} {m : List Bool} (h : MB w b m) (hc : m.length ≤ c) : Rd w encM (.slice (some ⟨b, 0, none⟩) m.length c) m := by
  refine .inr ⟨b, 0, c, rfl, lt_of_some h, hc, fun j u hj => ?_⟩
  have e : m.flatMap encM = m.map Value.bool := by
    clear h hc hj
    induction m with
    | nil => rfl
    | cons x l ih => simp [encM, List.flatMap_cons, ih]
  rw [e] at hj
  have := cell_of_row _ _ j _ _ _ h
  rw [Nat.zero_add, this]
  simpa using hj
theorem MB.other {w : World} {b p i : Nat} {m : List Bool} (h : MB w b m) (hne : b ≠ p) (v : Value) : MB (w.setCell ⟨p, i, none⟩ v) b m := row_other h hne v
theorem MB.kept {A W : World} {B0 b : Nat} {m : List Bool} {row : Option Nat} (h : MB A b m) (hg : A.grownBy W row) (hr : ∀ r, row = some r → B0 ≤ r ∧ ∃ o : Obj, A.heap[r]? = some o ∧ o.isCells = false) : MB W b m := cells_kept (B0 := B0) h hg hr
theorem made_marks (n : Nat) : madeCells (Value.bool false).cells (n * 1) = ((List.replicate n false).map Value.bool).toArray := by
  have := toList_madeCells_one (.bool false) n
  have e : (Value.bool false).cells = #[.bool false] := rfl
  rw [e, Nat.mul_one, List.map_replicate, ← this]
/-- one node of pruning -/
def stepN (D : Int) (m : List Bool) (x : Int × Nt) : List Bool :=
  let m1 := if x.2.n.d = D then m.set x.1.toNat true else m
  if m1[x.1.toNat]! && decide (x.2.n.p ≥ 0) then m1.set x.2.n.p.toNat true else m1
theorem stepN_length (D : Int) (m : List Bool) (x : Int × Nt) : (stepN D m x).length = m.length := by
  have e : ∀ (m1 : List Bool), m1.length = m.length → (if m1[x.1.toNat]! && decide (x.2.n.p ≥ 0) then m1.set x.2.n.p.toNat true else m1).length = m.length := by
    intro m1 h
    split
    · rw [List.length_set]; exact h
    · exact h
  unfold stepN
  refine e _ ?_
  split
  · rw [List.length_set]
  · rfl
def foldN (D : Int) (N : Nat) (l : List (Int × Nt)) : List Bool := l.foldl (stepN D) (List.replicate N false)
theorem foldN_length (D : Int) (N : Nat) (l : List (Int × Nt)) : (foldN D N l).length = N := by
  have : ∀ (l : List (Int × Nt)) (m : List Bool), (l.foldl (stepN D) m).length = m.length := by
    intro l
    induction l with
    | nil => intro m; rfl
    | cons x l ih => intro m; rw [List.foldl_cons, ih, stepN_length]
  unfold foldN; rw [this, List.length_replicate]
theorem foldN_snoc (D : Int) (N : Nat) (l : List (Int × Nt)) (x : Int × Nt) : foldN D N (l ++ [x]) = stepN D (foldN D N l) x := by unfold foldN; rw [List.foldl_append]; rfl
theorem foldN_bw (l : List Nt) (D : Int) : ∀ k, k ≤ l.length → foldN D l.length (bw l k) = pmB (nds l) D k := by
  intro k
  induction k with
  | zero => intro _; simp [foldN, bw, pmB, nds]
  | succ k ih =>
    intro hk
    obtain ⟨m, hm⟩ : ∃ m, m + 1 + k = l.length := ⟨l.length - 1 - k, by omega⟩
    have hml : m < l.length := by omega
    rw [bw_succ l k m hm, foldN_snoc, ih (by omega), pmB]
    have e : (nds l).length - 1 - k = m := by rw [nds_len]; omega
    rw [e]
    unfold stepN stepM
    rw [nds_at l m hml]; rfl
theorem rd_put {α : Type} {enc : α → List Value} {w : World} {D : Nat} {x : Option (List Deferred)} {o : Obj} {v : Value} {l : List α} (h : Rd w enc v l) (hD : w.heap[D]? = some (.deferred x)) : Rd (w.putObj D o) enc v l := by
  rcases h with h | ⟨b, c, cp, rfl, hlt, hc, hcell⟩
  · exact .inl h
  · have hg := grownBy_putObj' w D o
    refine .inr ⟨b, c, cp, rfl, by have := hg.size; omega, hc, fun j u hj => ?_⟩
    have h1 := hcell j u hj
    by_cases e : b = D
    · subst e
      unfold World.cell? at h1
      rw [hD] at h1
      cases h1
    · unfold World.cell? at h1 ⊢
      rw [hg.block b hlt (by simp only [ne_eq, Option.some.injEq]; exact e)]
      exact h1
theorem TO.put {w : World} {Bk D : Nat} {x : Option (List Deferred)} {o : Obj} {v : Value} {l : List Nt} (h : TO w Bk v l) (hD : w.heap[D]? = some (.deferred x)) : TO (w.putObj D o) Bk v l :=
  ⟨own_kept (B0 := 0) h.own (grownBy_putObj' w D o) (fun r hr => by cases hr; exact ⟨by omega, _, hD, rfl⟩), fun y hy => by
    obtain ⟨⟨h1, h2⟩, h3⟩ := h.nm y hy
    exact ⟨⟨rd_put h1 hD, h2⟩, h3⟩⟩
set_option maxRecDepth 100000 in
set_option maxHeartbeats 4000000 in
theorem prune_any (w : World) (v : Value) (l : List Nt) (h : TL w v l) (hn : l.length ≤ 5000) (hp : ∀ i, i < l.length → -1 ≤ (nds l)[i]!.p ∧ (nds l)[i]!.p < i) (D : Int) :
    Calls Tryz.prog 84 #[v, .int .i64 D] w fun e w' => ∃ v' l', e = .returned v' ∧ TO w' w.heap.size v' l' ∧ nds l' = pruneP (nds l) D ∧ Below w.heap.size w w' := by
  obtain ⟨ib, hib, hib0, hib1, hib2⟩ := info_parts (show (Tryz.prog.info? 4).map (fun i => (i.zero, i.size, i.bytes)) = some (some (.bool false), 1, 1) by kernel_rfl)
  obtain ⟨ad, c, rfl, -⟩ := h.rd.form
  have HL := Bx.mk h
  have HPA := Bx.mk hp
  have HS := Bx.mk (show ∀ (i : Nat) (h : i < l.length), -1 ≤ (l[i]).n.p ∧ (l[i]).n.p < i from fun i hi => by
    have := hp i hi
    rw [nds_at l i hi] at this
    exact this)
  clear h hp
  obtain ⟨q, hq⟩ : ∃ q, q = w.heap.size := ⟨_, rfl⟩
  have HQ := Bx.mk hq
  have hmk := fun W : World => run_makeSlice (P := Tryz.prog) W 75 4 ib (.bool false) Tryz.underlying75 hib hib0 .i64 .i64 (l.length : Nat) (l.length : Nat) (by omega) (by omega) (by rw [Int.toNat_natCast, hib1]; omega) (by rw [hib2]; omega) (by omega)
  simp only [Int.toNat_natCast, hib1, made_marks] at hmk
  obtain ⟨W1, hW1⟩ : ∃ W1, W1 = w.alloc (.cells #[.int .i64 D] 3) := ⟨_, rfl⟩
  obtain ⟨W2, hW2⟩ : ∃ W2, W2 = W1.alloc (.cells ((List.replicate l.length false).map Value.bool).toArray 4) := ⟨_, rfl⟩
  obtain ⟨W3, hW3⟩ : ∃ W3, W3 = W2.alloc (.cells #[.slice (some ⟨q + 1, 0, none⟩) l.length l.length] 75) := ⟨_, rfl⟩
  obtain ⟨W4, hW4⟩ : ∃ W4, W4 = W3.alloc (.cells #[.slice ad l.length c] 54) := ⟨_, rfl⟩
  have s1 : W1.heap.size = q + 1 := by rw [hW1, hq]; simp
  have s2 : W2.heap.size = q + 2 := by rw [hW2]; simp [s1]
  have s3 : W3.heap.size = q + 3 := by rw [hW3]; simp [s2]
  have s4 : W4.heap.size = q + 4 := by rw [hW4]; simp [s3]
  have HR0 := Bx.mk (show W4.heap[q]? = some (.cells #[.int .i64 D] 3 (0, 0)) by rw [hW4, hW3, hW2]; exact alloc_keep (alloc_keep (alloc_keep (by rw [hW1]; exact alloc_at hq))))
  have HR1 := Bx.mk (show MB W4 (q + 1) (List.replicate l.length false) by unfold MB; rw [hW4, hW3]; exact alloc_keep (alloc_keep (by rw [hW2]; exact alloc_at (by omega))))
  have HR2 := Bx.mk (show W4.heap[q + 2]? = some (.cells #[.slice (some ⟨q + 1, 0, none⟩) l.length l.length] 75 (0, 0)) by rw [hW4]; exact alloc_keep (by rw [hW3]; exact alloc_at (by omega)))
  have HR3 := Bx.mk (show W4.heap[q + 3]? = some (.cells #[.slice ad l.length c] 54 (0, 0)) by rw [hW4]; exact alloc_at (by omega))
  have HB0 := Bx.mk (show Below q w W4 by
    rw [hW4, hW3, hW2, hW1]
    exact ((((Below.refl _ _).alloc (by omega) _).alloc (by simp; omega) _).alloc (by simp; omega) _).alloc (by simp; omega) _)
  have HZ := Bx.mk s4
  have hbc := fun W => callsIn_wide.1 (backN_in Fence.wide 6 trivial rfl ad l.length c W)
  refine (callsIn_wide (n := 6)).1 (callsIn_of_wp_marks Tryz.func84 rfl trivial (wpIn_wide.2 ?_) rfl)
  simp only [Tryz.ntmps84, List.size_toArray, List.length_cons, List.length_nil, Nat.reduceAdd, Nat.reduceSub, Array.replicate_succ, Array.replicate_zero, List.push_toArray, List.append_toArray, List.nil_append, List.cons_append]
  go_upto_region 1 with fail
  rw [← hq, ← hW1]
  have hmk1 := hmk W1
  rw [s1, ← hW2] at hmk1
  clear hW1 hmk hq hW2
  go_upto_region 2 with fail
  rw [← hW3]
  clear hmk1 hW3
  go_wp2_with (go_at_call 118; refine (hbc _).mono ?_; rintro e w' ⟨rfl, rfl⟩)
  rw [← hW4]
  clear hW4 hbc s1 s2 s3 s4
  have b3 := HR3.out
  have b3c := cell_of_row _ _ 0 _ _ _ b3
  simp only [List.getElem?_toArray, List.getElem?_cons_zero] at b3c
  refine wpIn_wide.1 (rf_H (F := Fence.wide) (n := 6) rfl (by omega) (gf := 135) (lb := #[.pointer (some ⟨q + 3, 0, none⟩)]) rfl trivial (enters_of Tryz.func135 (by kernel_rfl) rfl)
    (backN_stops Fence.wide 5 trivial rfl (by omega) (q + 3) (q + 4) (q + 1) ad c l (by omega) HS.out W4 (by have := HZ.out; omega) (by omega) (by omega) b3c ⟨w, HL.out.rd, by have := HQ.out; omega, by have := HQ.out; omega, HQ.out ▸ HB0.out⟩) (fun h k => h.trans k) (fun W l o o' h1 h2 h3 h4 => KB.of_below (belowK_b (w := W4) (by have := HZ.out; omega) W l o o' h1 h2 h3 h4)) (Below.refl _ _) (fun _ => rfl)
    (fun (pre : List (NtB l.length)) W => (W.heap[q]? = some (.cells #[.int .i64 D] 3 (0, 0)) ∧ MB W (q + 1) (foldN D l.length (pre.map (fun y : NtB l.length => y.1))) ∧ W.heap[q + 2]? = some (.cells #[.slice (some ⟨q + 1, 0, none⟩) l.length l.length] 75 (0, 0)) ∧ W.heap[q + 3]? = some (.cells #[.slice ad l.length c] 54 (0, 0))) ∧ Below q w W)
    (fun _ _ _ => False)
    (OwnFrom.and (fun s A B row h hg hr => ⟨cells_kept h.1 hg hr, h.2.1.kept hg hr, cells_kept h.2.2.1 hg hr, cells_kept h.2.2.2 hg hr⟩) (ownFrom_below (by have := HQ.out; omega) (by have := HZ.out; omega)))
    (fun c s A B row h hg hr => h)
    ⟨⟨HR0.out, HR1.out, HR2.out, HR3.out⟩, HB0.out⟩
    (fun a x a' W => ∃ bx : Nat, q + 4 ≤ bx ∧ W.heap[bx]? = some (.cells #[.int .i64 x.1.2.n.d, .int .i64 x.1.2.n.p, .string (bstr x.1.2.n.pol), .slice x.1.2.u.ad x.1.2.u.n x.1.2.u.c] 111 (0, 0)) ∧ a' = { tmps := (((a.tmps.setIfInBounds 13 (.int .i64 x.1.1)).setIfInBounds 14 (.agg #[.int .i64 x.1.2.n.d, .int .i64 x.1.2.n.p, .string (bstr x.1.2.n.pol), .slice x.1.2.u.ad x.1.2.u.n x.1.2.u.c])).setIfInBounds 6 (.int .i64 x.1.1)).setIfInBounds 7 (.pointer (some ⟨bx, 0, none⟩)), defers := [] })
    (fun x a' s A B row h hg hr => by obtain ⟨bx, q1, q2, q3⟩ := h; exact ⟨bx, q1, cells_kept q2 hg hr, q3⟩)
    ?assign ?body ?done ?stop)
  case assign =>
    rintro l' pre x W K' ⟨⟨i0, i1, i2, i3⟩, hB⟩ hK
    have hsz := lt_of_at i3
    unfold nodS
    gi_wp2
    exact hK _ _ ((KeepsOthers.alloc _ _).from _) (KB.of_below ((Below.refl _ W).alloc (by omega) _)) ⟨⟨alloc_keep i0, alloc_keep i1, alloc_keep i2, alloc_keep i3⟩, hB.alloc (by omega) _⟩ ⟨W.heap.size, by omega, heap_alloc_new _ _, rfl⟩
  case body =>
    rintro l' pre x a' W hl' hr ⟨⟨i0, i1, i2, i3⟩, hB⟩ ⟨bx, hbx, hbk, rfl⟩ hlt
    obtain ⟨M, hM⟩ : ∃ M, M = foldN D l.length (pre.map (·.1)) := ⟨_, rfl⟩
    have hML : M.length = l.length := by rw [hM, foldN_length]
    have HSN := Bx.mk (show ∀ y : NtB l.length, foldN D l.length ((pre ++ [y]).map (·.1)) = stepN D M y.1 from fun y => by
      rw [List.map_append, List.map_singleton, foldN_snoc, hM])
    rw [← hM] at i1
    obtain ⟨⟨n0, x⟩, hx0, hx1, hx2, hx3⟩ := x
    simp only at hx0 hx1 hx2 hx3 hbk
    obtain ⟨k, rfl⟩ : ∃ k : Nat, n0 = (k : Int) := ⟨n0.toNat, by omega⟩
    have hsz := lt_of_at i3
    have HI1 := Bx.mk i1
    have HM := Bx.mk hML
    have HI := Bx.mk (And.intro i0 (And.intro i2 i3))
    have HB := Bx.mk hB
    simp only [List.setIfInBounds_toArray, List.set_cons_succ, List.set_cons_zero]
    have d0 := cell_of_row _ _ 0 _ _ _ i0
    have k0 := cell_of_row _ _ 0 _ _ _ hbk
    have k1 := cell_of_row _ _ 1 _ _ _ hbk
    have e0 := cell_of_row _ _ 0 _ _ _ i2
    simp only [List.getElem?_toArray, List.getElem?_cons_zero, List.getElem?_cons_succ] at d0 k0 k1 e0
    have zf := fun i => frozen_row (i := i) i1
    have hkl : k < l.length := by omega
    have hkc := i1.cell k (by omega)
    have hset : stepN D M ((k : Int), x) = if (if x.n.d = D then M.set k true else M)[k]! && decide (x.n.p ≥ 0) then (if x.n.d = D then M.set k true else M).set x.n.p.toNat true else (if x.n.d = D then M.set k true else M) := rfl
    have HSET := Bx.mk hset
    have hBq := HB.out.size
    clear hM hML i0 i2 i3 hB hset i1
    by_cases td : x.n.d = D
    · have tq : (x.n.d == D) = true := by simp [td]
      have hk1 : (M.set k true)[k]! = true := by rw [set_at _ _ _ _ (by have := HM.out; omega), if_pos rfl]
      have HK1 := Bx.mk hk1
      have HTD := Bx.mk td
      clear hk1 td
      by_cases tp : 0 ≤ x.n.p
      · obtain ⟨k2, hk2⟩ : ∃ k2 : Nat, x.n.p = (k2 : Int) := ⟨x.n.p.toNat, by omega⟩
        have h12 : k2 < k := by omega
        have hne : ¬ k = k2 := by omega
        have hne' : ¬ k2 = k := by omega
        have hk2l : k2 < l.length := by omega
        have hkc2 := HI1.out.cell k2 (by have := HM.out; omega)
        have HK2 := Bx.mk hk2
        rw [hk2] at k1
        have tg : decide ((k2 : Int) ≥ 0) = true := decide_eq_true (by omega)
        clear tp hk2
        gi_wp2
        refine ⟨((KeepsOthers.setCell _ _ _).trans (KeepsOthers.setCell _ _ _)).from _, (KB.set _ _ _ (by omega)).trans (KB.set _ _ _ (by simp; omega)), ⟨row_other (row_other HI.out.1 (by omega) _) (by omega) _, ?_, row_other (row_other HI.out.2.1 (by omega) _) (by omega) _, row_other (row_other HI.out.2.2 (by omega) _) (by omega) _⟩, (HB.out.setCell (by show q ≤ q + 1; omega) _).setCell (by show q ≤ q + 1; omega) _⟩
        rw [HSN.out, HSET.out, if_pos HTD.out, HK1.out, HK2.out, if_pos (by rw [Bool.true_and, decide_eq_true_eq]; omega), Int.toNat_natCast]
        exact (HI1.out.set k true).set k2 true
      · have tg : decide (x.n.p ≥ 0) = false := decide_eq_false tp
        have HTP := Bx.mk tp
        clear tp
        gi_wp2
        refine ⟨(KeepsOthers.setCell _ _ _).from _, KB.set _ _ _ (by omega), ⟨row_other HI.out.1 (by omega) _, ?_, row_other HI.out.2.1 (by omega) _, row_other HI.out.2.2 (by omega) _⟩, HB.out.setCell (by show q ≤ q + 1; omega) _⟩
        rw [HSN.out, HSET.out, if_pos HTD.out, HK1.out, if_neg (by rw [Bool.true_and, decide_eq_true_eq]; have := HTP.out; omega)]
        exact HI1.out.set k true
    · have tq : (x.n.d == D) = false := by simp [td]
      have HTD := Bx.mk td
      obtain ⟨b, hb⟩ : ∃ b, b = M[k]! := ⟨_, rfl⟩
      rw [← hb] at hkc
      have HBM := Bx.mk hb
      clear td hb
      cases b with
      | false =>
        gi_wp2
        refine ⟨KeepsFrom.refl _ _, KB.refl _ _ _, ⟨HI.out.1, ?_, HI.out.2.1, HI.out.2.2⟩, HB.out⟩
        rw [HSN.out, HSET.out, if_neg HTD.out, ← HBM.out, if_neg (by simp)]
        exact HI1.out
      | true =>
        by_cases tp : 0 ≤ x.n.p
        · obtain ⟨k2, hk2⟩ : ∃ k2 : Nat, x.n.p = (k2 : Int) := ⟨x.n.p.toNat, by omega⟩
          have hk2l : k2 < l.length := by omega
          have hkc2 := HI1.out.cell k2 (by have := HM.out; omega)
          have HK2 := Bx.mk hk2
          rw [hk2] at k1
          have tg : decide ((k2 : Int) ≥ 0) = true := decide_eq_true (by omega)
          clear tp hk2
          gi_wp2
          refine ⟨(KeepsOthers.setCell _ _ _).from _, KB.set _ _ _ (by omega), ⟨row_other HI.out.1 (by omega) _, ?_, row_other HI.out.2.1 (by omega) _, row_other HI.out.2.2 (by omega) _⟩, HB.out.setCell (by show q ≤ q + 1; omega) _⟩
          rw [HSN.out, HSET.out, if_neg HTD.out, ← HBM.out, HK2.out, if_pos (by rw [Bool.true_and, decide_eq_true_eq]; omega), Int.toNat_natCast]
          exact HI1.out.set k2 true
        · have tg : decide (x.n.p ≥ 0) = false := decide_eq_false tp
          have HTP := Bx.mk tp
          clear tp
          gi_wp2
          refine ⟨KeepsFrom.refl _ _, KB.refl _ _ _, ⟨HI.out.1, ?_, HI.out.2.1, HI.out.2.2⟩, HB.out⟩
          rw [HSN.out, HSET.out, if_neg HTD.out, ← HBM.out, if_neg (by rw [Bool.true_and, decide_eq_true_eq]; have := HTP.out; omega)]
          exact HI1.out
  case done =>
    rintro DD ys W hD hys ⟨⟨i0, i1, i2, i3⟩, hB⟩ hK
    rw [hys, foldN_bw l D _ (Nat.le_refl _)] at i1
    have hpm : pmB (nds l) D l.length = pruneM (nds l) D := by unfold pruneM; rw [nds_len]
    rw [hpm] at i1
    have hml : (pruneM (nds l) D).length = l.length := by unfold pruneM; rw [pmB_length, nds_len]
    have hBw : Below w.heap.size w W := HQ.out ▸ hB
    have hrd := i1.rd (c := l.length) (by omega)
    rw [hml] at hrd
    have hcall := keep_any W _ _ l (pruneM (nds l) D) (HL.out.below hBw) hrd hml (by omega) (fun i hi _ => HPA.out i hi)
    have e0 := cell_of_row _ _ 0 _ _ _ i2
    simp only [List.getElem?_toArray, List.getElem?_cons_zero, List.getElem?_cons_succ] at e0
    have HBW := Bx.mk hBw
    have HK := Bx.mk hK
    have hDlt := lt_of_at hK
    clear i0 i1 i2 i3 hB hBw hpm hml hys hrd hK b3 b3c
    go_wp2_with (go_at_call 87; refine hcall.mono ?_; rintro e w5 ⟨v5, l5, rfl, ho5, hn5, hb5⟩; obtain ⟨a5, c5, rfl, -⟩ := ho5.own.rd.form)
    have hK5 := (hb5.block DD hDlt).trans HK.out
    refine ⟨by simp, .inl ⟨_, _, rfl, run_takeDeferred hK5, ?_⟩⟩
    refine ⟨_, results_tmp rfl _ _ _, _, l5, rfl, (ho5.put hK5).mono HBW.out.size, hn5, ?_⟩
    exact (HBW.out.trans (hb5.mono HBW.out.size)).trans (belowK_b (w := W4) (by have := HZ.out; have := HQ.out; omega) _ DD _ _ hD hK5 rfl rfl)
  case stop =>
    rintro D c pre W hD hS hF
    exact hF.elim
end Go.Proofs.YtmagjdocondmhaaGreat.Tr

namespace Go.Proofs.YtmagjdocondmhaaGreat.Tr
open Go Go.RowKit Go.Proofs.YtmagjdocondmhaaGreat.Slc Go.Proofs.YtmagjdocondmhaaGreat.St Go.Proofs.YtmagjdocondmhaaGreat.Mp
set_option linter.unusedVariables false
set_option linter.unusedSimpArgs false

section
variable {P : Program} {α : Type} {enc : α → List Value} {z : Nat}
end
/-- the end of grown: the sort -/
def GrP (w : World) (l m : List Nt) (e : Ending) (w' : World) : Prop :=
  (2048 < l.length + m.length ∧ e = .returned (.tuple #[.slice none 0 0, .bool false]) ∧ Below w.heap.size w w') ∨
  (l.length + m.length ≤ 2048 ∧ ∃ v' l', e = .returned (.tuple #[v', .bool true]) ∧ TO w' w.heap.size v' l' ∧ nds l' = sortT (nds l ++ nds m) ∧ Below w.heap.size w w')
theorem own_alloc {α : Type} {enc : α → List Value} {z Bk : Nat} {e : TypeId} (E : Enc z enc) (w : World) (l : List α) (cs : Array Value) (hc : cs.toList = l.flatMap enc) (hB : Bk ≤ w.heap.size) (hl : l.length ≤ maxLen) :
    Slc.Own (w.alloc (.cells cs e)) Bk e z enc (.slice (some ⟨w.heap.size, 0, none⟩) l.length l.length) l := by
  have hs : cs.size = l.length * z := by rw [← Array.length_toList, hc, flat_len E]
  refine ⟨flat_len E l, .inr ⟨w.heap.size, l.length, cs, rfl, hB, heap_alloc_new _ _, Nat.le_refl _, hl, hs, ?_⟩⟩
  rw [← hs, ← hc, ← Array.length_toList, List.take_length]
end Go.Proofs.YtmagjdocondmhaaGreat.Tr
namespace Go.Proofs.YtmagjdocondmhaaGreat.Tr.Gr
open Go Go.RowKit Go.Proofs.YtmagjdocondmhaaGreat.Slc Go.Proofs.YtmagjdocondmhaaGreat.St Go.Proofs.YtmagjdocondmhaaGreat.Mp Go.Proofs.YtmagjdocondmhaaGreat.Tr
set_option linter.unusedVariables false
set_option linter.unusedSimpArgs false

theorem VtIn.and {w : World} {S S' : Nat → Prop} {x : Vt} (h : VtIn w S x) (h' : VtIn w S' x) : VtIn w (fun k => S k ∧ S' k) x := by
  refine ⟨⟨h.1.1, fun k hk => ⟨h.1.2 k hk, h'.1.2 k hk⟩⟩, ?_, h.2.2⟩
  rcases h.2.1 with q | q
  · exact .inl q
  · rcases h'.2.1 with q' | q'
    · exact .inl q'
    · exact .inr ⟨q.1, fun k hk => ⟨q.2 k hk, q'.2 k hk⟩⟩
theorem GB.set {v : Value} {g : List Lv} {i : Nat} {L' : Lv} {k : Nat} (h : GB v (g.set i L') k) : GB v g k ∨ L'.s.val.ownBlock = some k := by
  rcases h with h | ⟨L, hL, h⟩
  · exact .inl (.inl h)
  · rcases List.mem_or_eq_of_mem_set hL with q | rfl
    · exact .inl (.inr ⟨L, q, h⟩)
    · exact .inr h
theorem GO.setL {w : World} {B : Nat} {v : Value} {g : List Lv} (h : GO w B v g) (i : Nat) (hi : i < g.length) (L' : Lv) (hL : Slc.Own w B 65 3 encV L'.s.val L'.vs)
    (hb : ∀ k, L'.s.val.ownBlock = some k → v.ownBlock ≠ some k ∧ ∀ (j : Nat) (hj : j < g.length), j ≠ i → (g[j]).s.val.ownBlock ≠ some k)
    (ho : ∀ (j : Nat) (hj : j < g.length), j ≠ i → ∀ x ∈ (g[j]).vs, VtIn w (fun k => L'.s.val.ownBlock ≠ some k) x)
    (hx : ∀ x ∈ L'.vs, VtIn w (fun k => ¬ GB v (g.set i L') k) x) :
    ∃ gb cap, v = .slice (some ⟨gb, 0, none⟩) g.length cap ∧ gb < w.heap.size ∧ (∀ i, w.frozen? ⟨gb, i, none⟩ = false) ∧ GO (w.setCell ⟨gb, i, none⟩ L'.s.val) B v (g.set i L') ∧ w.grownBy (w.setCell ⟨gb, i, none⟩ L'.s.val) (some gb) := by
  obtain ⟨gb, cap, hv, hB, hlt, hfr, hown, hgr⟩ := h.own.set1 encL_ok i 0 hi (by omega) L'.s.val L' rfl
  rw [Nat.mul_one, Nat.add_zero] at hown hgr
  have hvb : v.ownBlock = some gb := by rw [hv]; rfl
  refine ⟨gb, cap, hv, hlt, hfr, ⟨hown, fun L hL' => ?_, ?_, ?_, ?_⟩, hgr⟩
  · rcases List.mem_or_eq_of_mem_set hL' with q | rfl
    · exact (h.lv L q).keep fun k hk hkl => hgr.block k hkl (by simp only [ne_eq, Option.some.injEq]; rintro rfl; exact h.ao L q k hk hvb)
    · exact hL.keep fun k hk hkl => hgr.block k hkl (by simp only [ne_eq, Option.some.injEq]; rintro rfl; exact (hb k hk).1 hvb)
  · intro a b ha hb' hab k hk
    rw [List.length_set] at ha hb'
    rw [List.getElem_set] at hk ⊢
    by_cases e1 : i = a
    · rw [if_pos e1] at hk
      rw [if_neg (by omega)]
      exact (hb k hk).2 b hb' (by omega)
    · rw [if_neg e1] at hk
      by_cases e2 : i = b
      · rw [if_pos e2]
        exact fun q => (hb k q).2 a ha (fun e => e1 e.symm) hk
      · rw [if_neg e2]; exact h.ap a b ha hb' hab k hk
  · intro L hL' k hk
    rcases List.mem_or_eq_of_mem_set hL' with q | rfl
    · exact h.ao L q k hk
    · exact (hb k hk).1
  · intro L hL' x hxm
    have hfrm : Fr (fun k => ¬ (k ≠ gb)) w (w.setCell ⟨gb, i, none⟩ L'.s.val) := Fr.of_grown hgr fun k hk => by simp only [Option.some.injEq] at hk; simp [hk]
    have step : ∀ y, VtIn w (fun k => ¬ GB v (g.set i L') k) y → VtIn (w.setCell ⟨gb, i, none⟩ L'.s.val) (fun k => ¬ GB v (g.set i L') k) y := fun y hy =>
      hy.keep hgr.size fun k hk hkl => hgr.block k hkl (by simp only [ne_eq, Option.some.injEq]; rintro rfl; exact hk (.inl hvb))
    apply step
    obtain ⟨j, hj, rfl⟩ := List.getElem_of_mem hL'
    rw [List.length_set] at hj
    rw [List.getElem_set] at hxm
    by_cases e : i = j
    · rw [if_pos e] at hxm; exact hx x hxm
    · rw [if_neg e] at hxm
      have h1 := h.nm _ (List.getElem_mem hj) x hxm
      have h2 := ho j hj (fun q => e q.symm) x hxm
      exact (h1.and h2).mono fun k _ hk hn => by
        rcases GB.set hn with q | q
        · exact hk.1 q
        · exact hk.2 q
theorem GB.same {v : Value} {g : List Lv} {i : Nat} (hi : i < g.length) (vs : List Vt) {k : Nat} : GB v (g.set i ⟨vs, (g[i]).s⟩) k ↔ GB v g k := by
  constructor
  · intro h
    rcases GB.set h with q | q
    · exact q
    · exact .inr ⟨_, List.getElem_mem hi, q⟩
  · rintro (h | ⟨L, hL, h⟩)
    · exact .inl h
    · obtain ⟨j, hj, rfl⟩ := List.getElem_of_mem hL
      by_cases e : i = j
      · subst e
        exact .inr ⟨⟨vs, (g[i]).s⟩, List.mem_iff_getElem.2 ⟨i, by simpa using hj, by simp⟩, h⟩
      · exact .inr ⟨g[j], List.mem_iff_getElem.2 ⟨j, by simpa using hj, by simp [List.getElem_set, e]⟩, h⟩
theorem GO.setV {w : World} {B : Nat} {v : Value} {g : List Lv} (h : GO w B v g) (i : Nat) (hi : i < g.length) (j : Nat) (hj : j < (g[i]).vs.length) (o : Nat) (ho : o < 3) (u : Value) (x' : Vt) (he : encV x' = (encV ((g[i]).vs[j])).set o u)
    (hx : VtIn w (fun k => ¬ GB v g k) x') :
    ∃ nb cap, (g[i]).s.val = .slice (some ⟨nb, 0, none⟩) (g[i]).vs.length cap ∧ nb < w.heap.size ∧ (∀ i, w.frozen? ⟨nb, i, none⟩ = false) ∧ GO (w.setCell ⟨nb, j * 3 + o, none⟩ u) B v (g.set i ⟨(g[i]).vs.set j x', (g[i]).s⟩) ∧ w.grownBy (w.setCell ⟨nb, j * 3 + o, none⟩ u) (some nb) := by
  obtain ⟨nb, cap, hv, hB, hlt, hfr, hown, hgr⟩ := (h.lv _ (List.getElem_mem hi)).set1 encV_ok j o hj ho u x' he
  have hnb : (g[i]).s.val.ownBlock = some nb := by rw [hv]; rfl
  have hGB : GB v g nb := .inr ⟨_, List.getElem_mem hi, hnb⟩
  refine ⟨nb, cap, hv, hlt, hfr, ⟨?_, fun L hL' => ?_, ?_, ?_, ?_⟩, hgr⟩
  · have h1 := h.own.keep (w' := w.setCell ⟨nb, j * 3 + o, none⟩ u) fun k hk hkl => hgr.block k hkl (by simp only [ne_eq, Option.some.injEq]; rintro rfl; exact h.ao _ (List.getElem_mem hi) k hnb hk)
    have e : (g.set i ⟨(g[i]).vs.set j x', (g[i]).s⟩).flatMap encL = g.flatMap encL := by
      have := flat_set encL_ok (⟨(g[i]).vs.set j x', (g[i]).s⟩ : Lv) (g[i]).s.val 0 (by omega) g i hi rfl
      rw [this, Nat.mul_one, Nat.add_zero]
      apply List.ext_getElem?
      intro q
      rw [List.getElem?_set]
      by_cases eq : i = q
      · subst eq
        have hl : i < (g.flatMap encL).length := by rw [flat_len encL_ok]; omega
        rw [if_pos rfl, if_pos hl]
        have := flat_at encL_ok g i 0 hi (by omega)
        rw [Nat.mul_one, Nat.add_zero] at this
        rw [this]; rfl
      · rw [if_neg eq]
    unfold Slc.Own at h1 ⊢
    rw [List.length_set, e]; exact h1
  · obtain ⟨q, hq, rfl⟩ := List.getElem_of_mem hL'
    rw [List.length_set] at hq
    rw [List.getElem_set]
    by_cases e : i = q
    · subst e; rw [if_pos rfl]; exact hown
    · rw [if_neg e]
      exact (h.lv _ (List.getElem_mem hq)).keep fun k hk hkl => hgr.block k hkl (by simp only [ne_eq, Option.some.injEq]; rintro rfl; exact h.ap i q hi hq e k hnb hk)
  · intro a b ha hb' hab k hk
    rw [List.length_set] at ha hb'
    have e1 : ∀ (q : Nat) (hq : q < g.length), ((g.set i ⟨(g[i]).vs.set j x', (g[i]).s⟩)[q]'(by simpa using hq)).s = (g[q]).s := by
      intro q hq
      rw [List.getElem_set]
      split
      · rename_i e; subst e; rfl
      · rfl
    rw [e1 a ha] at hk
    rw [e1 b hb']
    exact h.ap a b ha hb' hab k hk
  · intro L hL' k hk
    rcases List.mem_or_eq_of_mem_set hL' with q | rfl
    · exact h.ao L q k hk
    · exact h.ao _ (List.getElem_mem hi) k hk
  · intro L hL' x hxm
    have step : ∀ y, VtIn w (fun k => ¬ GB v g k) y → VtIn (w.setCell ⟨nb, j * 3 + o, none⟩ u) (fun k => ¬ GB v (g.set i ⟨(g[i]).vs.set j x', (g[i]).s⟩) k) y := fun y hy =>
      (hy.keep hgr.size fun k hk hkl => hgr.block k hkl (by simp only [ne_eq, Option.some.injEq]; rintro rfl; exact hk hGB)).mono fun k _ hk hn => hk ((GB.same hi _).1 hn)
    apply step
    rcases List.mem_or_eq_of_mem_set hL' with q | rfl
    · exact h.nm L q x hxm
    · rcases List.mem_or_eq_of_mem_set hxm with q | rfl
      · exact h.nm _ (List.getElem_mem hi) x q
      · exact hx
/-- the cells of an owned graph -/
theorem GO.cellL {w : World} {B : Nat} {ad : Option Addr} {n c : Nat} {g : List Lv} (h : GO w B (.slice ad n c) g) (i : Nat) (hi : i < g.length) : ∃ gb, ad = some ⟨gb, 0, none⟩ ∧ w.cell? ⟨gb, i, none⟩ = some (g[i]).s.val ∧ (∀ j, w.frozen? ⟨gb, j, none⟩ = false) := by
  obtain ⟨gb, cap, hv, -, -, hfr, -, -⟩ := h.own.set1 encL_ok i 0 hi (by omega) (g[i]).s.val (g[i]) rfl
  simp only [Value.slice.injEq] at hv
  obtain ⟨rfl, rfl, rfl⟩ := hv
  have := h.own.cell encL_ok i hi 0 (by omega) _ rfl
  rw [Nat.mul_one, Nat.add_zero] at this
  exact ⟨gb, rfl, this, hfr⟩
end Go.Proofs.YtmagjdocondmhaaGreat.Tr.Gr
namespace Go.Proofs.YtmagjdocondmhaaGreat.Mp
open Go Go.RowKit Go.Maps Go.ChangeMaps Go.MapKept
set_option linter.unusedVariables false
set_option linter.unusedSimpArgs false
section
variable {P : Program} {kt e t : TypeId} {K γ : Type} {ed : γ → DW} {Y : Ky P kt K} {R : Value → Option (DW × List MemPlace)} {w : World} {b n : Nat} {f : K → Option γ}
theorem OwnF.clearM (h : OwnF w Y R ed b n f) (ht : P.underlying t = some (.map kt e)) : ∃ w', (∀ ty, (Builtin.clear_ #[t] ty #[.map (some b)]).run P w = .ok (.tuple #[]) w') ∧ OwnF w' Y R ed b 0 (fun _ => none) ∧ w.grownBy w' (some b) := by
  obtain ⟨D, ⟨es, clock, hb, F, hs, hD⟩, hf⟩ := h
  refine ⟨setBlock w b (.map #[] clock), fun ty => ?_, ⟨.map [], ⟨#[], clock, heap_setBlock_same hb _, ⟨by simp, stamped_empty clock, by simp⟩, Nat.le_refl _, rfl⟩, IsF.empty Y ed⟩, ⟨rfl, rfl, rfl, by simp [setBlock], fun i _ hi => heap_setBlock_other hb _ (fun e => hi (by rw [e]))⟩⟩
  simp [Builtin.clear_, run_underlying ht, MapKept.run_getObj_map hb, MapKept.run_setObj_map _ hb, Result.andThen, setBlock]
end
section
variable {P : Program} {kt e t : TypeId} {γ : Type} {ed : γ → DW} {R : Value → Option (DW × List MemPlace)} {w : World} {b n : Nat}
theorem OwnF.lenI {hk : P.underlying kt = some (.int .i64)} {f : Int → Option γ} (h : OwnF w (kyInt hk) R ed b n f) (ht : P.underlying t = some (.map kt e)) (ks : List Int) (hn : ks.Nodup) (hm : ∀ k, k ∈ ks ↔ (f k).isSome = true) (ty : TypeId) :
    (Builtin.len_ #[t] ty #[.map (some b)]).run P w = .ok (.int .i64 ks.length) w := by
  obtain ⟨D, hown, hf⟩ := h
  rw [hown.len ht ty]
  have hp : ks.Perm (intKeys D) := CollectedI.perm (left := fun _ => false) ⟨hn, fun x => by
    have h1 : Maps.has D (.int .i64 x) = (f x).isSome := hf.has_ x
    rw [h1, hm]; simp⟩ hown (int_keyed hk) hk fun _ => rfl
  have : ks.length = Maps.size D := by
    rw [hp.length_eq]
    obtain ⟨es, clock, -, -, -, rfl⟩ := hown
    simp [intKeys, Maps.size]
  rw [this]
end
end Go.Proofs.YtmagjdocondmhaaGreat.Mp
namespace Go.Proofs.YtmagjdocondmhaaGreat.Tr.Gr
open Go Go.RowKit Go.Proofs.YtmagjdocondmhaaGreat.Slc Go.Proofs.YtmagjdocondmhaaGreat.St Go.Proofs.YtmagjdocondmhaaGreat.Mp Go.Proofs.YtmagjdocondmhaaGreat.Tr
set_option linter.unusedVariables false
set_option linter.unusedSimpArgs false
attribute [local go_sem] Oper.semAt_some

def Vx.Oq (n : Vx) : Prop := Few n.ex ∧ n.pol.length ≤ 1000000 ∧ n.par.length ≤ 100000
def VqAt (w : World) (x : Vt) : Prop := Rq w x.u.val x.n.ex ∧ Ri w x.q.val x.n.par ∧ Vx.Oq x.n
theorem VqAt.below {w w' : World} {x : Vt} (h : VqAt w x) (hb : Below w.heap.size w w') : VqAt w' x := ⟨h.1.below hb, h.2.1.below hb, h.2.2⟩
theorem VtAt.q {w : World} {x : Vt} (h : VtAt w x) : VqAt w x := ⟨.inr h.1.1, h.2.1, h.2.2.1, h.2.2.2.1, h.2.2.2.2.1⟩
/-- vertices that came in -/
structure VQ (w : World) (v : Value) (l : List Vt) : Prop where
  rd : RqIn w (fun k => k < w.heap.size) encV v l
  at_ : ∀ x ∈ l, VqAt w x
theorem VQ.below {w w' : World} {v : Value} {l : List Vt} (h : VQ w v l) (hb : Below w.heap.size w w') : VQ w' v l := ⟨(h.rd.below hb).all, fun x hx => (h.at_ x hx).below hb⟩
theorem VL.q {w : World} {v : Value} {l : List Vt} (h : VL w v l) : VQ w v l := ⟨.inr ⟨h.rd, h.rd.lt⟩, fun x hx => (h.at_ x hx).q⟩
theorem VQ.at3 {w : World} {ad : Option Addr} {n c : Nat} {l : List Vt} (h : VQ w (.slice ad n c) l) (W : World) (hW : Below w.heap.size w W) (k : Nat) (hk : k < l.length) : ∃ b o, ad = some ⟨b, o, none⟩ ∧ b < w.heap.size ∧ W.cell? ⟨b, o + k * 3, none⟩ = some (.string (bstr (l[k]).n.pol)) ∧ W.cell? ⟨b, o + k * 3 + 1, none⟩ = some (l[k]).u.val ∧ W.cell? ⟨b, o + k * 3 + 2, none⟩ = some (l[k]).q.val :=
  (vs_cells (h.rd.rd (by omega))).2 W (fun k hk _ => hW.block k hk) k hk
/-- a graph that came in -/
structure GQ (w : World) (v : Value) (g : List Lv) : Prop where
  rd : Rd w encL v g
  lv : ∀ L ∈ g, VQ w L.s.val L.vs
theorem GQ.below {w w' : World} {v : Value} {g : List Lv} (h : GQ w v g) (hb : Below w.heap.size w w') : GQ w' v g := ⟨h.rd.below hb, fun L hL => (h.lv L hL).below hb⟩
theorem GL.q {w : World} {v : Value} {g : List Lv} (h : GL w v g) : GQ w v g := ⟨h.rd, fun L hL => (h.lv L hL).q⟩
theorem GQ.at1 {w : World} {ad : Option Addr} {n c : Nat} {g : List Lv} (h : GQ w (.slice ad n c) g) (W : World) (hW : Below w.heap.size w W) (k : Nat) (hk : k < g.length) : ∃ b o, ad = some ⟨b, o, none⟩ ∧ b < w.heap.size ∧ W.cell? ⟨b, o + k, none⟩ = some (g[k]).s.val :=
  (ls_cells h.rd).2 W (fun k hk _ => hW.block k hk) k hk
/-- a vertex is permitted below a level -/
def badV (v : Vx) (n : Nat) : Bool := !ascB v.ex || (!ascI v.par || (decide (v.par[0]! < 0) || decide (v.par[v.par.length - 1]! ≥ (n : Int))))
def gfitB (v : Vx) (ab : List Vx) : Bool := !badV v ab.length && (if specV v then decide (v.par.length = 1) && (specV (ab[(v.par[0]!).toNat]!) && onlyB v.ex) else !decide (anyP ∈ v.ex))
theorem ascI_pos {l : List Int} (h : ascI l = true) : 0 < l.length := by
  unfold ascI at h
  rw [Bool.and_eq_true] at h
  cases l with
  | nil => simp at h
  | cons a b => simp
theorem par_in {l : List Int} {n : Nat} (ha : ascI l = true) (h0 : ¬ l[0]! < 0) (h1 : ¬ l[l.length - 1]! ≥ (n : Int)) : ∀ p ∈ l, 0 ≤ p ∧ p < (n : Int) := by
  have hp := ascI_pos ha
  unfold ascI at ha
  simp only [Bool.and_eq_true, decide_eq_true_eq] at ha
  have hs := List.pairwise_iff_getElem.1 ha.1
  rw [getElem!_pos l 0 hp] at h0
  rw [getElem!_pos l _ (by omega)] at h1
  intro p hm
  obtain ⟨i, hi, rfl⟩ := List.getElem_of_mem hm
  constructor
  · rcases Nat.eq_zero_or_pos i with e | e
    · subst e; omega
    · have := hs 0 i hp hi e; omega
  · rcases Nat.lt_or_ge i (l.length - 1) with e | e
    · have := hs i (l.length - 1) hi (by omega) e; omega
    · have : i = l.length - 1 := by omega
      subst this; omega
set_option maxRecDepth 100000 in
set_option maxHeartbeats 4000000 in
theorem gfits_any (w : World) (x : Vt) (av : Value) (ab : List Vt) (hx : VqAt w x) (ha : VQ w av ab) (hn : ab.length ≤ 100000) :
    Calls Tryz.prog 43 #[verV x, av] w fun e w' => e = .returned (.bool (gfitB x.n (vxs ab))) ∧ Below w.heap.size w w' := by
  obtain ⟨ad, c, rfl, -⟩ := ha.rd.form
  have HA := Bx.mk ha.at3
  obtain ⟨R, hR⟩ : ∃ R, R = gfitB x.n (vxs ab) := ⟨_, rfl⟩
  rw [← hR]
  unfold gfitB badV at hR
  rw [vxs_len] at hR
  have HR := Bx.mk hR
  have HXS := Bx.mk (show ∀ k (hk : k < ab.length), (vxs ab)[k]! = (ab[k]).n from fun k hk => vxs_at ab k hk)
  obtain ⟨N, hN⟩ : ∃ N, N = ab.length := ⟨_, rfl⟩
  have HN := Bx.mk hN
  rw [← hN] at hn ⊢
  rw [← HN.out] at HR
  have hX := hx
  obtain ⟨hex, hpar, hok⟩ := hx
  have HEX := Bx.mk (fun (W : World) (hW : Below w.heap.size w W) => hex.below hW)
  have HPA := Bx.mk (fun (W : World) (hW : Below w.heap.size w W) => hpar.below hW)
  have HOK := Bx.mk hok
  have hsp := fun W => gspec_any x W
  unfold verV at hsp ⊢
  obtain ⟨pa, pc, hpq, -⟩ := RqIn.form hpar
  obtain ⟨ua, uc, hup, -⟩ := hex.form
  rw [hpq] at HPA hsp ⊢
  rw [hup] at HEX hsp ⊢
  have HPC := Bx.mk (Ri.cells (hpq ▸ hpar))
  obtain ⟨PN, hPN⟩ : ∃ PN, PN = x.n.par.length := ⟨_, rfl⟩
  have HPN := Bx.mk hPN
  have hPb : PN ≤ 100000 := by rw [hPN]; exact hok.2.2
  obtain ⟨UN, hUN⟩ : ∃ UN, UN = x.n.ex.length := ⟨_, rfl⟩
  have HUN := Bx.mk hUN
  rw [← hPN] at HPA hsp ⊢
  rw [← hUN] at HEX hsp ⊢
  obtain ⟨W0, hW0⟩ : ∃ W0, W0 = w.alloc (.cells #[.string (bstr x.n.pol), .slice ua UN uc, .slice pa PN pc] 65) := ⟨_, rfl⟩
  have HB0 := Bx.mk (show Below w.heap.size w W0 by rw [hW0]; exact (Below.refl _ _).alloc (Nat.le_refl _) _)
  have HR0 := Bx.mk (show W0.heap[w.heap.size]? = some (.cells #[.string (bstr x.n.pol), .slice ua UN uc, .slice pa PN pc] 65 (0, 0)) by rw [hW0]; exact heap_alloc_new _ _)
  obtain ⟨q, hq⟩ : ∃ q, q = w.heap.size := ⟨_, rfl⟩
  have HC0 := Bx.mk (show ∀ W, Below W0.heap.size W0 W → W.cell? ⟨q, 0, none⟩ = some (.string (bstr x.n.pol)) ∧ W.cell? ⟨q, 1, none⟩ = some (.slice ua UN uc) ∧ W.cell? ⟨q, 2, none⟩ = some (.slice pa PN pc) by
    intro W hW
    have hr := (hW.block _ (lt_of_some HR0.out)).trans HR0.out
    rw [hq]
    have m0 := cell_of_row _ _ 0 _ _ _ hr
    have m1 := cell_of_row _ _ 1 _ _ _ hr
    have m2 := cell_of_row _ _ 2 _ _ _ hr
    simp only [List.getElem?_toArray, List.getElem?_cons_zero, List.getElem?_cons_succ] at m0 m1 m2
    exact ⟨m0, m1, m2⟩)
  have FIN := Bx.mk (show ∀ W, Below W0.heap.size W0 W → Below w.heap.size w W from fun W hW => HB0.out.trans (hW.mono HB0.out.size))
  clear ha hR hN hX hex hpar hok hpq hup hPN hUN
  have HSP := Bx.mk hsp
  clear hsp
  obtain ⟨c0, c1, c2⟩ := HC0.out W0 (Below.refl _ _)
  have hc := gascS_q W0 _ x.n.ex (HEX.out W0 HB0.out) (by have := HOK.out.1.1; omega)
  obtain ⟨A, hA⟩ : ∃ A, A = ascB x.n.ex := ⟨_, rfl⟩
  rw [← hA] at hc HR
  have HAA := Bx.mk hA
  clear hA
  generalize bstr x.n.pol = S at *
  go_enter Tryz.func43, Tryz.ntmps43
  go_upto_region 1 with fail
  rw [← hW0, ← hq]
  clear hW0 hq
  go_wp2_with fail
  go_at_call 91
  refine hc.mono ?_
  rintro e w1 ⟨rfl, hb1⟩
  have HB1 := Bx.mk hb1
  clear hc hb1 c0 c1 c2
  obtain ⟨c0, c1, c2⟩ := HC0.out w1 HB1.out
  cases A with
  | false =>
    have HF := Bx.mk (show R = false by rw [HR.out]; rfl)
    go_wp2_with fail
    go_ret
    exact ⟨by rw [HF.out]; rfl, FIN.out _ HB1.out⟩
  | true =>
  have hc := gascI_any w1 _ x.n.par (HPA.out w1 (FIN.out _ HB1.out)) (by have := HPN.out; omega)
  obtain ⟨A2, hA2⟩ : ∃ A, A = ascI x.n.par := ⟨_, rfl⟩
  rw [← hA2] at hc HR
  have HA2 := Bx.mk hA2
  clear hA2
  go_wp2_with fail
  go_at_call 92
  refine hc.mono ?_
  rintro e w2 ⟨rfl, hb2⟩
  have HB2 := Bx.mk (HB1.out.trans (hb2.mono HB1.out.size))
  clear hc hb2 c0 c1 c2
  obtain ⟨c0, c1, c2⟩ := HC0.out w2 HB2.out
  cases A2 with
  | false =>
    have HF := Bx.mk (show R = false by rw [HR.out]; rfl)
    go_wp2_with fail
    go_ret
    exact ⟨by rw [HF.out]; rfl, FIN.out _ HB2.out⟩
  | true =>
  have hpos : 0 < PN := by rw [HPN.out]; exact ascI_pos HA2.out.symm
  obtain ⟨b, o, rfl, hbl, d0⟩ := HPC.out w2 (FIN.out _ HB2.out) 0 (by rw [← HPN.out]; exact hpos)
  obtain ⟨b', o', hbo, -, d1⟩ := HPC.out w2 (FIN.out _ HB2.out) (PN - 1) (by rw [← HPN.out]; omega)
  simp only [Option.some.injEq, Addr.mk.injEq, and_true] at hbo
  obtain ⟨rfl, rfl⟩ := hbo
  have e0 : x.n.par[0]! = x.n.par[0]'(by rw [← HPN.out]; exact hpos) := getElem!_pos _ _ _
  have e1 : x.n.par[PN - 1]! = x.n.par[PN - 1]'(by rw [← HPN.out]; omega) := getElem!_pos _ _ _
  rw [← e0] at d0
  rw [← e1] at d1
  rw [← HPN.out] at HR
  simp only [Nat.add_zero] at d0
  obtain ⟨P0, hP0⟩ : ∃ P0, P0 = x.n.par[0]! := ⟨_, rfl⟩
  obtain ⟨P1, hP1⟩ : ∃ P1, P1 = x.n.par[PN - 1]! := ⟨_, rfl⟩
  rw [← hP0] at d0 HR
  rw [← hP1] at d1 HR
  have HP0 := Bx.mk hP0
  have HP1 := Bx.mk hP1
  clear e0 e1 hP0 hP1 hbl
  have w1' : IntKind.i64.wrap ((PN : Int) - 1) = ((PN - 1 : Nat) : Int) := by rw [IntWalk.i64_in _ (by omega)]; omega
  have w2' : (PN : Int) - 1 = ((PN - 1 : Nat) : Int) := by omega
  have w3' : ((PN : Int) - 1).toNat = PN - 1 := by omega
  have w4' : 0 ≤ (PN : Int) - 1 ∧ (PN : Int) - 1 < PN := by omega
  by_cases hlo : P0 < 0
  · have t1 : decide (P0 < 0) = true := decide_eq_true hlo
    have HF := Bx.mk (show R = false by rw [HR.out, t1]; rfl)
    go_wp2_with fail
    go_ret
    exact ⟨by rw [HF.out]; rfl, FIN.out _ HB2.out⟩
  have t1 : decide (P0 < 0) = false := decide_eq_false hlo
  by_cases hhi : P1 ≥ (N : Int)
  · have t2 : decide (P1 ≥ (N : Int)) = true := decide_eq_true hhi
    have HF := Bx.mk (show R = false by rw [HR.out, t1, t2]; rfl)
    go_wp2_with fail
    go_ret
    exact ⟨by rw [HF.out]; rfl, FIN.out _ HB2.out⟩
  have t2 : decide (P1 ≥ (N : Int)) = false := decide_eq_false hhi
  have HRR := Bx.mk (show R = (if specV x.n then decide (PN = 1) && (specV ((vxs ab)[P0.toNat]!) && onlyB x.n.ex) else !decide (anyP ∈ x.n.ex)) by rw [HR.out, t1, t2]; rfl)
  have HIN := Bx.mk (par_in HA2.out.symm (by rw [← HP0.out]; exact hlo) (by rw [← HPN.out, ← HP1.out]; exact hhi))
  have hsp := HSP.out w2
  obtain ⟨SP, hSP⟩ : ∃ s, s = specV x.n := ⟨_, rfl⟩
  rw [← hSP] at hsp HRR
  clear hSP
  go_wp2_with fail
  go_at_call 41
  refine hsp.mono ?_
  rintro e w3 ⟨rfl, hb3⟩
  have HB3 := Bx.mk (HB2.out.trans (hb3.mono HB2.out.size))
  clear hsp hb3 c0 c1 c2 d0 d1
  obtain ⟨c0, c1, c2⟩ := HC0.out w3 HB3.out
  cases SP with
  | false =>
    have hcn := contains_q w3 _ x.n.ex anyP (HEX.out w3 (FIN.out _ HB3.out)) (by have := HOK.out.1.1; omega)
    rw [anyP_str] at hcn
    go_wp2_with fail
    go_at_call 48
    refine hcn.mono ?_
    rintro e w4 ⟨rfl, rfl⟩
    clear hcn
    go_wp2_with fail
    go_ret
    exact ⟨by rw [HRR.out]; rfl, FIN.out _ HB3.out⟩
  | true =>
    by_cases hone : PN = 1
    · have h0N : 0 ≤ P0 ∧ P0 < (N : Int) := HIN.out P0 (by
        rw [HP0.out, getElem!_pos _ 0 (by rw [← HPN.out]; exact hpos)]
        exact List.getElem_mem _)
      obtain ⟨pp, rfl⟩ : ∃ pp : Nat, P0 = (pp : Int) := ⟨P0.toNat, by omega⟩
      have hpp : pp < N := by omega
      obtain ⟨b2, o2, rfl, -, a0, a1, a2⟩ := HA.out w3 (FIN.out _ HB3.out) pp (by rw [← HN.out]; exact hpp)
      have HAX := Bx.mk (HXS.out pp (by rw [← HN.out]; exact hpp))
      obtain ⟨y, hy⟩ : ∃ y, y = ab[pp]'(by rw [← HN.out]; exact hpp) := ⟨_, rfl⟩
      rw [← hy] at a0 a1 a2 HAX
      have hsy := gspec_any y w3
      unfold verV at hsy
      simp only [Sl.val] at a1 a2 hsy
      obtain ⟨SY, hSY⟩ : ∃ s, s = specV y.n := ⟨_, rfl⟩
      rw [← hSY] at hsy
      have d0 := (HPC.out w3 (FIN.out _ HB3.out) 0 (by rw [← HPN.out]; exact hpos))
      obtain ⟨b3, o3, hbo, -, d0⟩ := d0
      simp only [Option.some.injEq, Addr.mk.injEq, and_true] at hbo
      obtain ⟨rfl, rfl⟩ := hbo
      rw [← getElem!_pos x.n.par 0 (by rw [← HPN.out]; exact hpos), ← HP0.out, Nat.add_zero] at d0
      have t3 : ((PN : Int) == 1) = true := by simp; omega
      have t4 : ((PN : Int) = 1) = True := by simp; omega
      have HRS := Bx.mk (show R = (SY && onlyB x.n.ex) by
        have : (vxs ab)[((pp : Nat) : Int).toNat]! = y.n := HAX.out
        rw [HRR.out, if_pos rfl, decide_eq_true hone, Bool.true_and, this, hSY])
      clear hy hSY w1' w2' w3' w4' hone
      go_wp2_with fail
      go_at_call 41
      refine hsy.mono ?_
      rintro e w4 ⟨rfl, hb4⟩
      have HB4 := Bx.mk (HB3.out.trans (hb4.mono HB3.out.size))
      clear hsy hb4 c0 c1 c2 d0 a0 a1 a2
      obtain ⟨c0, c1, c2⟩ := HC0.out w4 HB4.out
      cases SY with
      | false =>
        have HF := Bx.mk (show R = false by rw [HRS.out]; rfl)
        go_wp2_with fail
        go_ret
        exact ⟨by rw [HF.out]; rfl, FIN.out _ HB4.out⟩
      | true =>
        have hon := gonly_q w4 _ x.n.ex (HEX.out w4 (FIN.out _ HB4.out))
        have HF := Bx.mk (show R = onlyB x.n.ex by rw [HRS.out]; rfl)
        go_wp2_with fail
        go_at_call 42
        refine hon.mono ?_
        rintro e w5 ⟨rfl, rfl⟩
        clear hon
        go_wp2_with fail
        go_ret
        exact ⟨by rw [HF.out]; rfl, FIN.out _ HB4.out⟩
    · have t3 : ((PN : Int) == 1) = false := by simp; omega
      have t4 : ((PN : Int) = 1) = False := by simp; omega
      have HF := Bx.mk (show R = false by rw [HRR.out, if_pos rfl, decide_eq_false hone]; rfl)
      clear w1' w2' w3' w4' hone
      go_wp2_with fail
      go_ret
      exact ⟨by rw [HF.out]; rfl, FIN.out _ HB3.out⟩
end Go.Proofs.YtmagjdocondmhaaGreat.Tr.Gr
