/-
Small functions of pgraph. (Written by wip/gen/gen_gra.py.)
Ranges over functions: what stays of a block under an iterator's own steps; a relation under which all blocks but one stay.
-/
import Derived.Test.YtmagjdocondmhaaGreatPkSs03
import Derived.Test.YtmagjdocondmhaaGreatPkSs04
import Derived.Test.YtmagjdocondmhaaGreatPkSs01
import Derived.RangeFuncNested
import Derived.RangeFuncBound
import Derived.RangeFuncCalls
import Derived.RangeFuncLeaves
import Derived.RangeFuncBox
import Derived.Shelf.Abstract
import Derived.Shelf.RegionOpen
import Derived.OwnWalkIn
import Derived.TacticsInMore
import Derived.LoopNIn
import Derived.LoopIn
namespace Go.Proofs.YtmagjdocondmhaaGreat.Tr.Gr
open Go Go.RowKit Go.Proofs.YtmagjdocondmhaaGreat.Slc Go.Proofs.YtmagjdocondmhaaGreat.St Go.Proofs.YtmagjdocondmhaaGreat.Tr
set_option linter.unusedVariables false
set_option linter.unusedSimpArgs false
attribute [local go_sem] Oper.semAt_some

def specV (n : Vx) : Bool := decide (n.pol = anyP)
def ascI (l : List Int) : Bool := decide (l.Pairwise (· < ·)) && !l.isEmpty
theorem gspec_any (x : Vt) (w : World) : Calls Tryz.prog 41 #[verV x] w fun e w' => e = .returned (.bool (specV x.n)) ∧ Below w.heap.size w w' := by
  have hs := same_any x.n.pol
  unfold verV
  rw [show specV x.n = decide (x.n.pol = anyP) from rfl]
  generalize decide (x.n.pol = anyP) = R at *
  generalize x.u.val = U1 at *
  generalize x.q.val = U2 at *
  generalize bstr x.n.pol = S at *
  go_enter Tryz.func41, Tryz.ntmps41
  go_wp2_with fail
  go_ret
  exact ⟨rfl, (Below.refl _ _).alloc (Nat.le_refl _) _⟩
theorem gonly_q (w : World) (v : Value) (l : List B) (h : Rq w v l) : Calls Tryz.prog 42 #[v] w fun e w' => e = .returned (.bool (onlyB l)) ∧ w = w' := by
  obtain ⟨ad, c, rfl, hc0⟩ := h.form
  obtain ⟨-, hcell⟩ := strs_cells_q h
  by_cases h1 : l.length = 1
  · obtain ⟨a, rfl⟩ := List.length_eq_one_iff.1 h1
    obtain ⟨b, o, rfl, -, hx⟩ := hcell w (Below.refl _ _) 0 (by simp)
    have hs := same_any a
    have hR : onlyB [a] = decide (a = anyP) := by unfold onlyB; simp
    rw [hR]
    simp only [List.getElem_cons_zero, Nat.add_zero] at hx
    generalize decide (a = anyP) = R at *
    have hz : ([a] : List B).length = 1 := rfl
    rw [hz]
    generalize bstr a = S at *
    clear hcell h h1 hR hz hc0
    go_enter Tryz.func42, Tryz.ntmps42
    go_wp2_with fail
    go_ret
    exact ⟨by first | rfl | simp [hs], rfl⟩
  · have hR : onlyB l = false := decide_eq_false (fun h => h1 (by rw [h]; rfl))
    rw [hR]
    have t0 : (((l.length : Nat) : Int) == 1) = false := by simp; omega
    have t1 : ¬ (((l.length : Nat) : Int) = 1) := by omega
    clear hcell h hR hc0
    generalize l.length = N at *
    go_enter Tryz.func42, Tryz.ntmps42
    go_wp2_with fail
    go_ret
    exact ⟨rfl, rfl⟩

set_option maxHeartbeats 1000000 in
theorem gascS_q (w : World) (v : Value) (l : List B) (h : Rq w v l) (hn : l.length ≤ 1000000) : Calls Tryz.prog 91 #[v] w fun e w' => e = .returned (.bool (ascB l)) ∧ Below w.heap.size w w' := by
  obtain ⟨ad, c, rfl, hc0⟩ := h.form
  obtain ⟨-, hcell⟩ := strs_cells_q h
  have HC := Bx.mk hcell
  obtain ⟨R, hR⟩ : ∃ R, R = ascB l := ⟨_, rfl⟩
  rw [← hR]
  have HR := Bx.mk hR
  obtain ⟨N, hN⟩ : ∃ N, N = l.length := ⟨_, rfl⟩
  have HN := Bx.mk hN
  have hNb : N ≤ 1000000 := by omega
  rw [← hN]
  clear hcell hR hN h hc0 hn
  go_enter Tryz.func91, Tryz.ntmps91
  go_wp2
  go_loopw [3] (fun iv wr => ∃ i : Nat, iv = .int .i64 (i : Nat) ∧ 1 ≤ i ∧ i ≤ N + 1 ∧ Bx (∀ k (hk : k + 1 < l.length), k + 1 < i → l[k] < l[k + 1]) ∧ Below w.heap.size w wr) (fun iv _ => N + 1 - (intOf iv).toNat)
  case atStart => exact ⟨1, rfl, by omega, by omega, ⟨fun k hk h => by omega⟩, Below.refl _ _⟩
  case round =>
    obtain ⟨i, rfl, h1, h2, hB, hbel⟩ := hrel
    by_cases hlt : i < N
    · obtain ⟨j, rfl⟩ : ∃ j, i = j + 1 := ⟨i - 1, by omega⟩
      have hj1 : j + 1 < l.length := by rw [← HN.out]; exact hlt
      obtain ⟨b, o, rfl, hbl, hx⟩ := HC.out wr hbel j (by omega)
      obtain ⟨b', o', hbo, -, hy⟩ := HC.out wr hbel (j + 1) hj1
      simp only [Option.some.injEq, Addr.mk.injEq, and_true] at hbo
      obtain ⟨rfl, rfl⟩ := hbo
      have l1 := less_bytes l[j] l[j + 1]
      have l2 := less_bytes l[j + 1] l[j]
      have l3 := same_bytes l[j] l[j + 1]
      have HBEL := Bx.mk hbel
      have wj : IntKind.i64.wrap (((j + 1 : Nat) : Int) - 1) = (j : Int) := by rw [IntWalk.i64_in _ (by omega)]; omega
      have ej : ((j : Int) + 1).toNat = j + 1 := by omega
      by_cases hc : l[j] < l[j + 1]
      · rw [decide_eq_true hc] at l1
        rw [decide_eq_false (List.lt_asymm hc)] at l2
        have HX := Bx.mk (show ∀ k (hk : k + 1 < l.length), k + 1 < j + 1 + 1 → l[k] < l[k + 1] by
          intro k hk hkj
          rcases Nat.lt_or_ge (k + 1) (j + 1) with q | q
          · exact hB.out k hk q
          · obtain rfl : k = j := by omega
            exact hc)
        rw [decide_eq_false (fun e => by rw [e] at hc; exact List.lt_irrefl _ hc)] at l3
        generalize bstr l[j] = X at *
        generalize bstr l[j + 1] = Y at *
        clear hbel hc
        go_wp2_with fail
        go_quiet (fail)
        go_wp2_with fail
        go_roundw
        case rel => exact ⟨j + 2, by go_num, by omega, by omega, HX, below_drawn HBEL.out _⟩
        case measure => simp [intOf]; omega
      · rw [decide_eq_false hc] at l1
        have HF := Bx.mk (show R = false by rw [HR.out]; exact ascB_bad hj1 hc)
        by_cases h2 : l[j + 1] < l[j]
        · rw [decide_eq_true h2] at l2
          rw [decide_eq_false (fun e => hc (by rw [e] at h2; exact absurd h2 (List.lt_irrefl _)))] at l3
          generalize bstr l[j] = X at *
          generalize bstr l[j + 1] = Y at *
          clear hbel hc h2
          go_wp2_with fail
          go_quiet (fail)
          go_wp2_with fail
          go_ret
          exact ⟨by rw [HF.out]; rfl, below_drawn HBEL.out _⟩
        · rw [decide_eq_false h2] at l2
          rw [decide_eq_true (eqB hc h2)] at l3
          generalize bstr l[j] = X at *
          generalize bstr l[j + 1] = Y at *
          clear hbel hc h2
          go_wp2_with fail
          go_quiet (fail)
          go_wp2_with fail
          go_ret
          exact ⟨by rw [HF.out]; rfl, below_drawn HBEL.out _⟩
    · have HE := Bx.mk (show R = decide ((0 : Int) < (N : Nat)) by
        rw [HR.out, HN.out]
        exact ascB_good (fun k hk => hB.out k hk (by have := HN.out; omega)))
      have HBEL := Bx.mk hbel
      obtain ⟨Z, hZ⟩ : ∃ Z, Z = decide ((N : Int) > 0) := ⟨_, rfl⟩
      have HZ := Bx.mk hZ
      clear hbel
      rw [show decide ((0 : Int) < (N : Nat)) = decide ((N : Int) > 0) from rfl, ← hZ] at HE
      go_wp2_with fail
      go_ret
      exact ⟨by rw [HE.out, HZ.out]; first | rfl | simp, HBEL.out⟩

theorem ascI_bad {l : List Int} {i : Nat} (hi : i + 1 < l.length) (h : ¬ l[i] < l[i + 1]) : ascI l = false := by
  unfold ascI
  rw [decide_eq_false (fun hp => h (List.pairwise_iff_getElem.1 hp i (i + 1) (by omega) hi (by omega))), Bool.false_and]
theorem pairI_chain : ∀ (l : List Int), (∀ k (hk : k + 1 < l.length), l[k] < l[k + 1]) → l.Pairwise (· < ·)
  | [], _ => List.Pairwise.nil
  | [a], _ => by simp
  | a :: b :: l, h => by
    have ih := pairI_chain (b :: l) (fun k hk => h (k + 1) (by simp only [List.length_cons] at hk ⊢; omega))
    have h0 : a < b := h 0 (by simp)
    refine List.pairwise_cons.2 ⟨fun x hx => ?_, ih⟩
    rcases List.mem_cons.1 hx with rfl | hx
    · exact h0
    · have := (List.pairwise_cons.1 ih).1 x hx; omega
theorem ascI_good {l : List Int} (h : ∀ k (hk : k + 1 < l.length), l[k] < l[k + 1]) : ascI l = decide ((0 : Int) < (l.length : Nat)) := by
  unfold ascI
  rw [decide_eq_true (pairI_chain l h), Bool.true_and]
  cases l <;> simp
/-- integers that came in: they can be read, or there are none -/
def Ri (w : World) (v : Value) (l : List Int) : Prop := RqIn w (fun k => k < w.heap.size) encI v l
theorem Ri.below {w w' : World} {v : Value} {l : List Int} (h : Ri w v l) (hb : Below w.heap.size w w') : Ri w' v l := (RqIn.below h hb).all
theorem Ri.cells {w : World} {ad : Option Addr} {n c : Nat} {l : List Int} (h : Ri w (.slice ad n c) l) : ∀ (W : World), Below w.heap.size w W → ∀ k (hk : k < l.length), ∃ b o, ad = some ⟨b, o, none⟩ ∧ b < w.heap.size ∧ W.cell? ⟨b, o + k, none⟩ = some (.int .i64 l[k]) :=
  fun W hW => (int_cells h).2 W fun k hk _ => hW.block k hk
set_option maxRecDepth 100000 in
set_option maxHeartbeats 1000000 in
theorem gascI_any (w : World) (v : Value) (l : List Int) (h : Ri w v l) (hn : l.length ≤ 1000000) : Calls Tryz.prog 92 #[v] w fun e w' => e = .returned (.bool (ascI l)) ∧ Below w.heap.size w w' := by
  obtain ⟨ad, c, rfl, -⟩ := RqIn.form h
  have HC := Bx.mk h.cells
  obtain ⟨R, hR⟩ : ∃ R, R = ascI l := ⟨_, rfl⟩
  rw [← hR]
  have HR := Bx.mk hR
  obtain ⟨N, hN⟩ : ∃ N, N = l.length := ⟨_, rfl⟩
  have HN := Bx.mk hN
  have hNb : N ≤ 1000000 := by omega
  rw [← hN]
  clear hR hN h hn
  go_enter Tryz.func92, Tryz.ntmps92
  go_wp2
  go_loopw [3] (fun iv wr => ∃ i : Nat, iv = .int .i64 (i : Nat) ∧ 1 ≤ i ∧ i ≤ N + 1 ∧ Bx (∀ k (hk : k + 1 < l.length), k + 1 < i → l[k] < l[k + 1]) ∧ Below w.heap.size w wr) (fun iv _ => N + 1 - (intOf iv).toNat)
  case atStart => exact ⟨1, rfl, by omega, by omega, ⟨fun k hk h => by omega⟩, Below.refl _ _⟩
  case round =>
    obtain ⟨i, rfl, h1, h2, hB, hbel⟩ := hrel
    by_cases hlt : i < N
    · obtain ⟨j, rfl⟩ : ∃ j, i = j + 1 := ⟨i - 1, by omega⟩
      have hj1 : j + 1 < l.length := by rw [← HN.out]; exact hlt
      obtain ⟨b, o, rfl, hbl, hx⟩ := HC.out wr hbel j (by omega)
      obtain ⟨b', o', hbo, -, hy⟩ := HC.out wr hbel (j + 1) hj1
      simp only [Option.some.injEq, Addr.mk.injEq, and_true] at hbo
      obtain ⟨rfl, rfl⟩ := hbo
      have HBEL := Bx.mk hbel
      have wj : IntKind.i64.wrap (((j + 1 : Nat) : Int) - 1) = (j : Int) := by rw [IntWalk.i64_in _ (by omega)]; omega
      have ej : ((j : Int) + 1).toNat = j + 1 := by omega
      by_cases hc : l[j] < l[j + 1]
      · have HX := Bx.mk (show ∀ k (hk : k + 1 < l.length), k + 1 < j + 1 + 1 → l[k] < l[k + 1] by
          intro k hk hkj
          rcases Nat.lt_or_ge (k + 1) (j + 1) with q | q
          · exact hB.out k hk q
          · obtain rfl : k = j := by omega
            exact hc)
        generalize l[j] = X at *
        generalize l[j + 1] = Y at *
        have t1 : decide (X ≥ Y) = false := decide_eq_false (by omega)
        have t2 : decide (Y ≤ X) = false := decide_eq_false (by omega)
        clear hbel hc
        go_wp2_with fail
        go_quiet (fail)
        go_wp2_with fail
        go_roundw
        case rel => exact ⟨j + 2, by go_num, by omega, by omega, HX, below_drawn HBEL.out _⟩
        case measure => simp [intOf]; omega
      · have HF := Bx.mk (show R = false by rw [HR.out]; exact ascI_bad hj1 hc)
        generalize l[j] = X at *
        generalize l[j + 1] = Y at *
        have t1 : decide (X ≥ Y) = true := decide_eq_true (by omega)
        have t2 : decide (Y ≤ X) = true := decide_eq_true (by omega)
        clear hbel hc
        go_wp2_with fail
        go_quiet (fail)
        go_wp2_with fail
        go_ret
        exact ⟨by rw [HF.out]; rfl, below_drawn HBEL.out _⟩
    · have HE := Bx.mk (show R = decide ((0 : Int) < (N : Nat)) by
        rw [HR.out, HN.out]
        exact ascI_good (fun k hk => hB.out k hk (by have := HN.out; omega)))
      have HBEL := Bx.mk hbel
      obtain ⟨Z, hZ⟩ : ∃ Z, Z = decide ((N : Int) > 0) := ⟨_, rfl⟩
      have HZ := Bx.mk hZ
      clear hbel
      rw [show decide ((0 : Int) < (N : Nat)) = decide ((N : Int) > 0) from rfl, ← hZ] at HE
      go_wp2_with fail
      go_ret
      exact ⟨by rw [HE.out, HZ.out]; first | rfl | simp, HBEL.out⟩
set_option maxRecDepth 10000 in
theorem indexI_any (w : World) (v : Value) (l : List Int) (x : Int) (h : Ri w v l) (hl : l.length ≤ 9223372036854775807) :
    Calls Tryz.prog 113 #[v, .int .i64 x] w fun e w' => ∃ r : Int, e = .returned (.int .i64 r) ∧ (0 ≤ r ↔ x ∈ l) ∧ w = w' := by
  obtain ⟨ad, cp, rfl, -⟩ := RqIn.form h
  have HC := Bx.mk (h.cells w (Below.refl _ _))
  clear h
  go_enter Tryz.func113, Tryz.ntmps113
  go_wp2_with fail
  go_loop [5, 8] (fun _ i => ∃ k : Nat, k ≤ l.length ∧ i = .int .i64 (k : Int) ∧ x ∉ l.take k) (fun _ i => l.length - (intOf i).toNat)
  case atStart => exact ⟨0, by omega, rfl, by simp⟩
  case round =>
    obtain ⟨k, hk, rfl, hnot⟩ := hrel
    have HN := Bx.mk hnot
    clear hnot
    by_cases hlt : k < l.length
    · obtain ⟨b, o, rfl, -, hcl⟩ := HC.out k hlt
      have HT := Bx.mk (show x ≠ l[k] → x ∉ l.take (k + 1) from fun h1 h2 => by
        rw [List.take_succ_eq_append_getElem hlt, List.mem_append, List.mem_singleton] at h2
        exact h2.elim HN.out h1)
      have HM := Bx.mk (List.getElem_mem hlt)
      by_cases hxy : x = l[k]
      · have HR := Bx.mk (show decide (x ∈ l) = true by rw [hxy]; exact decide_eq_true HM.out)
        have hq : (x == l[k]) = true := by simpa using hxy
        rw [← hxy] at hcl
        have hq2 : (x == x) = true := by simp
        clear hxy HM hq
        go_wp2_with fail
        go_ret
        exact ⟨_, rfl, ⟨fun _ => of_decide_eq_true HR.out, fun _ => by omega⟩, rfl⟩
      · have HT2 := Bx.mk (HT.out hxy)
        have hq : (x == l[k]) = false := by simpa using hxy
        generalize l[k] = Y at *
        clear hxy HM
        go_wp2_with fail
        go_round
        case rel => exact ⟨k + 1, by omega, by go_num, HT2.out⟩
        case measure => simp [intOf]; omega
    · obtain rfl : k = l.length := by omega
      have HR := Bx.mk (show decide (x ∈ l) = false by have := HN.out; rw [List.take_length] at this; exact decide_eq_false this)
      go_wp2_with fail
      go_ret
      exact ⟨_, rfl, ⟨fun q => absurd q (by decide), fun q => absurd q (of_decide_eq_false HR.out)⟩, rfl⟩
theorem containsI_any (w : World) (v : Value) (l : List Int) (x : Int) (h : Ri w v l) (hl : l.length ≤ 9223372036854775807) :
    Calls Tryz.prog 78 #[v, .int .i64 x] w fun e w' => e = .returned (.bool (decide (x ∈ l))) ∧ w = w' := by
  have HI := Bx.mk (indexI_any w v l x h hl)
  clear h
  go_enter Tryz.func78, Tryz.ntmps78
  go_wp2_with fail
  go_at_call 113
  refine HI.out.mono ?_
  rintro e w' ⟨r, rfl, hr, rfl⟩
  have HR := Bx.mk hr
  clear hr
  go_wp2_with fail
  go_ret
  exact ⟨by simp [HR.out], rfl⟩

/-- the index of the first element with a property, or -1 -/
def idxG {α : Type} (t : List α) (f : α → Bool) : Int := if t.findIdx f < t.length then (t.findIdx f : Nat) else -1
theorem idxG_eq {α : Type} [Inhabited α] {t : List α} {f : α → Bool} {k : Nat} (hk : k < t.length) (h : f t[k]! = true) (hn : ∀ j, j < k → f t[j]! = false) : idxG t f = (k : Int) := by
  have e : t.findIdx f = k := by
    rw [List.findIdx_eq hk]
    rw [getElem!_pos t k hk] at h
    refine ⟨h, fun j hj => ?_⟩
    have := hn j hj
    rw [getElem!_pos t j (by omega)] at this
    exact this
  unfold idxG
  rw [e, if_pos hk]
theorem idxG_no {α : Type} [Inhabited α] {t : List α} {f : α → Bool} (hn : ∀ j, j < t.length → f t[j]! = false) : idxG t f = -1 := by
  unfold idxG
  rw [if_neg]
  intro h
  have h1 := List.findIdx_getElem (p := f) (w := h)
  have h2 := hn _ h
  rw [getElem!_pos t _ h] at h2
  rw [h1] at h2; cases h2
theorem idxG_some {α : Type} [Inhabited α] {t : List α} {f : α → Bool} (h : 0 ≤ idxG t f) : ∃ k, k < t.length ∧ idxG t f = (k : Int) ∧ f t[k]! = true ∧ ∀ j, j < k → f t[j]! = false := by
  unfold idxG at h ⊢
  split at h
  · rename_i q
    rw [if_pos q]
    refine ⟨_, q, rfl, ?_, fun j hj => ?_⟩
    · rw [getElem!_pos t _ q]; exact List.findIdx_getElem
    · rw [getElem!_pos t j (by omega)]
      exact Bool.eq_false_iff.2 (by simpa using List.not_of_lt_findIdx hj)
  · omega
theorem idxG_neg {α : Type} [Inhabited α] {t : List α} {f : α → Bool} (h : idxG t f < 0) : ∀ j, j < t.length → f t[j]! = false := by
  intro j hj
  unfold idxG at h
  split at h
  · omega
  · rename_i q
    rw [getElem!_pos t j hj]
    exact Bool.eq_false_iff.2 (by simpa using List.not_of_lt_findIdx (p := f) (xs := t) (by have := List.findIdx_le_length (p := f) (xs := t); omega))
/-- find -/
def fndP (l : List Vx) (p : B) : Int := idxG l fun n => decide (n.pol = p)
theorem vxs_at (l : List Vt) (i : Nat) (h : i < l.length) : (vxs l)[i]! = (l[i]).n := by
  rw [getElem!_pos (vxs l) i (by simpa [vxs] using h)]; simp [vxs]
theorem vxs_len (l : List Vt) : (vxs l).length = l.length := by simp [vxs]
theorem VL.at3 {w : World} {ad : Option Addr} {n c : Nat} {l : List Vt} (h : VL w (.slice ad n c) l) (W : World) (hW : Below w.heap.size w W) (k : Nat) (hk : k < l.length) : ∃ b o, ad = some ⟨b, o, none⟩ ∧ b < w.heap.size ∧ W.cell? ⟨b, o + k * 3, none⟩ = some (.string (bstr (l[k]).n.pol)) ∧ W.cell? ⟨b, o + k * 3 + 1, none⟩ = some (l[k]).u.val ∧ W.cell? ⟨b, o + k * 3 + 2, none⟩ = some (l[k]).q.val :=
  (vs_cells h.rd).2 W (fun k hk _ => hW.block k hk) k hk
set_option maxRecDepth 100000 in
theorem findF_any (w : World) (x : Vt) (qd : Nat) (p : B) (hq : w.cell? ⟨qd, 0, none⟩ = some (.string (bstr p))) (hql : qd < w.heap.size) :
    Calls Tryz.prog 95 #[verV x, .pointer (some ⟨qd, 0, none⟩)] w fun e w' => e = .returned (.bool (decide (x.n.pol = p))) ∧ Below w.heap.size w w' := by
  have l3 := same_bytes x.n.pol p
  unfold verV
  generalize decide (x.n.pol = p) = R at *
  generalize x.u.val = U1 at *
  generalize x.q.val = U2 at *
  generalize bstr x.n.pol = S at *
  generalize bstr p = T at *
  have hb := (Below.refl w.heap.size w).alloc (Nat.le_refl _) (.cells #[.string S, U1, U2] 65)
  have HB := Bx.mk hb
  have hq1 := (hb.cell (p := ⟨qd, 0, none⟩) hql).trans hq
  clear hb hq
  go_enter Tryz.func95, Tryz.ntmps95
  go_wp2_with fail
  go_ret
  exact ⟨rfl, HB.out⟩
set_option maxRecDepth 100000 in
set_option maxHeartbeats 2000000 in
theorem idxV_any (w : World) (v : Value) (l : List Vt) (h : VL w v l) (hn : l.length ≤ 100000) (qd : Nat) (p : B) (hq : w.cell? ⟨qd, 0, none⟩ = some (.string (bstr p))) (hql : qd < w.heap.size) :
    Calls Tryz.prog 94 #[v, .func (.func 95) #[] #[.pointer (some ⟨qd, 0, none⟩)]] w fun e w' => e = .returned (.int .i64 (fndP (vxs l) p)) ∧ Below w.heap.size w w' := by
  obtain ⟨ad, c, rfl, -⟩ := h.rd.form
  have HC := Bx.mk h.at3
  obtain ⟨R, hR⟩ : ∃ R, R = fndP (vxs l) p := ⟨_, rfl⟩
  rw [← hR]
  have HR := Bx.mk hR
  obtain ⟨N, hN⟩ : ∃ N, N = l.length := ⟨_, rfl⟩
  have HN := Bx.mk hN
  rw [← hN] at hn ⊢
  clear h hR hN
  have HQ := Bx.mk hq
  have HQL := Bx.mk hql
  clear hq hql
  have eg : ∀ args W, (callFunc 95 args).run Tryz.prog W = .ok (.enter 95 args) W := enters_of Tryz.func95 (by kernel_rfl) rfl
  go_enter Tryz.func94, Tryz.ntmps94
  go_wp2_with fail
  go_loopw [8] (fun i wr => ∃ k : Nat, k ≤ N ∧ i = .int .i64 k ∧ Bx (∀ j, j < k → decide (((vxs l)[j]!).pol = p) = false) ∧ Bx (Below w.heap.size w wr)) (fun i _ => N - (intOf i).toNat)
  case atStart => exact ⟨0, by omega, rfl, ⟨fun j hj => by omega⟩, ⟨Below.refl _ _⟩⟩
  case round =>
    obtain ⟨k, hk, rfl, hF, hBw⟩ := hrel
    by_cases hlt : k < N
    · have hkl : k < l.length := by rw [← HN.out]; exact hlt
      obtain ⟨b, o, rfl, hbl, c0, c1, c2⟩ := HC.out wr hBw.out k hkl
      have HX := Bx.mk (show (vxs l)[k]! = (l[k]).n from vxs_at l k hkl)
      obtain ⟨x, hx⟩ : ∃ x, x = l[k] := ⟨_, rfl⟩
      rw [← hx] at c0 c1 c2 HX
      simp only [Sl.val] at c1 c2
      have hcf := findF_any wr x qd p ((hBw.out.cell (p := ⟨qd, 0, none⟩) HQL.out).trans HQ.out) (Nat.lt_of_lt_of_le HQL.out hBw.out.size)
      unfold verV at hcf
      simp only [Sl.val] at hcf
      obtain ⟨r, hr⟩ : ∃ r, r = decide (x.n.pol = p) := ⟨_, rfl⟩
      rw [← hr] at hcf
      have HRX := Bx.mk hr
      clear hx hbl hr
      go_wp2_with fail
      go_at_call 95
      refine hcf.mono ?_
      rintro e w2 ⟨rfl, hb2⟩
      have HB2 := Bx.mk (hBw.out.trans (hb2.mono hBw.out.size))
      clear hcf hb2 c0 c1 c2
      cases r with
      | true =>
        have HF2 := Bx.mk (show R = (k : Int) by rw [HR.out]; exact idxG_eq (by rw [vxs_len]; exact hkl) (by rw [HX.out]; exact HRX.out.symm) hF.out)
        clear hkl
        go_wp2_with fail
        go_ret
        exact ⟨by rw [HF2.out]; rfl, HB2.out⟩
      | false =>
        clear hkl
        go_wp2_with fail
        go_roundw
        case rel => exact ⟨k + 1, by omega, by go_num, ⟨fun j hj => by
          by_cases e : j = k
          · subst e; rw [HX.out]; exact HRX.out.symm
          · exact hF.out j (by omega)⟩, HB2⟩
        case measure => simp [intOf]; omega
    · obtain rfl : N = k := by omega
      have HF2 := Bx.mk (show R = -1 by rw [HR.out]; exact idxG_no fun i hi => hF.out i (by rw [vxs_len, ← HN.out] at hi; exact hi))
      go_wp2_with fail
      go_ret
      exact ⟨by rw [HF2.out]; rfl, hBw.out⟩
set_option maxRecDepth 100000 in
theorem find_any (w : World) (v : Value) (l : List Vt) (h : VL w v l) (hn : l.length ≤ 100000) (p : B) :
    Calls Tryz.prog 50 #[.agg #[v], .string (bstr p)] w fun e w' => e = .returned (.int .i64 (fndP (vxs l) p)) ∧ Below w.heap.size w w' := by
  obtain ⟨ad, c, rfl, -⟩ := h.rd.form
  obtain ⟨W1, hW1⟩ : ∃ W1, W1 = w.alloc (.cells #[.slice ad l.length c] 63) := ⟨_, rfl⟩
  obtain ⟨W2, hW2⟩ : ∃ W2, W2 = W1.alloc (.cells #[.string (bstr p)] 9) := ⟨_, rfl⟩
  have hb1 : Below w.heap.size w W1 := by rw [hW1]; exact (Below.refl _ _).alloc (Nat.le_refl _) _
  have hb2 : Below W1.heap.size W1 W2 := by rw [hW2]; exact (Below.refl _ _).alloc (Nat.le_refl _) _
  have hs1 : W1.heap.size = w.heap.size + 1 := by rw [hW1]; simp
  have hs2 : W2.heap.size = W1.heap.size + 1 := by rw [hW2]; simp
  have hr1 : W1.heap[w.heap.size]? = some (.cells #[.slice ad l.length c] 63 (0, 0)) := by rw [hW1]; exact heap_alloc_new _ _
  have hr2 : W2.heap[W1.heap.size]? = some (.cells #[.string (bstr p)] 9 (0, 0)) := by rw [hW2]; exact heap_alloc_new _ _
  have hr1' := (hb2.block w.heap.size (by omega)).trans hr1
  have m0 := cell_of_row _ _ 0 _ _ _ hr1'
  have m1 := cell_of_row _ _ 0 _ _ _ hr2
  simp only [List.getElem?_toArray, List.getElem?_cons_zero] at m0 m1
  have hB2 : Below w.heap.size w W2 := hb1.trans (hb2.mono hb1.size)
  have hidx := idxV_any W2 _ l (h.below hB2) hn W1.heap.size p m1 (by omega)
  have HB2 := Bx.mk hB2
  obtain ⟨R, hR⟩ : ∃ R, R = fndP (vxs l) p := ⟨_, rfl⟩
  rw [← hR] at hidx ⊢
  obtain ⟨N, hN⟩ : ∃ N, N = l.length := ⟨_, rfl⟩
  rw [← hN] at hidx hW1 m0 ⊢
  rw [hs1] at hidx
  obtain ⟨q1, hq1⟩ : ∃ q, q = w.heap.size + 1 := ⟨_, rfl⟩
  obtain ⟨q0, hq0⟩ : ∃ q, q = w.heap.size := ⟨_, rfl⟩
  rw [← hq1] at hidx
  rw [← hq0] at m0
  clear hb1 hb2 hs1 hs2 hr1 hr2 hr1' hB2 m1 hR hN h hn
  go_enter Tryz.func50, Tryz.ntmps50
  go_upto_region 1 with fail
  rw [← hW1, ← hW2, ← hq1, ← hq0]
  clear hW1 hW2 hq1 hq0
  go_wp2_with fail
  go_at_call 94
  refine hidx.mono ?_
  rintro e w3 ⟨rfl, hb3⟩
  have HB3 := Bx.mk (HB2.out.trans (hb3.mono HB2.out.size))
  clear hidx hb3
  go_wp2_with fail
  go_ret
  exact ⟨rfl, HB3.out⟩
end Go.Proofs.YtmagjdocondmhaaGreat.Tr.Gr
namespace Go.Proofs.YtmagjdocondmhaaGreat.Rg
open Go Go.RowKit Go.Shelf Go.Proofs.YtmagjdocondmhaaGreat.Slc
set_option linter.unusedVariables false
set_option linter.unusedSimpArgs false

theorem lt_of_at {w : World} {k : Nat} {ob : Obj} (h : w.heap[k]? = some ob) : k < w.heap.size := by
  rcases Nat.lt_or_ge k w.heap.size with q | q
  · exact q
  · rw [Array.getElem?_eq_none q] at h; cases h
theorem alloc_at {w : World} {c : Array Value} {t : TypeId} {n : Nat} (hn : n = w.heap.size) : (w.alloc (.cells c t)).heap[n]? = some (.cells c t (0, 0)) := by
  subst hn; exact heap_alloc_new _ _
theorem alloc_keep {w : World} {p : Nat} {ob o : Obj} (h : w.heap[p]? = some ob) : (w.alloc o).heap[p]? = some ob := by
  have := lt_of_at h
  show (w.heap.push o)[p]? = _
  rw [Array.getElem?_push_lt this, ← h, Array.getElem?_eq_getElem this]
theorem row_set {W : World} {p i : Nat} {c : Array Value} {t : TypeId} {fr : Nat × Nat} (h : W.heap[p]? = some (.cells c t fr)) (v : Value) : (W.setCell ⟨p, i, none⟩ v).heap[p]? = some (.cells (c.setIfInBounds i v) t fr) := by
  simp only [World.setCell, Array.getElem?_modify, if_true, h, Option.map_some]
  simp
theorem row_other {W : World} {p q i : Nat} {ob : Obj} (h : W.heap[p]? = some ob) (hne : p ≠ q) (v : Value) : (W.setCell ⟨q, i, none⟩ v).heap[p]? = some ob := by
  simp only [World.setCell, Array.getElem?_modify]
  rw [if_neg (by omega)]; exact h
theorem frozen_row {W : World} {p i : Nat} {c : Array Value} {t : TypeId} (h : W.heap[p]? = some (.cells c t (0, 0))) : W.frozen? ⟨p, i, none⟩ = false := by
  simp [World.frozen?, h]
theorem cells_kept {A B : World} {B0 p : Nat} {c : Array Value} {t : TypeId} {row : Option Nat} (h : A.heap[p]? = some (.cells c t (0, 0))) (hg : A.grownBy B row) (hr : ∀ r, row = some r → B0 ≤ r ∧ ∃ o : Obj, A.heap[r]? = some o ∧ o.isCells = false) : B.heap[p]? = some (.cells c t (0, 0)) := by
  refine (hg.block p (lt_of_at h) fun e => ?_).trans h
  obtain ⟨-, o, ho, hc⟩ := hr p e.symm
  rw [h] at ho
  obtain rfl := Option.some.inj ho
  simp [Obj.isCells] at hc
/-- the block of an owned slice is one of cells -/
theorem own_cells {α : Type} {w : World} {B : Nat} {t : TypeId} {z : Nat} {enc : α → List Value} {v : Value} {l : List α} (h : Slc.Own w B t z enc v l) : ∀ (j : Nat) (o : Obj), v.ownBlock = some j → w.heap[j]? = some o → o.isCells = true := by
  intro j o hj ho
  rcases h.2 with ⟨rfl, _⟩ | ⟨g, cap, cur, rfl, _, hg, _⟩
  · cases hj
  · simp only [Value.ownBlock, Option.some.injEq] at hj
    subst hj
    rw [hg] at ho
    obtain rfl := Option.some.inj ho
    rfl
theorem own_kept {α : Type} {A B : World} {B0 b : Nat} {t : TypeId} {z : Nat} {enc : α → List Value} {v : Value} {l : List α} {row : Option Nat} (h : Slc.Own A b t z enc v l) (hg : A.grownBy B row) (hr : ∀ r, row = some r → B0 ≤ r ∧ ∃ o : Obj, A.heap[r]? = some o ∧ o.isCells = false) : Slc.Own B b t z enc v l := by
  refine h.keep fun k hk hlt => hg.block k hlt fun e => ?_
  obtain ⟨-, o, ho, hc⟩ := hr k e.symm
  rw [own_cells h k o hk ho] at hc
  cases hc
/-- all blocks below n but p stay -/
structure KB (n p : Nat) (W W' : World) : Prop where
  os : W'.os = W.os
  tape : W'.tape = W.tape
  output : W'.output = W.output
  size : W.heap.size ≤ W'.heap.size
  block : ∀ k, k < n → k ≠ p → W'.heap[k]? = W.heap[k]?
theorem KB.refl (n p : Nat) (W : World) : KB n p W W := ⟨rfl, rfl, rfl, Nat.le_refl _, fun _ _ _ => rfl⟩
theorem KB.trans {n p : Nat} {A B C : World} (h : KB n p A B) (k : KB n p B C) : KB n p A C := ⟨k.os.trans h.os, k.tape.trans h.tape, k.output.trans h.output, Nat.le_trans h.size k.size, fun i h1 h2 => (k.block i h1 h2).trans (h.block i h1 h2)⟩
theorem KB.of_below {n p : Nat} {A B : World} (h : Below n A B) : KB n p A B := ⟨h.os, h.tape, h.output, h.size, fun k hk _ => h.block k hk⟩
theorem KB.grown {n p : Nat} {A B : World} (h : A.grownBy B (some p)) (hn : n ≤ A.heap.size) : KB n p A B := ⟨h.os, h.tape, h.output, h.size, fun k hk hne => h.block k (by omega) (fun e => hne (by simpa using e))⟩
theorem KB.set {n p : Nat} (A : World) (i : Nat) (v : Value) (hn : n ≤ A.heap.size) : KB n p A (A.setCell ⟨p, i, none⟩ v) := ⟨rfl, rfl, rfl, by simp, fun k hk hne => heap_setCell_other A _ k v fun e => hne e⟩
/-- the law with the frame named by the law itself -/
theorem rf_H {F : Fence} {n : Nat} {P : Program} {α : Type} {g : Operand} {ps : Array Tmp} {assign body : Code} {Q : Exit → Act → World → Prop} {a : Act} {w : World}
    (hro : F.round = none) (h1 : 1 ≤ n) {gf : Nat} {lb : Array Value} (hg : a.eval g = .func (.func gf) #[] lb) (hFg : F.fn gf) (eg : ∀ args w, (callFunc gf args).run P w = .ok (.enter gf args) w)
    {encs : α → Array Value} {Kp : World → World → Prop} {S Sp : List α → Prop} {N : Nat} {w0 : World} (hseq : SeqStopsK F (n - 1) P gf lb encs Kp S Sp N w0)
    (hKt : ∀ {A B C : World}, Kp A B → Kp B C → Kp A C) (hKb : ∀ (W : World) (l : Nat) (o o' : Obj), w.heap.size ≤ l → W.heap[l]? = some o → o.isCells = false → o.isWalk = false → Kp W (W.putObj l o')) (hb0 : Below w0.heap.size w0 w) (hps : ∀ x, (encs x).size = ps.size)
    (I : List α → World → Prop) (Ix : Code → List α → World → Prop) (hI : OwnFrom w.heap.size I) (hIx : ∀ c, OwnFrom w.heap.size (Ix c)) (h0 : I [] w) (Ax : Act → α → Act → World → Prop) (hAx : ∀ x a', OwnFrom w.heap.size (fun (_ : Unit) W => Ax a x a' W))
    (hassign : ∀ (l : Nat) (pre : List α) (x : α) (W : World) (K : Act → World → Prop), I pre W → (∀ a' W', KeepsFrom w.heap.size W W' → Kp W W' → I pre W' → Ax a x a' W' → K a' W') →
      assign.wpIn (F.inRound l) (n - 1 - 1) P (Exit.then K (fun _ _ _ => False)) { tmps := (ps.zip (encs x)).foldl (fun t (p, v) => t.setIfInBounds p v) a.tmps, defers := [] } W)
    (hbody : ∀ (l : Nat) (pre : List α) (x : α) (a' : Act) (W : World), w.heap.size ≤ l → (∃ r, W.heap[l]? = some (.loop r)) → I pre W → Ax a x a' W → pre.length < N → body.wpIn (F.inRound l) (n - 1 - 1) P (ownPostG w.heap.size Kp I Ix (pre ++ [x]) W) a' W)
    (hdone : ∀ (D : Nat) (xs : List α) (W : World), w.heap.size ≤ D → S xs → I xs W → W.heap[D]? = some (.deferred (some [])) → Q .normal { a with defers := { target := .collected D, args := #[] } :: a.defers } W)
    (hstop : ∀ (D : Nat) (c : Code) (pre : List α) (W : World), w.heap.size ≤ D → Sp pre → Ix c pre W → W.heap[D]? = some (.deferred (some [])) → c.wpIn F n P Q { a with defers := { target := .collected D, args := #[] } :: a.defers } W) :
    (Code.rangeFunc g ps assign body).wpIn F n P Q a w :=
  wpIn_rangeFunc_ownH hro h1 hg hFg eg hseq hKt hKb hb0 hps I Ix hI hIx h0 (Ax a) hAx hassign hbody hdone hstop
end Go.Proofs.YtmagjdocondmhaaGreat.Rg
