/-
  Small functions on nodes and strings: special, onlyAny, ascending.
-/
/-
  slices.Index and slices.Contains at strings.
-/
/-
  fits: whether a node is permitted behind those before it.
-/
/-
  fits behind the root.
-/
/-
  fits, in one statement; valid trees in plain Lean.
-/
import Derived.Test.YtmagjdocondmhaaTrSym
import Derived.Lib.Hide
import Derived.Test.YtmagjdocondmhaaShelf
import Derived.Deep.CutRange
import Derived.Deep.DeepCutAuto
namespace Go.Proofs.Ytmagjdocondmhaa.Tr
open Go Go.RowKit Go.Proofs.Ytmagjdocondmhaa.Slc Go.Proofs.Ytmagjdocondmhaa.St
set_option linter.unusedVariables false
set_option linter.unusedSimpArgs false
attribute [local go_sem] Oper.semAt_some

/-- the special policy -/
def anyP : B := [50, 46, 53, 46, 50, 57, 46, 51, 50, 46, 48]
theorem anyP_str : bstr anyP = ⟨#[50, 46, 53, 46, 50, 57, 46, 51, 50, 46, 48]⟩ := rfl
def spec (n : Nd) : Bool := decide (n.pol = anyP)
def onlyB (l : List B) : Bool := decide (l = [anyP])
def ascB (l : List B) : Bool := decide (l.Pairwise (· < ·)) && !l.isEmpty
theorem same_any (a : B) : ((bstr a).toList == ([50, 46, 53, 46, 50, 57, 46, 51, 50, 46, 48] : List UInt8)) = decide (a = anyP) := by
  have h := same_bytes a anyP
  rw [ByteArray.toList_eq (bstr anyP)] at h
  exact h
theorem special_any (x : Nt) (w : World) : Calls Try.prog 51 #[nodV x] w fun e w' => e = .returned (.bool (spec x.n)) ∧ Below w.heap.size w w' := by
  have hs := same_any x.n.pol
  unfold nodV
  rw [show spec x.n = decide (x.n.pol = anyP) from rfl]
  generalize decide (x.n.pol = anyP) = R at *
  generalize x.u.val = U1 at *
  generalize bstr x.n.pol = S at *
  go_enter Try.func51, Try.ntmps51
  go_wp2_with fail
  go_ret
  exact ⟨rfl, (Below.refl _ _).alloc (Nat.le_refl _) _⟩
theorem only_q (w : World) (v : Value) (l : List B) (h : Rq w v l) : Calls Try.prog 59 #[v] w fun e w' => e = .returned (.bool (onlyB l)) ∧ w = w' := by
  obtain ⟨ad, c, rfl, hc0⟩ := h.form
  obtain ⟨-, hcell⟩ := strs_cells_q h
  by_cases h1 : l.length = 1
  · obtain ⟨a, rfl⟩ := List.length_eq_one_iff.1 h1
    obtain ⟨b, o, rfl, -, hx⟩ := hcell w (Below.refl _ _) 0 (by simp)
    have hs := same_any a
    have hR : onlyB [a] = decide (a = anyP) := by unfold onlyB; simp
    rw [hR]
    simp only [List.getElem_cons_zero, Nat.add_zero] at hx
    generalize decide (a = anyP) = R at *
    have hz : ([a] : List B).length = 1 := rfl
    rw [hz]
    generalize bstr a = S at *
    clear hcell h h1 hR hz hc0
    go_enter Try.func59, Try.ntmps59
    go_wp2_with fail
    go_ret
    exact ⟨by first | rfl | simp [hs], rfl⟩
  · have hR : onlyB l = false := decide_eq_false (fun h => h1 (by rw [h]; rfl))
    rw [hR]
    have t0 : (((l.length : Nat) : Int) == 1) = false := by simp; omega
    have t1 : ¬ (((l.length : Nat) : Int) = 1) := by omega
    clear hcell h hR hc0
    generalize l.length = N at *
    go_enter Try.func59, Try.ntmps59
    go_wp2_with fail
    go_ret
    exact ⟨rfl, rfl⟩
theorem only_any (w : World) (v : Value) (l : List B) (h : Rd w encS v l) : Calls Try.prog 59 #[v] w fun e w' => e = .returned (.bool (onlyB l)) ∧ w = w' := only_q w v l (.inr h)
theorem below_drawn {B : Nat} {a w : World} (h : Below B a w) (q : Nat) : Below B a (w.drewN q) := ⟨h.os, h.tape, h.output, h.size, h.block⟩
theorem ascB_bad {l : List B} {i : Nat} (hi : i + 1 < l.length) (h : ¬ l[i] < l[i + 1]) : ascB l = false := by
  unfold ascB
  rw [decide_eq_false (fun hp => h (List.pairwise_iff_getElem.1 hp i (i + 1) (by omega) hi (by omega))), Bool.false_and]
theorem lt_tr {a b c : B} (h1 : a < b) (h2 : b < c) : a < c := List.lt_trans h1 h2
theorem pair_chain : ∀ (l : List B), (∀ k (hk : k + 1 < l.length), l[k] < l[k + 1]) → l.Pairwise (· < ·)
  | [], _ => List.Pairwise.nil
  | [a], _ => by simp
  | a :: b :: l, h => by
    have ih := pair_chain (b :: l) (fun k hk => h (k + 1) (by simp only [List.length_cons] at hk ⊢; omega))
    have h0 : a < b := h 0 (by simp)
    refine List.pairwise_cons.2 ⟨fun x hx => ?_, ih⟩
    rcases List.mem_cons.1 hx with rfl | hx
    · exact h0
    · exact lt_tr h0 ((List.pairwise_cons.1 ih).1 x hx)
theorem ascB_good {l : List B} (h : ∀ k (hk : k + 1 < l.length), l[k] < l[k + 1]) : ascB l = decide ((0 : Int) < (l.length : Nat)) := by
  unfold ascB
  rw [decide_eq_true (pair_chain l h), Bool.true_and]
  cases l <;> simp
set_option maxHeartbeats 1000000 in
theorem ascending_q (w : World) (v : Value) (l : List B) (h : Rq w v l) (hn : l.length ≤ 1000000) : Calls Try.prog 61 #[v] w fun e w' => e = .returned (.bool (ascB l)) ∧ Below w.heap.size w w' := by
  obtain ⟨ad, c, rfl, hc0⟩ := h.form
  obtain ⟨-, hcell⟩ := strs_cells_q h
  have HC := Bx.mk hcell
  obtain ⟨R, hR⟩ : ∃ R, R = ascB l := ⟨_, rfl⟩
  rw [← hR]
  have HR := Bx.mk hR
  obtain ⟨N, hN⟩ : ∃ N, N = l.length := ⟨_, rfl⟩
  have HN := Bx.mk hN
  have hNb : N ≤ 1000000 := by omega
  rw [← hN]
  clear hcell hR hN h hc0 hn
  go_enter Try.func61, Try.ntmps61
  go_wp2
  go_loopw [3] (fun iv wr => ∃ i : Nat, iv = .int .i64 (i : Nat) ∧ 1 ≤ i ∧ i ≤ N + 1 ∧ Bx (∀ k (hk : k + 1 < l.length), k + 1 < i → l[k] < l[k + 1]) ∧ Below w.heap.size w wr) (fun iv _ => N + 1 - (intOf iv).toNat)
  case atStart => exact ⟨1, rfl, by omega, by omega, ⟨fun k hk h => by omega⟩, Below.refl _ _⟩
  case round =>
    obtain ⟨i, rfl, h1, h2, hB, hbel⟩ := hrel
    by_cases hlt : i < N
    · obtain ⟨j, rfl⟩ : ∃ j, i = j + 1 := ⟨i - 1, by omega⟩
      have hj1 : j + 1 < l.length := by rw [← HN.out]; exact hlt
      obtain ⟨b, o, rfl, hbl, hx⟩ := HC.out wr hbel j (by omega)
      obtain ⟨b', o', hbo, -, hy⟩ := HC.out wr hbel (j + 1) hj1
      simp only [Option.some.injEq, Addr.mk.injEq, and_true] at hbo
      obtain ⟨rfl, rfl⟩ := hbo
      have l1 := less_bytes l[j] l[j + 1]
      have l2 := less_bytes l[j + 1] l[j]
      have l3 := same_bytes l[j] l[j + 1]
      have HBEL := Bx.mk hbel
      have wj : IntKind.i64.wrap (((j + 1 : Nat) : Int) - 1) = (j : Int) := by rw [IntWalk.i64_in _ (by omega)]; omega
      have ej : ((j : Int) + 1).toNat = j + 1 := by omega
      by_cases hc : l[j] < l[j + 1]
      · rw [decide_eq_true hc] at l1
        rw [decide_eq_false (List.lt_asymm hc)] at l2
        have HX := Bx.mk (show ∀ k (hk : k + 1 < l.length), k + 1 < j + 1 + 1 → l[k] < l[k + 1] by
          intro k hk hkj
          rcases Nat.lt_or_ge (k + 1) (j + 1) with q | q
          · exact hB.out k hk q
          · obtain rfl : k = j := by omega
            exact hc)
        rw [decide_eq_false (fun e => by rw [e] at hc; exact List.lt_irrefl _ hc)] at l3
        generalize bstr l[j] = X at *
        generalize bstr l[j + 1] = Y at *
        clear hbel hc
        go_wp2_with fail
        go_quiet (fail)
        go_wp2_with fail
        go_roundw
        case rel => exact ⟨j + 2, by go_num, by omega, by omega, HX, below_drawn HBEL.out _⟩
        case measure => simp [intOf]; omega
      · rw [decide_eq_false hc] at l1
        have HF := Bx.mk (show R = false by rw [HR.out]; exact ascB_bad hj1 hc)
        by_cases h2 : l[j + 1] < l[j]
        · rw [decide_eq_true h2] at l2
          rw [decide_eq_false (fun e => hc (by rw [e] at h2; exact absurd h2 (List.lt_irrefl _)))] at l3
          generalize bstr l[j] = X at *
          generalize bstr l[j + 1] = Y at *
          clear hbel hc h2
          go_wp2_with fail
          go_quiet (fail)
          go_wp2_with fail
          go_ret
          exact ⟨by rw [HF.out]; rfl, below_drawn HBEL.out _⟩
        · rw [decide_eq_false h2] at l2
          rw [decide_eq_true (eqB hc h2)] at l3
          generalize bstr l[j] = X at *
          generalize bstr l[j + 1] = Y at *
          clear hbel hc h2
          go_wp2_with fail
          go_quiet (fail)
          go_wp2_with fail
          go_ret
          exact ⟨by rw [HF.out]; rfl, below_drawn HBEL.out _⟩
    · have HE := Bx.mk (show R = decide ((0 : Int) < (N : Nat)) by
        rw [HR.out, HN.out]
        exact ascB_good (fun k hk => hB.out k hk (by have := HN.out; omega)))
      have HBEL := Bx.mk hbel
      obtain ⟨Z, hZ⟩ : ∃ Z, Z = decide ((N : Int) > 0) := ⟨_, rfl⟩
      have HZ := Bx.mk hZ
      clear hbel
      rw [show decide ((0 : Int) < (N : Nat)) = decide ((N : Int) > 0) from rfl, ← hZ] at HE
      go_wp2_with fail
      go_ret
      exact ⟨by rw [HE.out, HZ.out]; first | rfl | simp, HBEL.out⟩
theorem ascending_any (w : World) (v : Value) (l : List B) (h : Rd w encS v l) (hn : l.length ≤ 1000000) : Calls Try.prog 61 #[v] w fun e w' => e = .returned (.bool (ascB l)) ∧ Below w.heap.size w w' := ascending_q w v l (.inr h) hn
end Go.Proofs.Ytmagjdocondmhaa.Tr

namespace Go.Proofs.Ytmagjdocondmhaa.Tr
open Go Go.RowKit Go.Proofs.Ytmagjdocondmhaa.Slc Go.Proofs.Ytmagjdocondmhaa.St
set_option linter.unusedVariables false
set_option linter.unusedSimpArgs false
attribute [local go_sem] Oper.semAt_some


set_option maxRecDepth 10000 in
theorem index_q (w : World) (v : Value) (l : List B) (x : B) (h : Rq w v l) (hl : l.length ≤ 9223372036854775807) :
    Calls Try.prog 64 #[v, .string (bstr x)] w fun e w' => ∃ r : Int, e = .returned (.int .i64 r) ∧ (0 ≤ r ↔ x ∈ l) ∧ w = w' := by
  obtain ⟨ad, cp, hv, -⟩ := h.form
  have HC := Bx.mk (fun hp => (h.rd hp).cells encS_ok hp)
  subst hv
  have HX := Bx.mk (fun y : B => show ((bstr x).toList == (bstr y).toList) = decide (x = y) by
    rw [ByteArray.toList_eq, ByteArray.toList_eq, bstr_list, bstr_list]
    by_cases q : x = y
    · rw [q]; simp
    · rw [decide_eq_false q]; simpa using q)
  clear h
  generalize bstr x = X at *
  go_enter Try.func64, Try.ntmps64
  go_wp2_with fail
  go_loop [5, 8] (fun _ i => ∃ k : Nat, k ≤ l.length ∧ i = .int .i64 (k : Int) ∧ x ∉ l.take k) (fun _ i => l.length - (intOf i).toNat)
  case atStart => exact ⟨0, by omega, rfl, by simp⟩
  case round =>
    obtain ⟨k, hk, rfl, hnot⟩ := hrel
    have HN := Bx.mk hnot
    clear hnot
    by_cases hlt : k < l.length
    · obtain ⟨b, o, c, hvf, -, -, hcell⟩ := HC.out (by omega)
      simp only [Value.slice.injEq, true_and] at hvf
      obtain ⟨rfl, rfl⟩ := hvf
      have hcl := hcell w (fun _ _ => rfl) k hlt 0 _ (by omega) rfl
      simp only [Nat.mul_one, Nat.add_zero] at hcl
      have hq := HX.out l[k]
      have HT := Bx.mk (show x ≠ l[k] → x ∉ l.take (k + 1) from fun h1 h2 => by
        rw [List.take_succ_eq_append_getElem hlt, List.mem_append, List.mem_singleton] at h2
        exact h2.elim HN.out h1)
      have HM := Bx.mk (List.getElem_mem hlt)
      clear hcell
      by_cases hxy : x = l[k]
      · rw [decide_eq_true hxy] at hq
        have HR := Bx.mk (show decide (x ∈ l) = true by rw [hxy]; exact decide_eq_true HM.out)
        clear hxy HM
        generalize bstr l[k] = Y at *
        go_wp2_with fail
        go_ret
        exact ⟨_, rfl, ⟨fun _ => of_decide_eq_true HR.out, fun _ => by omega⟩, rfl⟩
      · rw [decide_eq_false hxy] at hq
        have HT2 := Bx.mk (HT.out hxy)
        clear hxy HM
        generalize bstr l[k] = Y at *
        go_wp2_with fail
        go_round
        case rel => exact ⟨k + 1, by omega, by go_num, HT2.out⟩
        case measure => simp [intOf]; omega
    · obtain rfl : k = l.length := by omega
      have HR := Bx.mk (show decide (x ∈ l) = false by have := HN.out; rw [List.take_length] at this; exact decide_eq_false this)
      go_wp2_with fail
      go_ret
      exact ⟨_, rfl, ⟨fun q => absurd q (by decide), fun q => absurd q (of_decide_eq_false HR.out)⟩, rfl⟩
theorem index_any (w : World) (v : Value) (l : List B) (x : B) (h : Rd w encS v l) (hl : l.length ≤ 9223372036854775807) :
    Calls Try.prog 64 #[v, .string (bstr x)] w fun e w' => ∃ r : Int, e = .returned (.int .i64 r) ∧ (0 ≤ r ↔ x ∈ l) ∧ w = w' := index_q w v l x (.inr h) hl
theorem contains_q (w : World) (v : Value) (l : List B) (x : B) (h : Rq w v l) (hl : l.length ≤ 9223372036854775807) :
    Calls Try.prog 39 #[v, .string (bstr x)] w fun e w' => e = .returned (.bool (decide (x ∈ l))) ∧ w = w' := by
  have HI := Bx.mk (index_q w v l x h hl)
  clear h
  generalize bstr x = X at *
  go_enter Try.func39, Try.ntmps39
  go_wp2_with fail
  go_at_call 64
  refine HI.out.mono ?_
  rintro e w' ⟨r, rfl, hr, rfl⟩
  have HR := Bx.mk hr
  clear hr
  go_wp2_with fail
  go_ret
  exact ⟨by simp [HR.out], rfl⟩
theorem contains_any (w : World) (v : Value) (l : List B) (x : B) (h : Rd w encS v l) (hl : l.length ≤ 9223372036854775807) :
    Calls Try.prog 39 #[v, .string (bstr x)] w fun e w' => e = .returned (.bool (decide (x ∈ l))) ∧ w = w' := contains_q w v l x (.inr h) hl
end Go.Proofs.Ytmagjdocondmhaa.Tr

namespace Go.Proofs.Ytmagjdocondmhaa.Tr
open Go Go.RowKit Go.Proofs.Ytmagjdocondmhaa.Slc Go.Proofs.Ytmagjdocondmhaa.St
set_option linter.unusedVariables false
set_option linter.unusedSimpArgs false
attribute [local go_sem] Oper.semAt_some

/-- the node with an index is permitted behind those before it -/
def fit0 (n : Nd) : Bool := decide (n.d = 0) && (decide (n.p = -1) && (spec n && onlyB n.ex))
def fit1 (q n m : Nd) (i : Nat) (dep : Int) : Bool :=
  !(decide (n.p < 0) || (decide (n.p ≥ i) || (decide (n.d ≠ IntKind.i64.wrap (m.d + 1)) || (decide (n.d > dep) || (decide (befI q n ≥ 0) || !ascB n.ex))))) &&
  (if spec n then spec m && onlyB n.ex else !decide (anyP ∈ n.ex))
set_option maxRecDepth 100000 in
set_option maxHeartbeats 2000000 in
theorem fits_zero_q (w : World) (v : Value) (l : List Nt) (h : TQ w v l) (hl : 0 < l.length) (hn : l.length ≤ 100000) (dep : Int) :
    Calls Try.prog 35 #[v, .int .i64 0, .int .i64 dep] w fun e w' => e = .returned (.bool (fit0 l[0].n)) ∧ Below w.heap.size w w' := by
  obtain ⟨ad, c, rfl, hc0⟩ := h.rd.form
  obtain ⟨-, hcell⟩ := h.cells
  obtain ⟨b, o, rfl, hbl, x0, x1, x2, x3⟩ := hcell w (Below.refl _ _) 0 hl
  have hat := h.at_ l[0] (List.getElem_mem hl)
  obtain ⟨x, hx⟩ : ∃ x, x = l[0] := ⟨_, rfl⟩
  rw [← hx] at x0 x1 x2 x3 hat ⊢
  obtain ⟨R, hR⟩ : ∃ R, R = fit0 x.n := ⟨_, rfl⟩
  rw [← hR]
  have hsp := fun W => special_any x W
  have hon := fun W (hb : Below w.heap.size w W) => only_q W x.u.val x.n.ex (hat.1.below hb)
  unfold nodV at hsp
  have HO := Bx.mk hon
  unfold fit0 at hR
  have HR := Bx.mk hR
  obtain ⟨SP, hSP⟩ : ∃ s, s = spec x.n := ⟨_, rfl⟩
  obtain ⟨ON, hON⟩ : ∃ s, s = onlyB x.n.ex := ⟨_, rfl⟩
  rw [← hSP, ← hON] at HR
  rw [← hSP] at hsp
  rw [← hON] at HO
  simp only [Sl.val] at HO x3 hsp ⊢
  generalize x.u.ad = UA at *
  generalize x.u.n = UN at *
  generalize x.u.c = UC at *
  generalize bstr x.n.pol = S at *
  generalize x.n.d = D at *
  generalize x.n.p = PA at *
  simp only [Nat.zero_mul, Nat.add_zero] at x0 x1 x2 x3
  have hlz : (0 : Int) < (l.length : Int) := by omega
  clear h hcell hat hR hc0 hon hSP hON hx
  generalize l.length = N at *
  obtain ⟨W0, hW0⟩ : ∃ W0, W0 = w.alloc (.cells #[.int .i64 D, .int .i64 PA, .string S, .slice UA UN UC] 56) := ⟨_, rfl⟩
  have HB0 := Bx.mk (show Below w.heap.size w W0 by rw [hW0]; exact (Below.refl _ _).alloc (Nat.le_refl _) _)
  have HC0 := Bx.mk (show ∀ W, Below W0.heap.size W0 W → W.cell? ⟨w.heap.size, 0, none⟩ = some (.int .i64 D) ∧ W.cell? ⟨w.heap.size, 1, none⟩ = some (.int .i64 PA) ∧ W.cell? ⟨w.heap.size, 2, none⟩ = some (.string S) ∧ W.cell? ⟨w.heap.size, 3, none⟩ = some (.slice UA UN UC) by
    subst hW0
    intro W hW
    refine ⟨?_, ?_, ?_, ?_⟩ <;> (rw [hW.cell (by simp), World.cell?_alloc_at _ _ _ _ rfl]; rfl))
  have HS := Bx.mk hsp
  have fin : ∀ W, Below W0.heap.size W0 W → Below w.heap.size w W := fun W hW => HB0.out.trans (hW.mono HB0.out.size)
  have FIN := Bx.mk fin
  clear hsp fin
  obtain ⟨y0, y1, y2, y3⟩ := HC0.out W0 (Below.refl _ _)
  cases td : (D == 0) with
  | false =>
    have hr : R = false := by rw [HR.out]; simp only [Bool.and_eq_false_iff, decide_eq_false_iff_not]; exact Or.inl (by simpa using td)
    have HRR := Bx.mk hr
    clear hr
    go_enter Try.func35, Try.ntmps35
    go_upto_if 13 with fail
    rw [← hW0]
    clear hW0
    go_wp2_with fail
    go_ret
    exact ⟨by rw [HRR.out]; rfl, HB0.out⟩
  | true =>
  cases tp : (PA == -1) with
  | false =>
    have hr : R = false := by rw [HR.out]; simp only [Bool.and_eq_false_iff, decide_eq_false_iff_not]; exact Or.inr (Or.inl (by simpa using tp))
    have HRR := Bx.mk hr
    clear hr
    go_enter Try.func35, Try.ntmps35
    go_upto_if 13 with fail
    rw [← hW0]
    clear hW0
    go_wp2_with fail
    go_ret
    exact ⟨by rw [HRR.out]; rfl, HB0.out⟩
  | true =>
  have hr : R = (SP && ON) := by rw [HR.out, decide_eq_true (by simpa using td), decide_eq_true (by simpa using tp)]; rfl
  have HRR := Bx.mk hr
  clear hr
  go_enter Try.func35, Try.ntmps35
  go_upto_if 13 with fail
  rw [← hW0]
  clear hW0
  go_wp2_with fail
  go_at_call 51
  refine (HS.out _).mono ?_
  rintro e w1 ⟨rfl, hb1⟩
  obtain ⟨z0, z1, z2, z3⟩ := HC0.out w1 hb1
  have HF1 := Bx.mk (FIN.out w1 hb1)
  clear y0 y1 y2 y3 hb1
  cases SP with
  | false =>
    go_wp2_with fail
    go_ret
    exact ⟨by rw [HRR.out]; rfl, HF1.out⟩
  | true =>
    go_wp2_with fail
    go_at_call 59
    refine (HO.out _ HF1.out).mono ?_
    rintro e w2 ⟨rfl, rfl⟩
    go_wp2_with fail
    go_ret
    exact ⟨by rw [HRR.out]; rfl, HF1.out⟩
theorem fits_zero (w : World) (v : Value) (l : List Nt) (h : TL w v l) (hl : 0 < l.length) (hn : l.length ≤ 100000) (dep : Int) :
    Calls Try.prog 35 #[v, .int .i64 0, .int .i64 dep] w fun e w' => e = .returned (.bool (fit0 l[0].n)) ∧ Below w.heap.size w w' := fits_zero_q w v l h.tq hl hn dep
end Go.Proofs.Ytmagjdocondmhaa.Tr

namespace Go.Proofs.Ytmagjdocondmhaa.Tr
open Go Go.RowKit Go.Proofs.Ytmagjdocondmhaa.Slc Go.Proofs.Ytmagjdocondmhaa.St
set_option linter.unusedVariables false
set_option linter.unusedSimpArgs false
attribute [local go_sem] Oper.semAt_some

theorem below_grow (w : World) (q : Nat) (os : Array Obj) : Below w.heap.size w (Go.Sort.grow (w.drewN q) os) :=
  ⟨rfl, rfl, rfl, by rw [Go.Sort.size_grow]; exact Nat.le_add_right _ _, fun k hk => by
    show (w.heap ++ os)[k]? = _
    rw [Array.getElem?_append_left hk]⟩
theorem before_bel (x y : Nt) (w : World) : Calls Try.prog 60 #[nodV x, nodV y] w fun e w' => e = .returned (.int .i64 (befI x.n y.n)) ∧ Below w.heap.size w w' :=
  (before_any x y w).mono fun e w' ⟨he, q, os, hq⟩ => ⟨he, by rw [hq]; exact below_grow w q os⟩
def badB (q n m : Nd) (i : Nat) (dep : Int) : Bool :=
  decide (n.p < 0) || (decide (n.p ≥ (i : Int)) || ((n.d != IntKind.i64.wrap (m.d + 1)) || (decide (n.d > dep) || (decide (befI q n ≥ 0) || !ascB n.ex))))
set_option maxRecDepth 100000 in
set_option maxHeartbeats 2000000 in
theorem fits_pos_q (w : World) (v : Value) (l : List Nt) (h : TQ w v l) (i : Nat) (hi0 : 0 < i) (hi : i < l.length) (hn : l.length ≤ 100000) (dep : Int) (x q m : Nt) (hx : l[i] = x) (hq : l[i - 1] = q) (hm : ∀ (h1 : 0 ≤ x.n.p) (h2 : x.n.p < i), l[x.n.p.toNat]'(by omega) = m) :
    Calls Try.prog 35 #[v, .int .i64 (i : Nat), .int .i64 dep] w fun e w' => e = .returned (.bool (!(badB q.n x.n m.n i dep) && (if spec x.n then spec m.n && onlyB x.n.ex else !decide (anyP ∈ x.n.ex)))) ∧ Below w.heap.size w w' := by
  obtain ⟨ad, c, rfl, hc0⟩ := h.rd.form
  obtain ⟨-, hcell⟩ := h.cells
  obtain ⟨b, o, rfl, hbl, x0, x1, x2, x3⟩ := hcell w (Below.refl _ _) i hi
  have hat := h.at_ l[i] (List.getElem_mem hi)
  obtain ⟨j, hj⟩ : ∃ j, j = i - 1 := ⟨_, rfl⟩
  have hcl : ∀ (W : World) (_ : Below w.heap.size w W) (k : Nat) (hk : k < l.length), W.cell? ⟨b, o + k * 4, none⟩ = some (.int .i64 (l[k]).n.d) ∧ W.cell? ⟨b, o + k * 4 + 1, none⟩ = some (.int .i64 (l[k]).n.p) ∧ W.cell? ⟨b, o + k * 4 + 2, none⟩ = some (.string (bstr (l[k]).n.pol)) ∧ W.cell? ⟨b, o + k * 4 + 3, none⟩ = some (l[k]).u.val := by
    intro W hW k hk
    obtain ⟨b', o', hbo, -, hy⟩ := hcell W hW k hk
    simp only [Option.some.injEq, Addr.mk.injEq, and_true] at hbo
    obtain ⟨rfl, rfl⟩ := hbo
    exact hy
  rw [hx] at x0 x1 x2 x3 hat
  obtain ⟨R, hR⟩ : ∃ R, R = (!(badB q.n x.n m.n i dep) && (if spec x.n then spec m.n && onlyB x.n.ex else !decide (anyP ∈ x.n.ex))) := ⟨_, rfl⟩
  rw [← hR]
  obtain ⟨BAD, hBAD⟩ : ∃ R, R = badB q.n x.n m.n i dep := ⟨_, rfl⟩
  rw [← hBAD] at hR
  obtain ⟨W0, hW0⟩ : ∃ W0, W0 = w.alloc (.cells #[.int .i64 x.n.d, .int .i64 x.n.p, .string (bstr x.n.pol), .slice x.u.ad x.u.n x.u.c] 56) := ⟨_, rfl⟩
  have hb0 : Below w.heap.size w W0 := by rw [hW0]; exact (Below.refl _ _).alloc (Nat.le_refl _) _
  have HCL := Bx.mk (fun (W : World) (hW : Below W0.heap.size W0 W) => hcl W (hb0.trans (hW.mono hb0.size)))
  have HC0 := Bx.mk (show ∀ W, Below W0.heap.size W0 W → W.cell? ⟨w.heap.size, 0, none⟩ = some (.int .i64 x.n.d) ∧ W.cell? ⟨w.heap.size, 1, none⟩ = some (.int .i64 x.n.p) ∧ W.cell? ⟨w.heap.size, 2, none⟩ = some (.string (bstr x.n.pol)) ∧ W.cell? ⟨w.heap.size, 3, none⟩ = some (.slice x.u.ad x.u.n x.u.c) by
    subst hW0
    intro W hW
    refine ⟨?_, ?_, ?_, ?_⟩ <;> (rw [hW.cell (by simp), World.cell?_alloc_at _ _ _ _ rfl]; rfl))
  have FIN := Bx.mk (show ∀ W, Below W0.heap.size W0 W → Below w.heap.size w W from fun W hW => hb0.trans (hW.mono hb0.size))
  have hasc := fun (e : Ext W0) => ascending_q e.out x.u.val x.n.ex (hat.1.below (FIN.out e.out e.bel)) (by have := hat.2.1.1; omega)
  have hbf := fun (e : Ext W0) => before_bel q x e.out
  have HAT := Bx.mk hat
  have HR := Bx.mk hR
  have HBD := Bx.mk hBAD
  have HX := Bx.mk (And.intro hx (And.intro hq hm))
  have hjn : j < l.length := by omega
  have hji : i = j + 1 := by omega
  have q0 := fun (e : Ext W0) => (HCL.out e.out e.bel j hjn).1
  have q1 := fun (e : Ext W0) => (HCL.out e.out e.bel j hjn).2.1
  have q2 := fun (e : Ext W0) => (HCL.out e.out e.bel j hjn).2.2.1
  have q3 := fun (e : Ext W0) => (HCL.out e.out e.bel j hjn).2.2.2
  have hlj : l[j] = q := by rw [← hq]; congr 1
  rw [hlj] at q0 q1 q2 q3
  unfold badB at hBAD
  unfold nodV at hbf
  simp only [Sl.val] at q3 hbf x3 hasc
  have n0 := fun (e : Ext W0) => (HC0.out e.out e.bel).1
  have n1 := fun (e : Ext W0) => (HC0.out e.out e.bel).2.1
  have n2 := fun (e : Ext W0) => (HC0.out e.out e.bel).2.2.1
  have n3 := fun (e : Ext W0) => (HC0.out e.out e.bel).2.2.2
  have wj : IntKind.i64.wrap ((i : Int) - 1) = (j : Int) := by rw [IntWalk.i64_in _ (by omega)]; omega
  have ti : ((i : Int) == 0) = false := by simp; omega
  have ti' : ¬ (i = 0) := by omega
  clear hcell hcl hb0 hx hq hat hR h hc0 hlj
  obtain ⟨N, hN⟩ : ∃ N, N = l.length := ⟨_, rfl⟩
  rw [← hN] at hi hjn hn ⊢
  have HN := Bx.mk hN
  clear hN
  have HJ := Bx.mk hji
  clear hji hj
  go_enter Try.func35, Try.ntmps35
  go_upto_region 4 with fail
  rw [← hW0]
  clear hW0 x0 x1 x2 x3
  go_cut [73] (fun c wx => c = .bool BAD ∧ Below W0.heap.size W0 wx)
  case first =>
    cases tA : decide (x.n.p < 0) with
    | true =>
    have HBAD := Bx.mk (show BAD = true by rw [HBD.out]; unfold badB; rw [tA]; rfl)
    refine wp_region_self (by kernel_rfl) (by kernel_rfl) ?_
    repeat (go_big_quiet_step (fail))
    refine wpQuiet_nil ?_
    rintro _ ⟨e1, rfl⟩
    go_wp2_with fail
    go_meet
    exact ⟨by rw [HBAD.out], e1.bel⟩
    | false =>
    cases tB : decide (x.n.p ≥ (i : Int)) with
    | true =>
    have HBAD := Bx.mk (show BAD = true by rw [HBD.out]; unfold badB; rw [tA, tB]; rfl)
    refine wp_region_self (by kernel_rfl) (by kernel_rfl) ?_
    repeat (go_big_quiet_step (fail))
    refine wpQuiet_nil ?_
    rintro _ ⟨e1, rfl⟩
    go_wp2_with fail
    go_meet
    exact ⟨by rw [HBAD.out], e1.bel⟩
    | false =>
    have HAB := Bx.mk (And.intro tA tB)
    have hp0 : 0 ≤ x.n.p := by have := of_decide_eq_false tA; omega
    have hpi : x.n.p < i := by have := of_decide_eq_false tB; omega
    obtain ⟨pp, hpp⟩ : ∃ pp : Nat, x.n.p = (pp : Int) := ⟨x.n.p.toNat, by omega⟩
    have hppi : pp < i := by omega
    have hppn : pp < N := by omega
    have hmx : l[pp]'(by rw [← HN.out]; exact hppn) = m := by
      have := HX.out.2.2 hp0 hpi
      rw [← this]; congr 1; omega
    have m0 := fun (e : Ext W0) => (HCL.out e.out e.bel pp (by rw [← HN.out]; exact hppn)).1
    rw [hmx] at m0
    simp only [hpp] at n1 tA tB hbf
    have HPP := Bx.mk hpp
    clear hpp hp0 hpi hmx
    have HBD' := HBD.out
    unfold badB at HBD'
    have w0 : decide ((pp : Int) < 0) = false := decide_eq_false (by omega)
    have w1 : decide ((i : Int) ≤ (pp : Int)) = false := decide_eq_false (by omega)
    have w2 : decide (i ≤ pp) = false := decide_eq_false (by omega)
    have w3 : decide ((pp : Int) ≥ (i : Int)) = false := decide_eq_false (by omega)
    have w4 : decide (pp < i) = true := decide_eq_true hppi
    clear tA tB
    obtain ⟨MD, hMD⟩ : ∃ z, z = IntKind.i64.wrap (m.n.d + 1) := ⟨_, rfl⟩
    have hmd : IntKind.i64.wrap (m.n.d + 1) = MD := hMD.symm
    rw [hmd] at HBD'
    clear hMD
    have HBX := Bx.mk HBD'
    clear HBD'
    cases tC : (x.n.d == MD) with
    | false =>
    have tC1 : (x.n.d != MD) = true := by rw [bne, tC]; rfl
    have tC2 : ¬ (x.n.d = MD) := by simpa using tC
    have tC3 : decide (x.n.d = MD) = false := decide_eq_false tC2
    have HBAD := Bx.mk (show BAD = true by rw [HBX.out]; rw [HAB.out.1, HAB.out.2, tC1]; rfl)
    refine wp_region_self (by kernel_rfl) (by kernel_rfl) ?_
    repeat (go_big_quiet_step (fail))
    refine wpQuiet_nil ?_
    rintro _ ⟨e1, rfl⟩
    go_wp2_with fail
    go_meet
    exact ⟨by rw [HBAD.out], e1.bel⟩
    | true =>
    have tC1 : (x.n.d != MD) = false := by rw [bne, tC]; rfl
    have tC2 : x.n.d = MD := by simpa using tC
    have tC3 : decide (x.n.d = MD) = true := decide_eq_true tC2
    clear tC2
    cases tD : decide (x.n.d > dep) with
    | true =>
    have HBAD := Bx.mk (show BAD = true by rw [HBX.out]; rw [HAB.out.1, HAB.out.2, tC1, tD]; rfl)
    refine wp_region_self (by kernel_rfl) (by kernel_rfl) ?_
    repeat (go_big_quiet_step (fail))
    refine wpQuiet_nil ?_
    rintro _ ⟨e1, rfl⟩
    go_wp2_with fail
    go_meet
    exact ⟨by rw [HBAD.out], e1.bel⟩
    | false =>
    cases tE : decide (befI q.n x.n ≥ 0) with
    | true =>
    have HBAD := Bx.mk (show BAD = true by rw [HBX.out]; rw [HAB.out.1, HAB.out.2, tC1, tD, tE]; rfl)
    refine wp_region_self (by kernel_rfl) (by kernel_rfl) ?_
    repeat (go_big_quiet_step (first | (go_at_call 60; exact ext_of (hbf _)) | (go_at_call 61; exact ext_of (hasc _))))
    refine wpQuiet_nil ?_
    rintro _ ⟨e1, rfl⟩
    go_wp2_with fail
    go_meet
    exact ⟨by rw [HBAD.out], e1.bel⟩
    | false =>
    cases tF : ascB x.n.ex with
    | true =>
    have HBAD := Bx.mk (show BAD = false by rw [HBX.out]; rw [HAB.out.1, HAB.out.2, tC1, tD, tE, tF]; rfl)
    refine wp_region_self (by kernel_rfl) (by kernel_rfl) ?_
    repeat (go_big_quiet_step (first | (go_at_call 60; exact ext_of (hbf _)) | (go_at_call 61; exact ext_of (hasc _))))
    refine wpQuiet_nil ?_
    rintro _ ⟨e1, rfl⟩
    go_wp2_with fail
    go_meet
    exact ⟨by rw [HBAD.out], e1.bel⟩
    | false =>
    have HBAD := Bx.mk (show BAD = true by rw [HBX.out]; rw [HAB.out.1, HAB.out.2, tC1, tD, tE, tF]; rfl)
    refine wp_region_self (by kernel_rfl) (by kernel_rfl) ?_
    repeat (go_big_quiet_step (first | (go_at_call 60; exact ext_of (hbf _)) | (go_at_call 61; exact ext_of (hasc _))))
    refine wpQuiet_nil ?_
    rintro _ ⟨e1, rfl⟩
    go_wp2_with fail
    go_meet
    exact ⟨by rw [HBAD.out], e1.bel⟩
  case rest =>
  obtain ⟨rfl, hbW⟩ := hcut
  clear q0 q1 q2 q3 n0 n1 n2 n3 hbf hasc hBAD
  cases BAD with
  | true =>
    have HF := Bx.mk (FIN.out wc hbW)
    have hr : R = false := by rw [HR.out]; rfl
    have HRR := Bx.mk hr
    clear hbW hr
    go_wp2_with fail
    go_ret
    exact ⟨by rw [HRR.out]; rfl, HF.out⟩
  | false =>
  obtain ⟨n0, n1, n2, n3⟩ := HC0.out wc hbW
  have hrng : 0 ≤ x.n.p ∧ x.n.p < i := by
    have hb := HBD.out
    unfold badB at hb
    simp only [Bool.false_eq, Bool.or_eq_false_iff, decide_eq_false_iff_not] at hb
    omega
  obtain ⟨pp, hpp⟩ : ∃ pp : Nat, x.n.p = (pp : Int) := ⟨x.n.p.toNat, by omega⟩
  have hppn : pp < N := by omega
  have hmx : l[pp]'(by rw [← HN.out]; exact hppn) = m := by
    have := HX.out.2.2 hrng.1 hrng.2
    rw [← this]; congr 1; omega
  have HPL := Bx.mk (show ∀ W, Below W0.heap.size W0 W → _ from fun W hW => HCL.out W hW pp (by rw [← HN.out]; exact hppn))
  rw [hmx] at HPL
  have HBW := Bx.mk hbW
  have hsp := special_any x wc
  have HPP := Bx.mk hpp
  clear hrng hpp hmx hbW
  unfold nodV at hsp
  simp only [Sl.val] at hsp
  go_wp2_with fail
  go_at_call 51
  refine hsp.mono ?_
  rintro e w1 ⟨rfl, hb1⟩
  have hbW1 := HBW.out.trans (hb1.mono HBW.out.size)
  obtain ⟨z0, z1, z2, z3⟩ := HC0.out w1 hbW1
  obtain ⟨p0, p1, p2, p3⟩ := HPL.out w1 hbW1
  rw [HPP.out] at z1
  have HBW1 := Bx.mk hbW1
  clear hsp hb1 hbW1 n0 n1 n2 n3
  cases hS : spec x.n with
  | true =>
    have hsm := special_any m w1
    unfold nodV at hsm
    simp only [Sl.val] at hsm p3
    have HRR := Bx.mk (show R = (spec m.n && onlyB x.n.ex) by rw [HR.out, hS]; simp)
    clear hS
    go_wp2_with fail
    go_at_call 51
    refine hsm.mono ?_
    rintro e w2 ⟨rfl, hb2⟩
    have hbW2 := HBW1.out.trans (hb2.mono HBW1.out.size)
    obtain ⟨y0, y1, y2, y3⟩ := HC0.out w2 hbW2
    have HF2 := Bx.mk (FIN.out w2 hbW2)
    clear hsm hb2 hbW2 z0 z1 z2 z3 p0 p1 p2 p3
    cases hM : spec m.n with
    | false =>
      have HR2 := Bx.mk (show R = false by rw [HRR.out, hM]; rfl)
      clear hM
      go_wp2_with fail
      go_ret
      exact ⟨by rw [HR2.out]; rfl, HF2.out⟩
    | true =>
      have HR2 := Bx.mk (show R = onlyB x.n.ex by rw [HRR.out, hM]; rfl)
      have hon := only_q w2 x.u.val x.n.ex (HAT.out.1.below HF2.out)
      simp only [Sl.val] at hon
      clear hM
      go_wp2_with fail
      go_at_call 59
      refine hon.mono ?_
      rintro e w3 ⟨rfl, rfl⟩
      clear hon
      go_wp2_with fail
      go_ret
      exact ⟨by rw [HR2.out]; rfl, HF2.out⟩
  | false =>
    have HRR := Bx.mk (show R = !decide (anyP ∈ x.n.ex) by rw [HR.out, hS]; simp)
    have hcn := contains_q w1 x.u.val x.n.ex anyP (HAT.out.1.below (FIN.out w1 HBW1.out)) (by have := HAT.out.2.1.1; omega)
    have HF1 := Bx.mk (FIN.out w1 HBW1.out)
    rw [anyP_str] at hcn
    simp only [Sl.val] at hcn
    clear hS p0 p1 p2 p3
    go_wp2_with fail
    go_at_call 39
    refine hcn.mono ?_
    rintro e w2 ⟨rfl, rfl⟩
    clear hcn
    go_wp2_with fail
    go_ret
    exact ⟨by rw [HRR.out]; rfl, HF1.out⟩
theorem fits_pos (w : World) (v : Value) (l : List Nt) (h : TL w v l) (i : Nat) (hi0 : 0 < i) (hi : i < l.length) (hn : l.length ≤ 100000) (dep : Int) (x q m : Nt) (hx : l[i] = x) (hq : l[i - 1] = q) (hm : ∀ (h1 : 0 ≤ x.n.p) (h2 : x.n.p < i), l[x.n.p.toNat]'(by omega) = m) :
    Calls Try.prog 35 #[v, .int .i64 (i : Nat), .int .i64 dep] w fun e w' => e = .returned (.bool (!(badB q.n x.n m.n i dep) && (if spec x.n then spec m.n && onlyB x.n.ex else !decide (anyP ∈ x.n.ex)))) ∧ Below w.heap.size w w' := fits_pos_q w v l h.tq i hi0 hi hn dep x q m hx hq hm
end Go.Proofs.Ytmagjdocondmhaa.Tr

namespace Go.Proofs.Ytmagjdocondmhaa.Tr
open Go Go.RowKit Go.Proofs.Ytmagjdocondmhaa.Slc Go.Proofs.Ytmagjdocondmhaa.St
set_option linter.unusedVariables false
set_option linter.unusedSimpArgs false

instance : Inhabited Nd := ⟨⟨0, 0, [], []⟩⟩
def fitB (l : List Nd) (i : Nat) (dep : Int) : Bool :=
  if i = 0 then fit0 l[0]! else
    !(badB l[i - 1]! l[i]! (l[(l[i]!).p.toNat]!) i dep) && (if spec l[i]! then spec (l[(l[i]!).p.toNat]!) && onlyB (l[i]!).ex else !decide (anyP ∈ (l[i]!).ex))
/-- valid with a depth -/
def validB (l : List Nd) (dep : Int) : Bool :=
  !(decide (dep < 0) || decide (l.length > 2048)) && ((List.range l.length).all (fun i => fitB l i dep) &&
    (List.range l.length).all (fun i => !(decide ((l[i]!).d < dep)) || l.any (fun n => decide (n.p = (i : Int)))))
theorem nds_at (l : List Nt) (i : Nat) (h : i < l.length) : (nds l)[i]! = (l[i]).n := by
  rw [getElem!_pos (nds l) i (by simpa [nds] using h)]; simp [nds]
theorem fits_q (w : World) (v : Value) (l : List Nt) (h : TQ w v l) (i : Nat) (hi : i < l.length) (hn : l.length ≤ 100000) (dep : Int) :
    Calls Try.prog 35 #[v, .int .i64 (i : Nat), .int .i64 dep] w fun e w' => e = .returned (.bool (fitB (nds l) i dep)) ∧ Below w.heap.size w w' := by
  rcases Nat.eq_zero_or_pos i with h0 | h0
  · subst h0
    have := fits_zero_q w v l h hi hn dep
    unfold fitB
    rw [if_pos rfl, nds_at l 0 hi]
    exact this
  · unfold fitB
    rw [if_neg (by omega), nds_at l i hi, nds_at l (i - 1) (by omega)]
    by_cases hp : (l[i]).n.p.toNat < l.length
    · have := fits_pos_q w v l h i h0 hi hn dep _ _ (l[(l[i]).n.p.toNat]'hp) rfl rfl (fun h1 h2 => rfl)
      rw [nds_at l _ hp]
      exact this
    · have hd : (nds l)[(l[i]).n.p.toNat]! = (default : Nd) := by
        rw [getElem!_neg]; simpa [nds] using hp
      rw [hd]
      exact fits_pos_q w v l h i h0 hi hn dep _ _ ⟨default, ⟨none, 0, 0⟩⟩ rfl rfl (fun h1 h2 => absurd (show (l[i]).n.p.toNat < l.length by omega) hp)
theorem fits_any (w : World) (v : Value) (l : List Nt) (h : TL w v l) (i : Nat) (hi : i < l.length) (hn : l.length ≤ 100000) (dep : Int) :
    Calls Try.prog 35 #[v, .int .i64 (i : Nat), .int .i64 dep] w fun e w' => e = .returned (.bool (fitB (nds l) i dep)) ∧ Below w.heap.size w w' := fits_q w v l h.tq i hi hn dep
end Go.Proofs.Ytmagjdocondmhaa.Tr
