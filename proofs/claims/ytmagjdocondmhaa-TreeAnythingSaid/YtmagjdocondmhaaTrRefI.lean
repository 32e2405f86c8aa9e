/-
  The reference's small functions: ascending, alone, Same, specialAt, child.
-/
/-
  The reference's keepNodes and pruneTree.
-/
/-
  The reference's Set.
-/
/-
  The reference's insert.
-/
import Derived.Test.YtmagjdocondmhaaTrPlain
import Derived.Test.YtmagjdocondmhaaTrGrown
import Derived.Test.YtmagjdocondmhaaTrPolW
import Derived.Test.YtmagjdocondmhaaTrIn
import Derived.Deep.CutBlock
import Derived.Deep.DeepCutAuto
import Derived.Deep.QuietTactic
namespace Go.Proofs.Ytmagjdocondmhaa.Tr
open Go Go.RowKit Go.Proofs.Ytmagjdocondmhaa.Slc Go.Proofs.Ytmagjdocondmhaa.St
set_option linter.unusedVariables false
set_option linter.unusedSimpArgs false
attribute [local go_sem] Oper.semAt_some

set_option maxHeartbeats 1000000 in
theorem rasc_q (w : World) (v : Value) (l : List B) (h : Rq w v l) (hn : l.length ≤ 1000000) : Calls Try.prog 37 #[v] w fun e w' => e = .returned (.bool (ascB l)) ∧ Below w.heap.size w w' := by
  obtain ⟨ad, c, rfl, hc0⟩ := h.form
  obtain ⟨-, hcell⟩ := strs_cells_q h
  have HC := Bx.mk hcell
  obtain ⟨R, hR⟩ : ∃ R, R = ascB l := ⟨_, rfl⟩
  rw [← hR]
  have HR := Bx.mk hR
  obtain ⟨N, hN⟩ : ∃ N, N = l.length := ⟨_, rfl⟩
  have HN := Bx.mk hN
  have hNb : N ≤ 1000000 := by omega
  rw [← hN]
  clear hcell hR hN h hc0 hn
  go_enter Try.func37, Try.ntmps37
  go_wp2
  go_loopw [3] (fun iv wr => ∃ i : Nat, iv = .int .i64 (i : Nat) ∧ 1 ≤ i ∧ i ≤ N + 1 ∧ Bx (∀ k (hk : k + 1 < l.length), k + 1 < i → l[k] < l[k + 1]) ∧ Below w.heap.size w wr) (fun iv _ => N + 1 - (intOf iv).toNat)
  case atStart => exact ⟨1, rfl, by omega, by omega, ⟨fun k hk h => by omega⟩, Below.refl _ _⟩
  case round =>
    obtain ⟨i, rfl, h1, h2, hB, hbel⟩ := hrel
    by_cases hlt : i < N
    · obtain ⟨j, rfl⟩ : ∃ j, i = j + 1 := ⟨i - 1, by omega⟩
      have hj1 : j + 1 < l.length := by rw [← HN.out]; exact hlt
      obtain ⟨b, o, rfl, hbl, hx⟩ := HC.out wr hbel j (by omega)
      obtain ⟨b', o', hbo, -, hy⟩ := HC.out wr hbel (j + 1) hj1
      simp only [Option.some.injEq, Addr.mk.injEq, and_true] at hbo
      obtain ⟨rfl, rfl⟩ := hbo
      have l1 := less_bytes l[j] l[j + 1]
      have l2 := less_bytes l[j + 1] l[j]
      have l3 := same_bytes l[j] l[j + 1]
      have HBEL := Bx.mk hbel
      have wj : IntKind.i64.wrap (((j + 1 : Nat) : Int) - 1) = (j : Int) := by rw [IntWalk.i64_in _ (by omega)]; omega
      have ej : ((j : Int) + 1).toNat = j + 1 := by omega
      by_cases hc : l[j] < l[j + 1]
      · rw [decide_eq_true hc] at l1
        rw [decide_eq_false (List.lt_asymm hc)] at l2
        have HX := Bx.mk (show ∀ k (hk : k + 1 < l.length), k + 1 < j + 1 + 1 → l[k] < l[k + 1] by
          intro k hk hkj
          rcases Nat.lt_or_ge (k + 1) (j + 1) with q | q
          · exact hB.out k hk q
          · obtain rfl : k = j := by omega
            exact hc)
        rw [decide_eq_false (fun e => by rw [e] at hc; exact List.lt_irrefl _ hc)] at l3
        generalize bstr l[j] = X at *
        generalize bstr l[j + 1] = Y at *
        clear hbel hc
        go_wp2_with fail
        go_quiet (fail)
        go_wp2_with fail
        go_roundw
        case rel => exact ⟨j + 2, by go_num, by omega, by omega, HX, below_drawn HBEL.out _⟩
        case measure => simp [intOf]; omega
      · rw [decide_eq_false hc] at l1
        have HF := Bx.mk (show R = false by rw [HR.out]; exact ascB_bad hj1 hc)
        by_cases h2 : l[j + 1] < l[j]
        · rw [decide_eq_true h2] at l2
          rw [decide_eq_false (fun e => hc (by rw [e] at h2; exact absurd h2 (List.lt_irrefl _)))] at l3
          generalize bstr l[j] = X at *
          generalize bstr l[j + 1] = Y at *
          clear hbel hc h2
          go_wp2_with fail
          go_quiet (fail)
          go_wp2_with fail
          go_ret
          exact ⟨by rw [HF.out]; rfl, below_drawn HBEL.out _⟩
        · rw [decide_eq_false h2] at l2
          rw [decide_eq_true (eqB hc h2)] at l3
          generalize bstr l[j] = X at *
          generalize bstr l[j + 1] = Y at *
          clear hbel hc h2
          go_wp2_with fail
          go_quiet (fail)
          go_wp2_with fail
          go_ret
          exact ⟨by rw [HF.out]; rfl, below_drawn HBEL.out _⟩
    · have HE := Bx.mk (show R = decide ((0 : Int) < (N : Nat)) by
        rw [HR.out, HN.out]
        exact ascB_good (fun k hk => hB.out k hk (by have := HN.out; omega)))
      have HBEL := Bx.mk hbel
      obtain ⟨Z, hZ⟩ : ∃ Z, Z = decide ((N : Int) > 0) := ⟨_, rfl⟩
      have HZ := Bx.mk hZ
      clear hbel
      rw [show decide ((0 : Int) < (N : Nat)) = decide ((N : Int) > 0) from rfl, ← hZ] at HE
      go_wp2_with fail
      go_ret
      exact ⟨by rw [HE.out, HZ.out]; first | rfl | simp, HBEL.out⟩
theorem rasc_any (w : World) (v : Value) (l : List B) (h : Rd w encS v l) (hn : l.length ≤ 1000000) : Calls Try.prog 37 #[v] w fun e w' => e = .returned (.bool (ascB l)) ∧ Below w.heap.size w w' := rasc_q w v l (.inr h) hn
theorem alone_any (w : World) : Calls Try.prog 36 #[] w fun e w' => ∃ v', e = .returned v' ∧ Slc.Own w' w.heap.size 9 1 encS v' [anyP] ∧ Below w.heap.size w w' := by
  have ho := own_alloc (Bk := w.heap.size) encS_ok w [anyP] #[.string ⟨#[50, 46, 53, 46, 50, 57, 46, 51, 50, 46, 48]⟩] rfl (Nat.le_refl _) (by unfold maxLen; simp) (e := 9)
  have HO := Bx.mk ho
  have HB := Bx.mk (show Below w.heap.size w (w.alloc (.cells #[.string ⟨#[50, 46, 53, 46, 50, 57, 46, 51, 50, 46, 48]⟩] 9)) from (Below.refl _ _).alloc (Nat.le_refl _) _)
  clear ho
  go_enter Try.func36, Try.ntmps36
  go_wp2_with fail
  go_ret
  exact ⟨_, rfl, HO.out, HB.out⟩
set_option maxHeartbeats 1000000 in
theorem rsame_q (w : World) (v1 v2 : Value) (l m : List B) (h1 : Rq w v1 l) (h2 : Rq w v2 m) (hn : l.length ≤ 1000000) : Calls Try.prog 28 #[v1, v2] w fun e w' => e = .returned (.bool (decide (l = m))) ∧ Below w.heap.size w w' := by
  obtain ⟨ad, c, rfl, -⟩ := h1.form
  obtain ⟨ad2, c2, rfl, -⟩ := h2.form
  have HC := Bx.mk (strs_cells_q h1).2
  have HC2 := Bx.mk (strs_cells_q h2).2
  obtain ⟨R, hR⟩ : ∃ R, R = decide (l = m) := ⟨_, rfl⟩
  rw [← hR]
  have HR := Bx.mk hR
  obtain ⟨N, hN⟩ : ∃ N, N = l.length := ⟨_, rfl⟩
  obtain ⟨M, hM⟩ : ∃ M, M = m.length := ⟨_, rfl⟩
  have HN := Bx.mk hN
  have HM := Bx.mk hM
  rw [← hN] at hn ⊢
  rw [← hM]
  clear hR hN hM h1 h2
  by_cases hNM : N = M
  · subst hNM
    go_enter Try.func28, Try.ntmps28
    go_wp2_with fail
    go_loopw [5] (fun iv wr => ∃ i : Nat, iv = .int .i64 (i : Nat) ∧ i ≤ N ∧ Bx (∀ k (hk : k < l.length) (hk2 : k < m.length), k < i → l[k] = m[k]) ∧ Below w.heap.size w wr) (fun iv _ => N - (intOf iv).toNat)
    case atStart => exact ⟨0, rfl, by omega, ⟨fun k hk hk2 h => by omega⟩, Below.refl _ _⟩
    case round =>
      obtain ⟨i, rfl, hi, hB, hbel⟩ := hrel
      by_cases hlt : i < N
      · have hil : i < l.length := by rw [← HN.out]; exact hlt
        have him : i < m.length := by rw [← HM.out]; exact hlt
        obtain ⟨b, o, rfl, hbl, hx⟩ := HC.out wr hbel i hil
        obtain ⟨b', o', rfl, hbl2, hy⟩ := HC2.out wr hbel i him
        have l3 := same_bytes l[i] m[i]
        have HBEL := Bx.mk hbel
        by_cases hc : l[i] = m[i]
        · rw [decide_eq_true hc] at l3
          have HX := Bx.mk (show ∀ k (hk : k < l.length) (hk2 : k < m.length), k < i + 1 → l[k] = m[k] by
            intro k hk hk2 hki
            rcases Nat.lt_or_ge k i with q | q
            · exact hB.out k hk hk2 q
            · obtain rfl : k = i := by omega
              exact hc)
          generalize bstr l[i] = X at *
          generalize bstr m[i] = Y at *
          clear hbel hc hbl hbl2
          go_wp2_with fail
          go_quiet (fail)
          go_wp2_with fail
          go_roundw
          case rel => exact ⟨i + 1, by go_num, by omega, HX, below_drawn HBEL.out _⟩
          case measure => simp [intOf]; omega
        · rw [decide_eq_false hc] at l3
          have HF := Bx.mk (show R = false by rw [HR.out]; exact decide_eq_false fun e => hc (by subst e; rfl))
          generalize bstr l[i] = X at *
          generalize bstr m[i] = Y at *
          clear hbel hc hbl hbl2
          go_wp2_with fail
          go_quiet (fail)
          go_wp2_with fail
          go_ret
          exact ⟨by rw [HF.out]; rfl, below_drawn HBEL.out _⟩
      · have HF := Bx.mk (show R = true by
          rw [HR.out]
          refine decide_eq_true (List.ext_getElem (HN.out.symm.trans HM.out) fun k h1 h2 => hB.out k h1 h2 (by have := HN.out; omega))) 
        have HBEL := Bx.mk hbel
        clear hbel
        go_wp2_with fail
        go_ret
        exact ⟨by rw [HF.out]; rfl, HBEL.out⟩
  · have t0 : ((N : Int) == (M : Int)) = false := by simp; omega
    have t1 : ((N : Int) != (M : Int)) = true := by simp; omega
    have HF := Bx.mk (show R = false by rw [HR.out]; exact decide_eq_false fun e => hNM (by rw [HN.out, HM.out, e]))
    go_enter Try.func28, Try.ntmps28
    go_wp2_with fail
    go_ret
    exact ⟨by rw [HF.out]; rfl, Below.refl _ _⟩
theorem rsame_any (w : World) (v1 v2 : Value) (l m : List B) (h1 : Rd w encS v1 l) (h2 : Rd w encS v2 m) (hn : l.length ≤ 1000000) : Calls Try.prog 28 #[v1, v2] w fun e w' => e = .returned (.bool (decide (l = m))) ∧ Below w.heap.size w w' := rsame_q w v1 v2 l m (.inr h1) (.inr h2) hn
/-- the cells of a slice of nodes, for a walk that reads them -/
theorem TL.at4 {w : World} {ad : Option Addr} {n c : Nat} {l : List Nt} (h : TL w (.slice ad n c) l) (W : World) (hW : Below w.heap.size w W) (k : Nat) (hk : k < l.length) : ∃ b o, ad = some ⟨b, o, none⟩ ∧ W.cell? ⟨b, o + k * 4, none⟩ = some (.int .i64 (nds l)[k]!.d) ∧ W.cell? ⟨b, o + k * 4 + 1, none⟩ = some (.int .i64 (nds l)[k]!.p) ∧ W.cell? ⟨b, o + k * 4 + 2, none⟩ = some (.string (bstr (nds l)[k]!.pol)) ∧ W.cell? ⟨b, o + k * 4 + 3, none⟩ = some (.slice (l[k]).u.ad (l[k]).u.n (l[k]).u.c) := by
  obtain ⟨b, o, e, -, h0, h1, h2, h3⟩ := h.cells.2 W hW k hk
  rw [nds_at l k hk]
  exact ⟨b, o, e, h0, h1, h2, h3⟩
theorem TQ.at4 {w : World} {ad : Option Addr} {n c : Nat} {l : List Nt} (h : TQ w (.slice ad n c) l) (W : World) (hW : Below w.heap.size w W) (k : Nat) (hk : k < l.length) : ∃ b o, ad = some ⟨b, o, none⟩ ∧ W.cell? ⟨b, o + k * 4, none⟩ = some (.int .i64 (nds l)[k]!.d) ∧ W.cell? ⟨b, o + k * 4 + 1, none⟩ = some (.int .i64 (nds l)[k]!.p) ∧ W.cell? ⟨b, o + k * 4 + 2, none⟩ = some (.string (bstr (nds l)[k]!.pol)) ∧ W.cell? ⟨b, o + k * 4 + 3, none⟩ = some (.slice (l[k]).u.ad (l[k]).u.n (l[k]).u.c) := by
  obtain ⟨b, o, e, -, h0, h1, h2, h3⟩ := h.cells.2 W hW k hk
  rw [nds_at l k hk]
  exact ⟨b, o, e, h0, h1, h2, h3⟩
set_option maxHeartbeats 1000000 in
theorem spat_any (w : World) (v : Value) (l : List Nt) (h : TL w v l) (hn : l.length ≤ 1000000) (D : Int) : Calls Try.prog 45 #[v, .int .i64 D] w fun e w' => e = .returned (.int .i64 (spAt (nds l) D)) ∧ w = w' := by
  obtain ⟨ad, c, rfl, -⟩ := h.rd.form
  have HC := Bx.mk (fun k hk => h.at4 w (Below.refl _ _) k hk)
  obtain ⟨R, hR⟩ : ∃ R, R = spAt (nds l) D := ⟨_, rfl⟩
  rw [← hR]
  have HR := Bx.mk hR
  obtain ⟨N, hN⟩ : ∃ N, N = l.length := ⟨_, rfl⟩
  have HN := Bx.mk hN
  rw [← hN] at hn ⊢
  clear h hR hN
  go_enter Try.func45, Try.ntmps45
  go_wp2_with fail
  go_loop [5] (fun iv => ∃ i : Nat, iv = .int .i64 (i : Nat) ∧ i ≤ N ∧ Bx (∀ j, j < i → (decide ((nds l)[j]!.d = D) && spec (nds l)[j]!) = false)) (fun iv => N - (intOf iv).toNat)
  case atStart => exact ⟨0, rfl, by omega, ⟨fun j hj => by omega⟩⟩
  case round =>
    obtain ⟨i, rfl, hi, hB⟩ := hrel
    by_cases hlt : i < N
    · have hil : i < l.length := by rw [← HN.out]; exact hlt
      obtain ⟨b, o, rfl, c0, c1, c2, c3⟩ := HC.out i hil
      have l3 := same_any (nds l)[i]!.pol
      have HY := Bx.mk (show spec (nds l)[i]! = decide ((nds l)[i]!.pol = anyP) from rfl)
      have HF := Bx.mk (show (decide ((nds l)[i]!.d = D) && spec (nds l)[i]!) = true → R = (i : Nat) from fun h => by
        rw [HR.out]; exact idxP_eq (by rw [nds_len]; exact hil) h hB.out)
      have HX := Bx.mk (show (decide ((nds l)[i]!.d = D) && spec (nds l)[i]!) = false → ∀ j, j < i + 1 → (decide ((nds l)[j]!.d = D) && spec (nds l)[j]!) = false from fun h j hj => by
        by_cases e : j = i
        · subst e; exact h
        · exact hB.out j (by omega))
      rw [HY.out] at HF HX
      generalize hdp : decide ((nds l)[i]!.pol = anyP) = DP at *
      generalize hdd : (nds l)[i]!.d = DD at *
      generalize bstr (nds l)[i]!.pol = X at *
      clear hdp hdd hil c1 c3 HY
      by_cases q : DD = D
      · have t0 : (DD == D) = true := by simpa using q
        have t1 : decide (DD = D) = true := decide_eq_true q
        rw [t1] at HF HX
        cases DP with
        | true =>
          have HFF := Bx.mk (HF.out rfl)
          clear q t1
          go_wp2_with fail
          go_ret
          exact ⟨by rw [HFF.out]; rfl, rfl⟩
        | false =>
          have HXX := Bx.mk (HX.out rfl)
          clear q t1
          go_wp2_with fail
          go_round
          case rel => exact ⟨i + 1, by go_num, by omega, HXX⟩
          case measure => simp [intOf]; omega
      · have t0 : (DD == D) = false := by simpa using q
        have t1 : decide (DD = D) = false := decide_eq_false q
        rw [t1] at HF HX
        have HXX := Bx.mk (HX.out rfl)
        clear q t1
        go_wp2_with fail
        go_round
        case rel => exact ⟨i + 1, by go_num, by omega, HXX⟩
        case measure => simp [intOf]; omega
    · have HFF := Bx.mk (show R = -1 by rw [HR.out]; exact idxP_no fun j hj => hB.out j (by rw [nds_len] at hj; have := HN.out; omega))
      go_wp2_with fail
      go_ret
      exact ⟨by rw [HFF.out]; rfl, rfl⟩
set_option maxHeartbeats 1000000 in
theorem child_any (w : World) (v : Value) (l : List Nt) (h : TL w v l) (hn : l.length ≤ 1000000) (D : Int) (p : B) : Calls Try.prog 46 #[v, .int .i64 D, .string (bstr p)] w fun e w' => e = .returned (.bool (kidB (nds l) D p)) ∧ w = w' := by
  obtain ⟨ad, c, rfl, -⟩ := h.rd.form
  have HC := Bx.mk (fun k hk => h.at4 w (Below.refl _ _) k hk)
  obtain ⟨R, hR⟩ : ∃ R, R = kidB (nds l) D p := ⟨_, rfl⟩
  rw [← hR]
  have HR := Bx.mk (show R = true ↔ ∃ i, i < (nds l).length ∧ (decide ((nds l)[i]!.p = D) && decide ((nds l)[i]!.pol = p)) = true by rw [hR]; unfold kidB; exact any_at)
  obtain ⟨N, hN⟩ : ∃ N, N = l.length := ⟨_, rfl⟩
  have HN := Bx.mk hN
  rw [← hN] at hn ⊢
  clear h hR hN
  have HS := Bx.mk (fun q : B => same_bytes q p)
  generalize hP : bstr p = P at *
  clear hP
  go_enter Try.func46, Try.ntmps46
  go_wp2_with fail
  go_loop [7] (fun iv => ∃ i : Nat, iv = .int .i64 (i : Nat) ∧ i ≤ N ∧ Bx (∀ j, j < i → (decide ((nds l)[j]!.p = D) && decide ((nds l)[j]!.pol = p)) = false)) (fun iv => N - (intOf iv).toNat)
  case atStart => exact ⟨0, rfl, by omega, ⟨fun j hj => by omega⟩⟩
  case round =>
    obtain ⟨i, rfl, hi, hB⟩ := hrel
    by_cases hlt : i < N
    · have hil : i < l.length := by rw [← HN.out]; exact hlt
      obtain ⟨b, o, rfl, c0, c1, c2, c3⟩ := HC.out i hil
      have l3 := HS.out (nds l)[i]!.pol
      have HF := Bx.mk (show (decide ((nds l)[i]!.p = D) && decide ((nds l)[i]!.pol = p)) = true → R = true from fun h => HR.out.2 ⟨i, by rw [nds_len]; exact hil, h⟩)
      have HX := Bx.mk (show (decide ((nds l)[i]!.p = D) && decide ((nds l)[i]!.pol = p)) = false → ∀ j, j < i + 1 → (decide ((nds l)[j]!.p = D) && decide ((nds l)[j]!.pol = p)) = false from fun h j hj => by
        by_cases e : j = i
        · subst e; exact h
        · exact hB.out j (by omega))
      generalize hdp : decide ((nds l)[i]!.pol = p) = DP at *
      generalize hdd : (nds l)[i]!.p = DD at *
      generalize bstr (nds l)[i]!.pol = X at *
      clear hdp hdd hil c0 c3
      by_cases q : DD = D
      · have t0 : (DD == D) = true := by simpa using q
        have t1 : decide (DD = D) = true := decide_eq_true q
        rw [t1] at HF HX
        cases DP with
        | true =>
          have HFF := Bx.mk (HF.out rfl)
          clear q t1
          go_wp2_with fail
          go_ret
          exact ⟨by rw [HFF.out]; rfl, rfl⟩
        | false =>
          have HXX := Bx.mk (HX.out rfl)
          clear q t1
          go_wp2_with fail
          go_round
          case rel => exact ⟨i + 1, by go_num, by omega, HXX⟩
          case measure => simp [intOf]; omega
      · have t0 : (DD == D) = false := by simpa using q
        have t1 : decide (DD = D) = false := decide_eq_false q
        rw [t1] at HF HX
        have HXX := Bx.mk (HX.out rfl)
        clear q t1
        go_wp2_with fail
        go_round
        case rel => exact ⟨i + 1, by go_num, by omega, HXX⟩
        case measure => simp [intOf]; omega
    · have HFF := Bx.mk (show R = false by
        cases hq : R with
        | false => rfl
        | true =>
          obtain ⟨j, hj, h2⟩ := HR.out.1 hq
          rw [hB.out j (by rw [nds_len] at hj; have := HN.out; omega)] at h2; cases h2)
      go_wp2_with fail
      go_ret
      exact ⟨by rw [HFF.out]; rfl, rfl⟩
end Go.Proofs.Ytmagjdocondmhaa.Tr

namespace Go.Proofs.Ytmagjdocondmhaa.Tr
open Go Go.RowKit Go.Proofs.Ytmagjdocondmhaa.Slc Go.Proofs.Ytmagjdocondmhaa.St Go.Proofs.Ytmagjdocondmhaa.Mp Go.Proofs.Ytmagjdocondmhaa.Rg
set_option linter.unusedVariables false
set_option linter.unusedSimpArgs false
attribute [local go_sem] Oper.semAt_some

/-- a block of numbers -/
def MI (w : World) (b : Nat) (m : List Int) : Prop := w.heap[b]? = some (.cells (m.map (Value.int .i64)).toArray 3 (0, 0))
theorem MI.cell {w : World} {b : Nat} {m : List Int} (h : MI w b m) (i : Nat) (hi : i < m.length) : w.cell? ⟨b, i, none⟩ = some (.int .i64 m[i]!) := by
  have := cell_of_row _ _ i _ _ _ h
  rw [this, getElem!_pos m i hi]
  simp [hi]
theorem MI.set {w : World} {b : Nat} {m : List Int} (h : MI w b m) (i : Nat) (x : Int) : MI (w.setCell ⟨b, i, none⟩ (.int .i64 x)) b (m.set i x) := by
  have := row_set h (i := i) (.int .i64 x)
  unfold MI
  rw [this, List.map_set]
  simp
theorem MI.other {w : World} {b p i : Nat} {m : List Int} (h : MI w b m) (hne : b ≠ p) (v : Value) : MI (w.setCell ⟨p, i, none⟩ v) b m := row_other h hne v
theorem made_ints (n : Nat) : madeCells (Value.int .i64 0).cells (n * 1) = ((List.replicate n (0 : Int)).map (Value.int .i64)).toArray := by
  have := toList_madeCells_one (.int .i64 0) n
  have e : (Value.int .i64 0).cells = #[.int .i64 0] := rfl
  rw [e, Nat.mul_one, List.map_replicate, ← this]
theorem ite_cg {a b : Prop} [Decidable a] [Decidable b] {x y : Int} (h : a ↔ b) : (if a then x else y) = if b then x else y := by
  by_cases q : a
  · rw [if_pos q, if_pos (h.1 q)]
  · rw [if_neg q, if_neg fun e => q (h.2 e)]
/-- the places of the marked nodes -/
def plI (m : List Bool) (N k : Nat) : List Int := (List.range N).map fun j => if j < k ∧ m[j]! = true then ((rk m j : Nat) : Int) else 0
theorem plI_length (m : List Bool) (N k : Nat) : (plI m N k).length = N := by simp [plI]
theorem plI_zero (m : List Bool) (N : Nat) : plI m N 0 = List.replicate N 0 := by
  unfold plI
  apply List.ext_getElem
  · simp
  · intro i h1 h2; simp
theorem plI_at (m : List Bool) (N k j : Nat) (hj : j < N) : (plI m N k)[j]! = if j < k ∧ m[j]! = true then ((rk m j : Nat) : Int) else 0 := by
  unfold plI
  rw [getElem!_pos _ j (by simpa using hj)]
  simp
theorem plI_skip {m : List Bool} {N k : Nat} (h : m[k]! = false) : plI m N (k + 1) = plI m N k := by
  unfold plI
  apply List.map_congr_left
  intro j _
  by_cases e : j = k
  · subst e; simp [h, -List.getElem!_eq_getElem?_getD]
  · exact ite_cg ⟨fun ⟨a, b⟩ => ⟨by omega, b⟩, fun ⟨a, b⟩ => ⟨by omega, b⟩⟩
theorem plI_mark {m : List Bool} {N k : Nat} (h : m[k]! = true) (hk : k < N) : plI m N (k + 1) = (plI m N k).set k ((rk m k : Nat) : Int) := by
  apply List.ext_getElem
  · simp [plI]
  · intro j h1 h2
    rw [List.getElem_set]
    simp only [plI, List.getElem_map, List.getElem_range]
    by_cases e : k = j
    · subst e; rw [if_pos rfl, if_pos ⟨by omega, h⟩]
    · rw [if_neg e]
      exact ite_cg ⟨fun ⟨a, b⟩ => ⟨by omega, b⟩, fun ⟨a, b⟩ => ⟨by omega, b⟩⟩
theorem und_bools : Try.prog.underlying 76 = some (.slice 4) := by kernel_rfl
set_option maxRecDepth 100000 in
set_option maxHeartbeats 4000000 in
theorem rkeep_any (w : World) (v mv : Value) (l : List Nt) (m : List Bool) (h : TL w v l) (hm : Rd w encM mv m) (hml : m.length = l.length) (hn : l.length ≤ 5000) (hp : ∀ i, i < l.length → m[i]! = true → -1 ≤ (nds l)[i]!.p ∧ (nds l)[i]!.p < i) :
    Calls Try.prog 67 #[v, mv] w fun e w' => ∃ v' l', e = .returned v' ∧ TO w' w.heap.size v' l' ∧ nds l' = keepP (nds l) m ∧ Below w.heap.size w w' := by
  obtain ⟨i0, hi0, hz0, hz1, hz2⟩ := info_parts info_node
  obtain ⟨s0, hs0, hy0, hy1, hy2⟩ := info_parts info_str
  obtain ⟨ib, hib, hib0, hib1, hib2⟩ := info_parts (show (Try.prog.info? 3).map (fun i => (i.zero, i.size, i.bytes)) = some (some (.int .i64 0), 1, 8) by kernel_rfl)
  obtain ⟨ad, c, rfl, -⟩ := h.rd.form
  obtain ⟨md, mc, rfl, -⟩ := hm.form
  have HL := Bx.mk h
  have HC := Bx.mk h.cells.2
  have HMC := Bx.mk (marks_cells hm).2
  have HPA := Bx.mk hp
  have HML := Bx.mk hml
  obtain ⟨N, hN⟩ : ∃ N, N = l.length := ⟨_, rfl⟩
  have HN := Bx.mk hN
  obtain ⟨M, hM⟩ : ∃ M, M = m.length := ⟨_, rfl⟩
  have HMN := Bx.mk (show M = N by omega)
  rw [← hN] at hn ⊢
  rw [← hM]
  clear h hm hp hml hM hN
  have hmk := run_makeSlice (P := Try.prog) w 22 3 ib (.int .i64 0) Try.underlying22 hib hib0 .i64 .i64 (N : Nat) (N : Nat) (by omega) (by omega) (by rw [Int.toNat_natCast, hib1]; omega) (by rw [hib2]; omega) (by omega)
  simp only [Int.toNat_natCast, hib1, made_ints] at hmk
  obtain ⟨q, hq⟩ : ∃ q, q = w.heap.size := ⟨_, rfl⟩
  obtain ⟨W1, hW1⟩ : ∃ W1, W1 = w.alloc (.cells (Array.replicate N (Value.int .i64 0)) 3) := ⟨_, rfl⟩
  have HB0 := Bx.mk (show Below q w W1 by rw [hW1, hq]; exact (Below.refl _ _).alloc (Nat.le_refl _) _)
  have HM0 := Bx.mk (show MI W1 q (plI m N 0) by rw [plI_zero, hW1]; unfold MI; rw [List.map_replicate, List.toArray_replicate]; exact alloc_at hq)
  have HQ := Bx.mk hq
  have HS1 := Bx.mk (show W1.heap.size = q + 1 by rw [hW1, hq]; simp)
  go_enter Try.func67, Try.ntmps67
  go_wp2_with fail
  rw [← hW1, ← hq]
  clear hmk hW1 hq
  go_loopw [5, 7] (fun ov i wr => ∃ (k : Nat) (l' : List Nt), k ≤ N ∧ i = .int .i64 k ∧ l'.length ≤ k ∧ Bx (KO wr q ov l') ∧ Bx (nds l' = keepK (nds l) m k) ∧ Bx (MI wr q (plI m N k)) ∧ Bx (Below q w wr)) (fun _ i _ => N - (intOf i).toNat)
  case atStart => exact ⟨0, [], by omega, rfl, by simp, ⟨KO.nil _ _⟩, ⟨by simp [keepK]⟩, HM0, HB0⟩
  case round =>
    clear HM0 HB0
    obtain ⟨k, l', hk, rfl, hlen, hKO, hF, hMI, hBw⟩ := hrel
    have hBw' : Below w.heap.size w wr := HQ.out ▸ hBw.out
    obtain ⟨av, cv, rfl, -⟩ := hKO.out.own.rd.form
    by_cases hlt : k < N
    · have hkl : k < l.length := by rw [← HN.out]; exact hlt
      have hkm : k < m.length := by rw [HML.out]; exact hkl
      obtain ⟨b, o, rfl, hbl, c0, c1, c2, c3⟩ := HC.out wr hBw' k hkl
      obtain ⟨bm, om, rfl, hbm, cm⟩ := HMC.out wr hBw' k hkm
      have hltM : k < M := by rw [HMN.out]; exact hlt
      have HX := Bx.mk (show (nds l)[k]! = (l[k]).n from nds_at l k hkl)
      have HXA := Bx.mk (HL.out.at_ l[k] (List.getElem_mem hkl))
      have hpa := HPA.out k hkl
      obtain ⟨x, hx⟩ : ∃ x, x = l[k] := ⟨_, rfl⟩
      rw [← hx] at c0 c1 c2 c3 HX HXA
      obtain ⟨mk, hmk⟩ : ∃ b, b = m[k]! := ⟨_, rfl⟩
      rw [← hmk] at cm hpa
      have HMK := Bx.mk hmk
      have HPAK := Bx.mk hpa
      simp only [Sl.val] at c3
      clear hx hBw' hbl hbm hmk hpa hkl hkm
      cases mk with
      | false =>
        go_wp2_with fail
        go_roundw
        case rel => exact ⟨k + 1, l', by omega, by go_num, by omega, hKO, ⟨by rw [keepK_succ, ← HMK.out]; simpa using hF.out⟩, ⟨by rw [plI_skip HMK.out.symm]; exact hMI.out⟩, hBw⟩
        case measure => simp [intOf]; omega
      | true =>
        go_upto_region 8 with fail
        obtain ⟨bn, hbn⟩ : ∃ bn, bn = wr.heap.size := ⟨_, rfl⟩
        obtain ⟨W2, hW2⟩ : ∃ W2, W2 = wr.alloc (.cells #[.int .i64 x.n.d, .int .i64 x.n.p, .string (bstr x.n.pol), .slice x.u.ad x.u.n x.u.c] 56) := ⟨_, rfl⟩
        have HB2 := Bx.mk (show Below wr.heap.size wr W2 by rw [hW2]; exact (Below.refl _ _).alloc (Nat.le_refl _) _)
        have HR2 := Bx.mk (show W2.heap[bn]? = some (.cells #[.int .i64 x.n.d, .int .i64 x.n.p, .string (bstr x.n.pol), .slice x.u.ad x.u.n x.u.c] 56 (0, 0)) by rw [hW2, hbn]; exact heap_alloc_new _ _)
        have HS2 := Bx.mk (show W2.heap.size = bn + 1 by rw [hW2, hbn]; simp)
        have HBN := Bx.mk hbn
        rw [← hW2, ← hbn]
        clear hW2 c0 c1 c2 c3 cm hbn
        have hb3 : Below W2.heap.size W2 (W2.alloc (.cells #[] 9)) := (Below.refl _ _).alloc (Nat.le_refl _) _
        have hr3 : (W2.alloc (.cells #[] 9)).heap[W2.heap.size]? = some (.cells #[] 9 (0, 0)) := heap_alloc_new _ _
        have hq3 := (hb3.block _ (lt_of_some HR2.out)).trans HR2.out
        have hbw0 : Below w.heap.size w wr := HQ.out ▸ hBw.out
        have hx3 := ((HXA.out.1.below hbw0).below HB2.out).below hb3
        have hsr := hx3.src encS_ok
        have HSRC := Bx.mk hsr
        have hfw := HXA.out.2.1.1
        have hm1 : x.n.ex.length ≤ maxLen := by unfold maxLen; omega
        have hm2 : x.n.ex.length * 16 ≤ 140737488355328 := by omega
        have hz2' : bn + 1 ≤ W2.heap.size := by rw [HS2.out]; exact Nat.le_refl _
        have hz3 : bn + 1 ≤ (W2.alloc (.cells #[] 9)).heap.size := by have := hb3.size; omega
        have HB3 := Bx.mk hb3
        have HQ3 := Bx.mk hq3
        have h20 := cell_of_row _ _ 3 _ _ _ hq3
        simp only [List.getElem?_toArray, List.getElem?_cons_zero, List.getElem?_cons_succ] at h20
        clear hb3 hq3 hbw0 hx3 hsr
        go_wp2_with (at_builtin; refine wpList_append_fresh rfl _ _ _ rfl (bn + 1) 9 s0 _ 1 16 und_strs hs0 hy0 hy1 hy2 rfl (by decide) W2.heap.size rfl hr3 hz2' hz3 _ x.n.ex.length (x.n.ex.flatMap encS) rfl HSRC.out hm1 hm2 ?_)
        intro v4 w4 hown hb4 _
        clear hr3 hm1 hm2 hz2' hz3 h20
        have hq4 := (hb4.block bn (by have := HS2.out; omega)).trans HQ3.out
        have hf4 := frozen_row (i := 3) hq4
        have m3 := cell_of_row _ _ 3 _ _ _ hq4
        simp only [List.getElem?_toArray, List.getElem?_cons_zero, List.getElem?_cons_succ] at m3
        have HQ4 := Bx.mk hq4
        have HO4 := Bx.mk (Own.of (l := x.n.ex) hown rfl rfl)
        have HB4 := Bx.mk ((HB2.out.trans (HB3.out.mono HB2.out.size)).trans (hb4.mono (by have := HB2.out.size; omega)))
        obtain ⟨a4, c4, rfl, -⟩ := HO4.out.rd.form
        have HQ5 := Bx.mk (row_set (i := 3) hq4 (.slice a4 x.n.ex.length c4))
        clear hown hb4 hq4
        go_upto_region 9 with fail
        obtain ⟨W5, hW5⟩ : ∃ W5, W5 = w4.setCell ⟨bn, 3, none⟩ (.slice a4 x.n.ex.length c4) := ⟨_, rfl⟩
        clear m3
        rw [← hW5] at HQ5 ⊢
        simp only [List.setIfInBounds_toArray, List.set_cons_succ, List.set_cons_zero] at HQ5
        have hb5 : ∀ j, j < bn → W5.heap[j]? = wr.heap[j]? := fun j hj => by
          rw [hW5]
          exact (Below.heap_setCell w4 ⟨bn, 3, none⟩ _ j (by simp; omega)).trans (HB4.out.block j (by rw [← HBN.out]; exact hj))
        have HB5 := Bx.mk hb5
        have hz5 : bn + 1 ≤ W5.heap.size := by rw [hW5]; have h1 := lt_of_some HQ4.out; simp [World.setCell]; omega
        have hO5 : Slc.Own W5 (bn + 1) 9 1 encS (.slice a4 x.n.ex.length c4) x.n.ex := by
          rw [hW5]
          exact HO4.out.keep fun k hk _ => Below.heap_setCell w4 ⟨bn, 3, none⟩ _ k (by have := (HO4.out.lt k hk).1; simp; omega)
        have HO5 := Bx.mk hO5
        have HZ5 := Bx.mk hz5
        have hos : Below bn wr W5 := by rw [hW5]; exact (HB4.out.mono (show bn ≤ wr.heap.size by rw [HBN.out]; exact Nat.le_refl _)).setCell (Nat.le_refl bn) _
        have HBL := Bx.mk hos
        clear hb5 hz5 hO5 hW5 hf4 HSRC HB3 HQ3 HQ4 HO4 HB4 hos
        have hqb : q < bn := by rw [HBN.out]; exact lt_of_some hMI.out
        have HQB := Bx.mk hqb
        obtain ⟨p', hp'⟩ : ∃ p', p' = (kpN m x.n).p := ⟨_, rfl⟩
        have HPP := Bx.mk hp'
        clear hp' hqb
        have m1 := cell_of_row _ _ 1 _ _ _ HQ5.out
        simp only [List.getElem?_toArray, List.getElem?_cons_zero, List.getElem?_cons_succ] at m1
        go_upto_if 34 with fail
        go_cut [8] (fun v8 wc => v8 = .pointer (some ⟨bn, 0, none⟩) ∧ Bx (wc.heap[bn]? = some (.cells #[.int .i64 x.n.d, .int .i64 p', .string (bstr x.n.pol), .slice a4 x.n.ex.length c4] 56 (0, 0)) ∧ Below bn wr wc ∧ Slc.Own wc (bn + 1) 9 1 encS (.slice a4 x.n.ex.length c4) x.n.ex ∧ bn + 1 ≤ wc.heap.size))
        case first =>
          have hpr := HPAK.out (by first | rfl | trivial)
          rw [HX.out] at hpr
          have HPR := Bx.mk hpr
          clear hpr
          by_cases hp0 : x.n.p < 0
          · have t0 : decide (x.n.p ≥ 0) = false := decide_eq_false (by omega)
            have t1 : decide (0 ≤ x.n.p) = false := decide_eq_false (by omega)
            have HPE := Bx.mk (show p' = x.n.p by rw [HPP.out]; unfold kpN; simp only; rw [if_pos hp0])
            have tn : ¬ (0 ≤ x.n.p) := by omega
            clear hp0
            go_wp2_with fail
            go_meet
            exact ⟨rfl, ⟨by rw [HPE.out]; exact HQ5.out, HBL.out, HO5.out, HZ5.out⟩⟩
          · obtain ⟨pp, hpp⟩ : ∃ pp : Nat, x.n.p = (pp : Int) := ⟨x.n.p.toNat, by omega⟩
            have hppk : pp < k := by have := HPR.out; omega
            have hcz := (show MI W5 q (plI m N k) from (HB5.out q HQB.out).trans hMI.out).cell pp (by rw [plI_length]; omega)
            have HPE := Bx.mk (show (plI m N k)[pp]! = p' by
              rw [HPP.out, plI_at _ _ _ _ (by omega)]; unfold kpN; simp only
              rw [if_neg hp0, hpp, Int.toNat_natCast]
              by_cases e : m[pp]! = true
              · rw [if_pos ⟨hppk, e⟩, if_pos e]
              · rw [if_neg fun h => e h.2, if_neg e])
            rw [HPE.out] at hcz
            rw [show pp = x.n.p.toNat by omega] at hcz
            have hppN : x.n.p < N := by omega
            have hpp0 : 0 ≤ x.n.p := by omega
            have hf5 := frozen_row (i := 1) HQ5.out
            have t0 : decide (x.n.p ≥ 0) = true := decide_eq_true (by omega)
            have t1 : decide (0 ≤ x.n.p) = true := decide_eq_true (by omega)
            have HQ6 := Bx.mk (row_set (i := 1) HQ5.out (.int .i64 p'))
            have HPPX := Bx.mk hpp
            clear hp0 hpp
            go_wp2_with fail
            go_meet
            refine ⟨rfl, ⟨?_, HBL.out.setCell (Nat.le_refl _) _, HO5.out.keep fun k hk _ => Below.heap_setCell W5 ⟨bn, 1, none⟩ _ k (by have := (HO5.out.lt k hk).1; simp; omega), by simp [World.setCell]; exact HZ5.out⟩⟩
            have := HQ6.out
            simp only [List.setIfInBounds_toArray, List.set_cons_succ, List.set_cons_zero] at this
            exact this
        case rest =>
          clear m1
          clear HQ5 HB5 HO5 HZ5 HBL
          obtain ⟨rfl, hcc⟩ := hcut
          obtain ⟨hrow, hbl, hO6, hz6⟩ := hcc.out
          have hMI6 : MI wc q (plI m N k) := (hbl.block q HQB.out).trans hMI.out
          have hll : l'.length = rk m k := by
            have := congrArg List.length hF.out
            rwa [nds_len, keepK_length] at this
          have hMI7 : MI (wc.setCell ⟨q, k, none⟩ (.int .i64 (l'.length : Nat))) q (plI m N (k + 1)) := by
            rw [plI_mark HMK.out.symm hlt, ← hll]; exact hMI6.set k _
          have hfz := frozen_row (i := k) hMI6
          have hck := hMI6.cell k (by rw [plI_length]; exact hlt)
          obtain ⟨W7, hW7⟩ : ∃ W7, W7 = wc.setCell ⟨q, k, none⟩ (.int .i64 (l'.length : Nat)) := ⟨_, rfl⟩
          rw [← hW7] at hMI7
          have hne : ∀ j, j ≠ q → W7.heap[j]? = wc.heap[j]? := fun j hj => by rw [hW7]; exact Below.heap_setCell wc ⟨q, k, none⟩ _ j (by simpa using hj)
          have hs7 : W7.heap.size = wc.heap.size := by rw [hW7]; simp [World.setCell]
          have hrow7 := (hne bn (by have := HQB.out; omega)).trans hrow
          have hO7 := hO6.keep fun k hk _ => hne k (by have := (hO6.lt k hk).1; have := HQB.out; omega)
          have hK7 : KO W7 q (.slice av l'.length cv) l' := hKO.out.keep (by have := hbl.size; omega) fun j hj hjq => (hne j hjq).trans (hbl.block j (by rw [HBN.out]; exact hj))
          have hB7 : Below q w W7 := by
            rw [hW7]; exact (hBw.out.trans (hbl.mono (by have := HQB.out; omega))).setCell (Nat.le_refl _) _
          obtain ⟨y, hy⟩ : ∃ y : Nt, y = ⟨⟨x.n.d, p', x.n.pol, x.n.ex⟩, ⟨a4, x.n.ex.length, c4⟩⟩ := ⟨_, rfl⟩
          have hyn : NtIn W7 (fun k => (Value.slice av l'.length cv).ownBlock ≠ some k ∧ k ≠ q) y := by
            rw [hy]
            refine ⟨⟨hO7.rd, fun k hk => ?_⟩, HXA.out.2⟩
            have h1 := (hO7.lt k hk).1
            have h3 := HBN.out
            have h4 := HQB.out
            exact ⟨fun e => by have := (hKO.out.own.lt k e).2; omega, by omega⟩
          have HYN := Bx.mk hyn
          have HYE := Bx.mk (show y.n = kpN m (nds l)[k]! by rw [HX.out, hy]; show (⟨x.n.d, p', x.n.pol, x.n.ex⟩ : Nd) = _; rw [HPP.out]; rfl)
          have HK7 := Bx.mk hK7
          have HB7 := Bx.mk hB7
          have HM7 := Bx.mk hMI7
          have HSRC := Bx.mk (show SrcV (W7.alloc (.cells #[.int .i64 x.n.d, .int .i64 p', .string (bstr x.n.pol), .slice a4 x.n.ex.length c4] 56)) 4 (.slice (some ⟨W7.heap.size, 0, none⟩) 1 1) 1 ([y].flatMap encN) by
            have hsrc := src_node W7 y
            rw [hy] at hsrc ⊢
            exact hsrc)
          have HOWN := Bx.mk (show Slc.Own (W7.alloc (.cells #[.int .i64 x.n.d, .int .i64 p', .string (bstr x.n.pol), .slice a4 x.n.ex.length c4] 56)) (q + 1) 56 4 encN (.slice av l'.length cv) l' from hK7.own.below ((Below.refl _ _).alloc (Nat.le_refl _) _))
          have HP7 := Bx.mk (show q < W7.heap.size by have := HQB.out; omega)
          have hbz : q + 1 ≤ (W7.alloc (.cells #[.int .i64 x.n.d, .int .i64 p', .string (bstr x.n.pol), .slice a4 x.n.ex.length c4] 56)).heap.size := by have := HQB.out; simp; omega
          have m0 := cell_of_row _ _ 0 _ _ _ hrow7
          have m1 := cell_of_row _ _ 1 _ _ _ hrow7
          have m2 := cell_of_row _ _ 2 _ _ _ hrow7
          have m3 := cell_of_row _ _ 3 _ _ _ hrow7
          simp only [List.getElem?_toArray, List.getElem?_cons_zero, List.getElem?_cons_succ] at m0 m1 m2 m3
          have hm1 : l'.length + 1 ≤ maxLen := by unfold maxLen; omega
          have hm2 : (l'.length + 1) * 56 ≤ 140737488355328 := by omega
          clear hcc hrow hbl hO6 hz6 hMI6 hll hMI7 hne hs7 hrow7 hO7 hK7 hB7 hy hyn
          go_upto_region 12 with fail
          rw [← hW7]
          clear hW7 hfz hck
          go_wp2_with (at_builtin; refine wpList_append_any rfl _ _ _ rfl (q + 1) 56 i0 _ 4 56 und_nodes hi0 hz0 hz1 hz2 rfl (by decide) _ l'.length (l'.flatMap encN) rfl HOWN.out _ 1 ([y].flatMap encN) rfl HSRC.out hm1 hm2 hbz ?_)
          intro v9 w9 hapd
          obtain ⟨hk9, hb9, hp9⟩ := HK7.out.step HP7.out HYN.out hapd
          have HK9 := Bx.mk hk9
          have HB9 := Bx.mk (HB7.out.trans hb9)
          have HP9 := Bx.mk (show MI w9 q (plI m N (k + 1)) from hp9.trans HM7.out)
          have HF9 := Bx.mk (show nds (l' ++ [y]) = keepK (nds l) m (k + 1) by rw [keepK_succ, ← HMK.out, if_pos rfl, ← HYE.out, ← hF.out]; simp [nds])
          clear hapd hk9 hb9 hp9 hm1 hm2 hbz
          go_wp2_with fail
          go_roundw
          case rel => exact ⟨k + 1, l' ++ [y], by omega, by go_num, by simp; omega, HK9, HF9, HP9, HB9⟩
          case measure => simp [intOf]; omega
    · go_wp2_with fail
      go_ret
      obtain rfl : k = N := by omega
      exact ⟨_, l', rfl, HQ.out ▸ hKO.out.to, by unfold keepP; rw [nds_len, ← HN.out]; exact hF.out, HQ.out ▸ hBw.out⟩
theorem set_same (m : List Bool) (i : Nat) (b : Bool) (h : i < m.length) (e : b = m[i]!) : m.set i b = m := by
  apply List.ext_getElem
  · simp
  · intro j h1 h2
    rw [List.getElem_set]
    by_cases q : i = j
    · subst q; rw [if_pos rfl, e, getElem!_pos m i h]
    · rw [if_neg q]
set_option maxRecDepth 100000 in
set_option maxHeartbeats 4000000 in
theorem rprune_any (w : World) (v : Value) (l : List Nt) (h : TL w v l) (hn : l.length ≤ 5000) (hp : ∀ i, i < l.length → -1 ≤ (nds l)[i]!.p ∧ (nds l)[i]!.p < i) (D : Int) :
    Calls Try.prog 47 #[v, .int .i64 D] w fun e w' => ∃ v' l', e = .returned v' ∧ TO w' w.heap.size v' l' ∧ nds l' = pruneP (nds l) D ∧ Below w.heap.size w w' := by
  obtain ⟨ib, hib, hib0, hib1, hib2⟩ := info_parts (show (Try.prog.info? 4).map (fun i => (i.zero, i.size, i.bytes)) = some (some (.bool false), 1, 1) by kernel_rfl)
  obtain ⟨ad, c, rfl, -⟩ := h.rd.form
  have HL := Bx.mk h
  have HC := Bx.mk h.cells.2
  have HPA := Bx.mk hp
  obtain ⟨N, hN⟩ : ∃ N, N = l.length := ⟨_, rfl⟩
  have HN := Bx.mk hN
  rw [← hN] at hn ⊢
  clear h hp hN
  have hmk := run_makeSlice (P := Try.prog) w 76 4 ib (.bool false) Try.underlying76 hib hib0 .i64 .i64 (N : Nat) (N : Nat) (by omega) (by omega) (by rw [Int.toNat_natCast, hib1]; omega) (by rw [hib2]; omega) (by omega)
  simp only [Int.toNat_natCast, hib1, made_marks] at hmk
  obtain ⟨q, hq⟩ : ∃ q, q = w.heap.size := ⟨_, rfl⟩
  obtain ⟨W1, hW1⟩ : ∃ W1, W1 = w.alloc (.cells (Array.replicate N (Value.bool false)) 4) := ⟨_, rfl⟩
  have HB0 := Bx.mk (show Below q w W1 by rw [hW1, hq]; exact (Below.refl _ _).alloc (Nat.le_refl _) _)
  have HM0 := Bx.mk (show MB W1 q (pmB (nds l) D 0) by
    rw [hW1]; unfold MB pmB; rw [nds_len, ← HN.out, List.map_replicate, List.toArray_replicate]; exact alloc_at hq)
  have HQ := Bx.mk hq
  go_enter Try.func47, Try.ntmps47
  go_wp2_with fail
  rw [← hW1, ← hq]
  clear hmk hW1 hq
  go_loopw [6] (fun i wr => ∃ j : Nat, j ≤ N ∧ i = .int .i64 ((N : Int) - 1 - j) ∧ Bx (MB wr q (pmB (nds l) D j)) ∧ Bx (Below q w wr)) (fun i _ => (intOf i + 1).toNat)
  case atStart => exact ⟨0, by omega, by go_num, HM0, HB0⟩
  case round =>
    clear HM0 HB0
    obtain ⟨j, hj, rfl, hM, hBw⟩ := hrel
    have hBw' : Below w.heap.size w wr := HQ.out ▸ hBw.out
    by_cases hlt : j < N
    · obtain ⟨k, hk⟩ : ∃ k, k = N - 1 - j := ⟨_, rfl⟩
      have hkN : k < N := by omega
      have hkl : k < l.length := by rw [← HN.out]; exact hkN
      obtain ⟨b, o, rfl, hbl, c0, c1, c2, c3⟩ := HC.out wr hBw' k hkl
      have HX := Bx.mk (show (nds l)[k]! = (l[k]).n from nds_at l k hkl)
      have HST := Bx.mk (show pmB (nds l) D (j + 1) = stepM (nds l) D (pmB (nds l) D j) k by
        show stepM (nds l) D (pmB (nds l) D j) ((nds l).length - 1 - j) = _
        rw [nds_len, ← HN.out, hk])
      have hpa := HPA.out k hkl
      rw [HX.out] at hpa
      obtain ⟨x, hx⟩ : ∃ x, x = l[k] := ⟨_, rfl⟩
      rw [← hx] at c0 c1 c2 c3 HX hpa
      have HPR := Bx.mk hpa
      obtain ⟨m, hm⟩ : ∃ m, m = pmB (nds l) D j := ⟨_, rfl⟩
      rw [← hm] at hM HST
      have HML := Bx.mk (show m.length = N by rw [hm, pmB_length, nds_len, ← HN.out])
      have hrow := hM.out
      have hf := frozen_row (i := k) hrow
      have hck := hM.out.cell k (by rw [HML.out]; exact hkN)
      have hi : (N : Int) - 1 - j = (k : Int) := by omega
      have hi1 : ((N : Int) - 1 - j) - 1 = (N : Int) - 1 - ((j + 1 : Nat) : Int) := by omega
      rw [hi]
      have HI := Bx.mk (And.intro hi hk)
      obtain ⟨mk, hmk⟩ : ∃ mk, mk = m[k]! := ⟨_, rfl⟩
      rw [← hmk] at hck
      have HMK := Bx.mk hmk
      obtain ⟨td, htd⟩ : ∃ td, td = (x.n.d == D) := ⟨_, rfl⟩
      have htd1 : (x.n.d == D) = td := htd.symm
      have HTD := Bx.mk htd
      -- the first store
      have HM1 := Bx.mk (show MB (wr.setCell ⟨q, k, none⟩ (.bool (mk || td))) q (if x.n.d = D then m.set k true else m) by
        have h1 := hM.out.set k (mk || td)
        by_cases e : x.n.d = D
        · rw [if_pos e]
          have : td = true := by rw [HTD.out]; simpa using e
          rw [this, Bool.or_true] at h1 ⊢; exact h1
        · rw [if_neg e]
          have : td = false := by rw [HTD.out]; simpa using e
          rw [this, Bool.or_false] at h1 ⊢
          rw [set_same m k mk (by rw [HML.out]; exact hkN) HMK.out] at h1
          exact h1)
      obtain ⟨m1, hm1⟩ : ∃ m1, m1 = (if x.n.d = D then m.set k true else m) := ⟨_, rfl⟩
      rw [← hm1] at HM1
      have HM1D := Bx.mk hm1
      have HML1 := Bx.mk (show m1.length = N by rw [hm1]; split <;> simp [HML.out])
      have HSTP := Bx.mk (show stepM (nds l) D m k = if m1[k]! && decide (x.n.p ≥ 0) then m1.set x.n.p.toNat true else m1 by
        unfold stepM
        rw [HX.out, ← HM1D.out])
      have HK1 := Bx.mk (show m1[k]! = (mk || td) by
        rw [HM1D.out, HTD.out]
        by_cases e : x.n.d = D
        · rw [if_pos e, set_at _ _ _ _ (by rw [HML.out]; exact hkN), if_pos rfl]; simp [e]
        · rw [if_neg e, ← HMK.out]; simp [e])
      have HSZ := Bx.mk (show Below q w (wr.setCell ⟨q, k, none⟩ (.bool (mk || td))) from hBw.out.setCell (Nat.le_refl _) _)
      clear hx hm hm1 hpa hBw' hbl hrow hmk htd hi hi1 hk hkl
      go_upto_region 5 with fail
      go_cut [6] (fun v6 wc => v6 = .int .i64 (k : Int) ∧ wc = wr.setCell ⟨q, k, none⟩ (.bool (mk || td)))
      case first =>
        cases mk <;> cases td <;> (go_wp2_with fail; go_meet; exact ⟨rfl, rfl⟩)
      case rest =>
        obtain ⟨rfl, hwc⟩ := hcut
        rw [← hwc] at HM1 HSZ
        have hck1 := HM1.out.cell k (by rw [HML1.out]; exact hkN)
        rw [HK1.out] at hck1
        have c1' : wc.cell? ⟨b, o + k * 4 + 1, none⟩ = some (.int .i64 x.n.p) := by
          obtain ⟨b', o', e, -, -, h1, -⟩ := HC.out wc (HQ.out ▸ HSZ.out) k (by rw [← HN.out]; exact hkN)
          simp only [Option.some.injEq, Addr.mk.injEq, and_true] at e
          obtain ⟨rfl, rfl⟩ := e
          rw [← nds_at l k (by rw [← HN.out]; exact hkN), HX.out] at h1
          exact h1
        obtain ⟨bb, hbb⟩ : ∃ bb, bb = (mk || td) := ⟨_, rfl⟩
        rw [← hbb] at hck1 HK1
        have hwr : IntKind.i64.wrap ((k : Int) - 1) = (k : Int) - 1 := IntWalk.i64_in _ (by omega)
        have HKE := Bx.mk (show (k : Int) - 1 = (N : Int) - 1 - ((j + 1 : Nat) : Int) by have := HI.out.1; omega)
        clear hwc c0 c1 c2 c3 hck hf htd1 hbb
        cases bb with
        | false =>
          have HF := Bx.mk (show MB wc q (pmB (nds l) D (j + 1)) by rw [HST.out, HSTP.out, HK1.out, if_neg (by simp)]; exact HM1.out)
          go_wp2_with fail
          go_roundw
          case rel => exact ⟨j + 1, by omega, by rw [HKE.out], HF, HSZ⟩
          case measure => (have := HI.out; simp [intOf] <;> omega)
        | true =>
          by_cases hp0 : x.n.p < 0
          · have t1 : decide (0 ≤ x.n.p) = false := decide_eq_false (by omega)
            have tn : ¬ (0 ≤ x.n.p) := by omega
            have HF := Bx.mk (show MB wc q (pmB (nds l) D (j + 1)) by rw [HST.out, HSTP.out, if_neg (by simp; omega)]; exact HM1.out)
            clear hp0
            go_wp2_with fail
            go_roundw
            case rel => exact ⟨j + 1, by omega, by rw [HKE.out], HF, HSZ⟩
            case measure => (have := HI.out; simp [intOf] <;> omega)
          · have t1 : decide (0 ≤ x.n.p) = true := decide_eq_true (by omega)
            have tn : 0 ≤ x.n.p := by omega
            have tN : x.n.p < N := by have := HPR.out; omega
            have hf1 := frozen_row (i := x.n.p.toNat) HM1.out
            have hc1 := HM1.out.cell x.n.p.toNat (by rw [HML1.out]; omega)
            have HF := Bx.mk (show MB (wc.setCell ⟨q, x.n.p.toNat, none⟩ (.bool true)) q (pmB (nds l) D (j + 1)) by rw [HST.out, HSTP.out, HK1.out, if_pos (by simp; omega)]; exact HM1.out.set _ true)
            have HSZ2 := Bx.mk (show Below q w (wc.setCell ⟨q, x.n.p.toNat, none⟩ (.bool true)) from HSZ.out.setCell (Nat.le_refl _) _)
            clear hp0
            go_wp2_with fail
            go_roundw
            case rel => exact ⟨j + 1, by omega, by rw [HKE.out], HF, HSZ2⟩
            case measure => (have := HI.out; simp [intOf] <;> omega)
    · obtain rfl : j = N := by omega
      have hml : (pruneM (nds l) D).length = l.length := by unfold pruneM; rw [pmB_length, nds_len]
      have hM' : MB wr q (pruneM (nds l) D) := by unfold pruneM; rw [nds_len, ← HN.out]; exact hM.out
      have hrd := hM'.rd (c := l.length) (by omega)
      rw [hml] at hrd
      have hBw' : Below w.heap.size w wr := HQ.out ▸ hBw.out
      have hcall := rkeep_any wr _ _ l (pruneM (nds l) D) (HL.out.below hBw') hrd hml (by have := HN.out; omega) (fun i hi _ => HPA.out i hi)
      rw [← HN.out] at hcall
      have HB := Bx.mk hBw'
      have hneg : (j : Int) - 1 - (j : Int) = -1 := by omega
      rw [hneg]
      clear hlt hM hBw hml hM' hrd hBw' hneg
      go_wp2_with fail
      go_at_call 67
      refine hcall.mono ?_
      rintro e w5 ⟨v5, l5, rfl, ho5, hn5, hb5⟩
      have HO := Bx.mk ho5
      have HN5 := Bx.mk hn5
      have HB5 := Bx.mk (HB.out.trans (hb5.mono HB.out.size))
      have HSZ := Bx.mk HB.out.size
      clear ho5 hn5 hb5 hcall
      go_wp2_with fail
      go_ret
      exact ⟨_, l5, rfl, HO.out.mono HSZ.out, HN5.out, HB5.out⟩
end Go.Proofs.Ytmagjdocondmhaa.Tr

namespace Go.Proofs.Ytmagjdocondmhaa.Tr
open Go Go.RowKit Go.Proofs.Ytmagjdocondmhaa.Slc Go.Proofs.Ytmagjdocondmhaa.St
set_option linter.unusedVariables false
set_option linter.unusedSimpArgs false
attribute [local go_sem] Oper.semAt_some

theorem insS_at (x : B) : ∀ (l : List B) (j : Nat), Asc l → j ≤ l.length → (∀ i (h : i < l.length), j ≤ i → ¬ l[i] < x) → (∀ (h : j - 1 < l.length), 0 < j → l[j - 1] < x) →
    ((∃ h : j < l.length, l[j] = x) → insS x l = l) ∧ ((¬ ∃ h : j < l.length, l[j] = x) → insS x l = l.take j ++ x :: l.drop j)
  | [], j, _, hj, _, _ => by
    obtain rfl : j = 0 := by simpa using hj
    exact ⟨fun ⟨h, _⟩ => absurd h (by simp), fun _ => rfl⟩
  | y :: l, 0, ha, hj, h1, h2 => by
    have hy : ¬ y < x := h1 0 (by simp) (by omega)
    constructor
    · rintro ⟨h, e⟩
      have e : y = x := e
      subst e
      unfold insS
      rw [if_neg (ltB_irr _), if_pos rfl]
    · intro hn
      have hne : x ≠ y := fun e => hn ⟨by simp, e.symm⟩
      unfold insS
      rw [if_pos (ltB_or hy fun e => hne e.symm)]; rfl
  | y :: l, j + 1, ha, hj, h1, h2 => by
    have hj' : j ≤ l.length := by simpa using hj
    rw [Asc, List.pairwise_cons] at ha
    have hyx : y < x := by
      rcases Nat.eq_zero_or_pos j with q | q
      · subst q; exact h2 (by simp) (by omega)
      · have h3 : l[j - 1] < x := by
          have := h2 (by simp; omega) (by omega)
          have e : (y :: l)[j + 1 - 1]'(by simp; omega) = l[j - 1]'(by omega) := by
            have : j + 1 - 1 = (j - 1) + 1 := by omega
            simp only [this, List.getElem_cons_succ]
          rw [e] at this; exact this
        exact ltB_tr (ha.1 _ (List.getElem_mem _)) h3
    have ih := insS_at x l j ha.2 hj' (fun i hi hji => by have := h1 (i + 1) (by simp; omega) (by omega); simpa using this) (fun hi h0 => by
      have := h2 (by simp; omega) (by omega)
      have e : (y :: l)[j + 1 - 1]'(by simp; omega) = l[j - 1]'(by omega) := by
        have : j + 1 - 1 = (j - 1) + 1 := by omega
        simp only [this, List.getElem_cons_succ]
      rw [e] at this; exact this)
    have hins : insS x (y :: l) = y :: insS x l := by
      conv => lhs; unfold insS
      rw [if_neg (List.lt_asymm hyx), if_neg (fun e => by subst e; exact ltB_irr _ hyx)]
    constructor
    · rintro ⟨h, e⟩
      rw [hins, ih.1 ⟨by simpa using h, by simpa using e⟩]
    · intro hn
      rw [hins, ih.2 (fun ⟨h, e⟩ => hn ⟨by simpa using h, by simpa using e⟩)]; rfl
theorem und_strs' : Try.prog.underlying 35 = some (.slice (Try.prog.elem 35)) := by kernel_rfl
theorem size_strs (W : World) : (sizeOf (Try.prog.elem 35)).run Try.prog W = .ok 1 W := by kernel_rfl
/-- the facts of the insertion's region -/
def SrF (W0 : World) (sv u1 u2 : Value) (p : Nat) (cur : List B) (x : B) (lv iv : Value) (b : Nat) (o : Nat) : Nat → Value → World → Prop
  | 0, v, w => ∃ g, v = .slice (some ⟨g, 0, none⟩) 0 0 ∧ w.heap[g]? = some (.cells #[] 9 (0, 0)) ∧ W0.heap.size ≤ g
  | 1, v, _ => v = sv
  | 2, v, _ => v = .int .i64 p
  | 3, v, _ => v = u1
  | 4, v, w => Slc.Own w W0.heap.size 9 1 encS v (cur.take p)
  | 5, v, _ => v = lv
  | 6, v, _ => v = iv
  | 7, v, _ => v = .pointer (some ⟨b, o, none⟩)
  | 8, v, _ => v = .string (bstr x)
  | 9, v, w => ∃ g : Nat, v = .slice (some ⟨g, 0, none⟩) 1 1 ∧ w.heap[g]? = some (.cells (encS x).toArray 9 (0, 0))
  | 10, v, w => Slc.Own w W0.heap.size 9 1 encS v (cur.take p ++ [x])
  | 11, v, _ => v = sv
  | 12, v, _ => v = .int .i64 p
  | 13, v, _ => v = u2
  | _, _, _ => True
theorem SrF.stable (W0 : World) (sv u1 u2 : Value) (p : Nat) (cur : List B) (x : B) (lv iv : Value) (b : Nat) (o : Nat) (i : Nat) (v : Value) (w w' : World) (h : SrF W0 sv u1 u2 p cur x lv iv b o i v w) (hb : Below w.heap.size w w') : SrF W0 sv u1 u2 p cur x lv iv b o i v w' := by
  match i with
  | 1 | 2 | 3 | 5 | 6 | 7 | 8 | 11 | 12 | 13 => exact h
  | 0 => obtain ⟨g, h1, h2, h3⟩ := h; exact ⟨g, h1, (hb.block g (lt_of_some h2)).trans h2, h3⟩
  | 4 => exact Slc.Own.below (t := 9) h hb
  | 9 => obtain ⟨g, h1, h2⟩ := h; exact ⟨g, h1, (hb.block g (lt_of_some h2)).trans h2⟩
  | 10 => exact Slc.Own.below (t := 9) h hb
  | _ + 14 => exact trivial
def SrFC : Nat → Option Nat
  | 0 => some 4
  | 4 => some 10
  | 9 => some 10
  | _ => none
theorem SrF.big (W0 : World) (sv u1 u2 : Value) (p : Nat) (cur : List B) (x : B) (lv iv : Value) (b : Nat) (o : Nat) (d : Nat → Bool) (j : Nat) (v : Value) (w w' : World) (h4 : d 4 = true) (hc : ∀ q, SrFC j = some q → mark d 10 q = false) (hne : j ≠ 10) (hj : j < 14) (h : SrF W0 sv u1 u2 p cur x lv iv b o j v w) : SrF W0 sv u1 u2 p cur x lv iv b o j v w' := by
  match j with
  | 1 | 2 | 3 | 5 | 6 | 7 | 8 | 11 | 12 | 13 => exact h
  | 0 => have := hc 4 rfl; simp [mark, h4] at this
  | 4 => have := hc 10 rfl; simp [mark] at this
  | 9 => have := hc 10 rfl; simp [mark] at this
  | 10 => exact absurd rfl hne
  | _ + 14 => omega
theorem drewN_below {B : Nat} {a w : World} (h : Below B a w) (n : Nat) : Below B a (w.drewN n) := ⟨h.os, h.tape, h.output, h.size, h.block⟩
set_option maxHeartbeats 4000000 in
set_option maxRecDepth 20000 in
theorem rset_any (w : World) (v : Value) (l : List B) (h : Rd w encS v l) (hn : l.length ≤ 100000) :
    Calls Try.prog 43 #[v] w fun e w' => ∃ v', e = .returned v' ∧ Slc.Own w' w.heap.size 9 1 encS v' (setB l) ∧ Below w.heap.size w w' := by
  obtain ⟨i0, hi0, hz0, hz1, hz2⟩ := info_parts info_str
  obtain ⟨la, lc, rfl, -⟩ := h.form
  have HCELL := Bx.mk (strs_cells h).2
  obtain ⟨N, hN⟩ : ∃ N, N = l.length := ⟨_, rfl⟩
  have HN := Bx.mk hN
  rw [← hN] at hn ⊢
  clear h hN
  go_enter Try.func43, Try.ntmps43
  go_wp2_with fail
  go_loopw [3, 4] (fun v i wr => ∃ (k : Nat) (cur : List B), k ≤ N ∧ i = .int .i64 (k : Int) ∧ Slc.Own wr w.heap.size 9 1 encS v cur ∧ Bx (cur = setB (l.take k)) ∧ Below w.heap.size w wr) (fun _ i _ => N - (intOf i).toNat)
  case atStart => exact ⟨0, [], Nat.zero_le _, rfl, Slc.Own.nil _ _, ⟨by simp [setB]⟩, Below.refl _ _⟩
  case round =>
    obtain ⟨k, cur, hk, rfl, hown, hcu, hbw⟩ := hrel
    obtain ⟨oa, oc, hof, -⟩ := hown.rd.form
    subst hof
    have HOWN := Bx.mk hown
    have HBW := Bx.mk hbw
    have hcl : cur.length ≤ 100000 := by
      have h1 := setB_length (l.take k)
      rw [← hcu.out, List.length_take] at h1
      omega
    by_cases hlt : k < N
    · have hkl : k < l.length := by rw [← HN.out]; exact hlt
      obtain ⟨b, o, rfl, hbl, x0⟩ := HCELL.out _ hbw k hkl
      obtain ⟨x, hx⟩ : ∃ x, x = l[k] := ⟨_, rfl⟩
      rw [← hx] at x0
      have HSN := Bx.mk (show setB (l.take (k + 1)) = insS x cur by
        rw [List.take_succ_eq_append_getElem hkl, setB_snoc, ← hcu.out, hx])
      have HASC := Bx.mk (show Asc cur by rw [hcu.out]; exact setB_asc _)
      have hbl2 : b < wr.heap.size := by have := hbw.size; omega
      have HXL := Bx.mk (show ∀ (W : World), Below wr.heap.size wr W → W.cell? ⟨b, o + k, none⟩ = some (.string (bstr x)) from fun W hW => by
        rw [hW.cell (p := ⟨b, o + k, none⟩) hbl2]; exact x0)
      have HC := Bx.mk (show ∀ (W : World), Below wr.heap.size wr W → ∀ j (hj : j < cur.length), ∃ g1, oa = some ⟨g1, 0, none⟩ ∧ W.cell? ⟨g1, j, none⟩ = some (.string (bstr cur[j])) from fun W hW j hj => by
        rcases HOWN.out.2 with ⟨_, hn⟩ | ⟨g2, cap, cu, hv2, -⟩
        · omega
        · simp only [Value.slice.injEq] at hv2
          obtain ⟨rfl, -, rfl⟩ := hv2
          have := Own.cell encS_ok HOWN.out j hj 0 (by omega) _ rfl
          rw [Nat.add_zero, Nat.mul_one] at this
          exact ⟨_, rfl, (hW.cell (p := ⟨g2, j, none⟩) (World.block_lt_of_cell? wr _ this)).trans this⟩)
      have HCLN := Bx.mk hcl
      clear hown hbw hx hcu x0 hkl hbl
      go_upto_block 2 with fail
      go_cut [5] (fun s5 wx => ∃ pl : Nat, s5 = .int .i64 (pl : Int) ∧ Bx (pl ≤ cur.length ∧ ((∃ h : pl < cur.length, cur[pl] = x) → insS x cur = cur) ∧ ((¬ ∃ h : pl < cur.length, cur[pl] = x) → insS x cur = cur.take pl ++ x :: cur.drop pl)) ∧ Below wr.heap.size wr wx)
      case first =>
        go_wp2_with fail
        go_loopw [5] (fun i wx => ∃ j : Nat, j ≤ cur.length ∧ Bx (∀ i (h : i < cur.length), j ≤ i → ¬ cur[i] < x) ∧ i = .int .i64 (j : Int) ∧ Below wr.heap.size wr wx) (fun i _ => (intOf i).toNat)
        case atStart => exact ⟨cur.length, Nat.le_refl _, ⟨fun i h hi => by omega⟩, rfl, Below.refl _ _⟩
        case round =>
          obtain ⟨j, hj, hall, rfl, hbx⟩ := hrel
          have HBX := Bx.mk hbx
          have hxw := HXL.out _ hbx
          cases j with
          | zero =>
            have HP0 := Bx.mk (insS_at x cur 0 HASC.out (by omega) hall.out (fun h h2 => by omega))
            have t0 : decide (0 < ((0 : Nat) : Int)) = false := rfl
            clear hbx
            go_wp2_with fail
            go_quiet (fail)
            go_wp2
            go_meet
            exact ⟨0, rfl, ⟨by omega, HP0.out⟩, drewN_below HBX.out _⟩
          | succ m =>
            have hmc : m < cur.length := by omega
            obtain ⟨g1, rfl, hcj⟩ := HC.out _ hbx m hmc
            have HCM := Bx.mk (show ∀ i (h : i < cur.length), m ≤ i → i = m ∨ m + 1 ≤ i from fun i h hi => by omega)
            have l1 := less_bytes cur[m] x
            have l2 := less_bytes x cur[m]
            have l3 := same_bytes cur[m] x
            have wj : IntKind.i64.wrap (((m + 1 : Nat) : Int) - 1) = (m : Int) := by rw [IntWalk.i64_in _ (by omega)]; omega
            have ej : ((m : Int) + 1).toNat = m + 1 := by omega
            clear hbx
            by_cases hl : cur[m] < x
            · have HP0 := Bx.mk (insS_at x cur (m + 1) HASC.out hj hall.out (fun h h2 => by simpa using hl))
              rw [decide_eq_true hl] at l1
              rw [decide_eq_false (List.lt_asymm hl)] at l2
              rw [decide_eq_false (fun e => by rw [e] at hl; exact List.lt_irrefl _ hl)] at l3
              generalize bstr cur[m] = Y at *
              generalize bstr x = X at *
              clear hl
              go_wp2_with fail
              go_quiet (fail)
              go_wp2
              go_meet
              exact ⟨m + 1, by first | rfl | go_num, ⟨by omega, HP0.out⟩, drewN_below HBX.out _⟩
            · rw [decide_eq_false hl] at l1
              have HAL := Bx.mk (show ∀ i (h : i < cur.length), m ≤ i → ¬ cur[i] < x from fun i h hi => by
                rcases HCM.out i h hi with q | q
                · subst q; exact hl
                · exact hall.out i h q)
              by_cases h2 : x < cur[m]
              · rw [decide_eq_true h2] at l2
                rw [decide_eq_false (fun e => by rw [e] at h2; exact List.lt_irrefl _ h2)] at l3
                generalize bstr cur[m] = Y at *
                generalize bstr x = X at *
                clear hl h2
                go_wp2_with fail
                go_quiet (fail)
                go_wp2
                go_roundw
                case rel => exact ⟨m, by omega, HAL, by go_num, drewN_below HBX.out _⟩
                case measure => simp [intOf]; try omega
              · rw [decide_eq_false h2] at l2
                rw [decide_eq_true (eqB hl h2)] at l3
                generalize bstr cur[m] = Y at *
                generalize bstr x = X at *
                clear hl h2
                go_wp2_with fail
                go_quiet (fail)
                go_wp2
                go_roundw
                case rel => exact ⟨m, by omega, HAL, by go_num, drewN_below HBX.out _⟩
                case measure => simp [intOf]; try omega
      case rest =>
        obtain ⟨pl, rfl, hpl, hbc⟩ := hcut
        obtain ⟨F, hF⟩ : ∃ F, F = decide (∃ h : pl < cur.length, cur[pl] = x) := ⟨_, rfl⟩
        have HF := Bx.mk hF
        have HBC := Bx.mk hbc
        clear hF
        go_upto_region 8 with fail
        go_cut [44] (fun c wx => c = .bool F ∧ Below wr.heap.size wr wx)
        case first =>
          have hxw := HXL.out _ hbc
          by_cases hpc : pl < cur.length
          · obtain ⟨g1, rfl, hcj⟩ := HC.out _ hbc pl hpc
            have l3 := same_bytes cur[pl] x
            have t1 : decide (pl < cur.length) = true := decide_eq_true hpc
            have t2 : decide ((pl : Int) < (cur.length : Nat)) = true := decide_eq_true (by omega)
            by_cases e : cur[pl] = x
            · rw [decide_eq_true e] at l3
              have HFF := Bx.mk (show F = true by rw [HF.out]; exact decide_eq_true ⟨hpc, e⟩)
              generalize bstr cur[pl] = Y at *
              generalize bstr x = X at *
              clear e hbc
              go_wp2_with fail
              go_quiet (fail)
              go_wp2
              go_meet
              exact ⟨by rw [HFF.out], drewN_below HBC.out _⟩
            · rw [decide_eq_false e] at l3
              have HFF := Bx.mk (show F = false by rw [HF.out]; exact decide_eq_false fun ⟨_, h⟩ => e h)
              generalize bstr cur[pl] = Y at *
              generalize bstr x = X at *
              clear e hbc
              go_wp2_with fail
              go_quiet (fail)
              go_wp2
              go_meet
              exact ⟨by rw [HFF.out], drewN_below HBC.out _⟩
          · have t1 : decide (pl < cur.length) = false := decide_eq_false hpc
            have t2 : decide ((pl : Int) < (cur.length : Nat)) = false := decide_eq_false (by omega)
            have HFF := Bx.mk (show F = false by rw [HF.out]; exact decide_eq_false fun ⟨h, _⟩ => hpc h)
            clear hbc
            go_wp2_with fail
            go_quiet (fail)
            go_wp2
            go_meet
            exact ⟨by rw [HFF.out], drewN_below HBC.out _⟩
        case rest =>
          obtain ⟨rfl, hbd⟩ := hcut
          clear hbc HBC
          cases F with
          | true =>
            have HNEW := Bx.mk (show cur = setB (l.take (k + 1)) by rw [HSN.out, hpl.out.2.1 (of_decide_eq_true HF.out.symm)])
            have HO4 := Bx.mk (HOWN.out.below hbd)
            have HB4 := Bx.mk (HBW.out.trans (hbd.mono HBW.out.size))
            clear hbd
            go_wp2_with fail
            go_roundw
            case rel => exact ⟨k + 1, cur, by omega, by go_num, HO4.out, HNEW, HB4.out⟩
            case measure => simp [intOf]; omega
          | false =>
            have HIN := Bx.mk (hpl.out.2.2 (of_decide_eq_false HF.out.symm))
            obtain ⟨W0, hW0⟩ : ∃ W0, W0 = wc := ⟨_, rfl⟩
            have hoc := HOWN.out.below hbd
            obtain ⟨u1, hu1, hr1⟩ := hoc.rd.upto (P := Try.prog) (T := 35) encS_ok und_strs' size_strs pl hpl.out.1
            obtain ⟨u2, hu2, hr2⟩ := hoc.rd.rest (P := Try.prog) (T := 35) encS_ok und_strs' size_strs pl hpl.out.1
            have HU1 := Bx.mk hu1
            have HU2 := Bx.mk hu2
            have HR1 := Bx.mk hr1
            have HR2 := Bx.mk hr2
            have HPC := Bx.mk hpl.out.1
            have HXX := Bx.mk (show ∀ (W : World), Below wc.heap.size wc W → W.cell? ⟨b, o + k, none⟩ = some (.string (bstr x)) from fun W hW => HXL.out W (hbd.trans (hW.mono hbd.size)))
            have HBF := Bx.mk (HBW.out.trans (hbd.mono HBW.out.size))
            clear hoc hu1 hu2 hr1 hr2 hbd hpl hW0 hcl
            go_upto_region 9 with fail
            refine wp_region_factsV 14 SrFC (· == 10) (SrF wc (.slice oa cur.length oc) u1 u2 pl cur x (.slice (some ⟨b, o, none⟩) N lc) (.int .i64 k) b (o + k)) (by kernel_rfl) (by kernel_rfl) (by rfl) (SrF.stable wc _ u1 u2 pl cur x _ (.int .i64 k) b (o + k)) ?_ ?_ ?_
            · intro q oq j v d w1 w2 hb hoq hd hc hne hj h _
              obtain rfl : q = 10 := by simpa using hb
              simp only [List.getElem?_cons_succ, List.getElem?_cons_zero, Option.some.injEq] at hoq
              subst hoq
              have h4 := hd ⟨4, .data⟩ (by simp) rfl
              exact SrF.big wc _ u1 u2 pl cur x _ (.int .i64 k) b (o + k) d j v w1 w2 h4 hc hne hj h
            · intro i o hi9 ho9 xs w1 hb hd
              have hcs : i = 0 ∨ i = 1 ∨ i = 2 ∨ i = 3 ∨ i = 4 ∨ i = 5 ∨ i = 6 ∨ i = 7 ∨ i = 8 ∨ i = 9 ∨ i = 10 ∨ i = 11 ∨ i = 12 ∨ i = 13 := by omega
              simp only [List.take_succ_cons, List.take_zero, putFrom, Act.put, List.setIfInBounds_toArray, List.set_cons_succ, List.set_cons_zero, Nat.zero_add, Nat.reduceAdd]
              have HBB := Bx.mk hb
              have HTL := Bx.mk (show (cur.take pl).length ≤ 100000 by have h1 := HCLN.out; rw [List.length_take]; omega)
              clear hb
              rcases hcs with rfl | rfl | rfl | rfl | rfl | rfl | rfl | rfl | rfl | rfl | rfl | rfl | rfl | rfl
              all_goals
                simp only [List.getElem?_cons_succ, List.getElem?_cons_zero, Option.some.injEq] at ho9
                subst ho9
                simp [NeedsB, Region.binds, SrF, SrFC] at hd
              all_goals clear hi9
              · have HS := Bx.mk HBB.out.size
                go_wp2_with fail
                exact ⟨rfl, rfl, ⟨_, rfl, heap_alloc_new _ _, HS.out⟩, (Below.refl _ _).alloc (Nat.le_refl _) _⟩
              · go_wp2_with fail
                exact ⟨rfl, rfl, rfl, Below.refl _ _⟩
              · go_wp2_with fail
                exact ⟨rfl, rfl, rfl, Below.refl _ _⟩
              · obtain ⟨hd1, hd2⟩ := hd
                have hu1 := HU1.out
                go_wp2_with fail
                exact ⟨rfl, rfl, rfl, Below.refl _ _⟩
              · obtain ⟨⟨g0, h0, hg0, hl0⟩, h3⟩ := hd
                have hsr := (HR1.out.below HBB.out).src encS_ok
                rw [← h3] at hsr
                have hsz := HBB.out.size
                clear h3
                go_wp2_with (at_builtin; refine wpList_append_fresh rfl _ _ _ rfl wc.heap.size 9 i0 _ 1 16 und_strs hi0 hz0 hz1 hz2 rfl (by decide) g0 h0 hg0 hl0 hsz (xs 3) (cur.take pl).length ((cur.take pl).flatMap encS) rfl hsr ?ap1 ?ap2 ?_)
                case ap1 => have := HTL.out; unfold maxLen; omega
                case ap2 => have := HTL.out; omega
                intro v' w4 hown hb4 _
                have HO4 := Bx.mk (Own.of (l := cur.take pl) hown (by have := HPC.out; simp; try omega) rfl)
                have HB4 := Bx.mk hb4
                clear hown hb4 hsr hsz
                go_wp2_with fail
                exact ⟨rfl, rfl, HO4.out, HB4.out⟩
              · go_wp2_with fail
                exact ⟨rfl, rfl, rfl, Below.refl _ _⟩
              · go_wp2_with fail
                exact ⟨rfl, rfl, rfl, Below.refl _ _⟩
              · obtain ⟨hd1, hd2⟩ := hd
                go_wp2_with fail
                exact ⟨rfl, rfl, rfl, Below.refl _ _⟩
              · have y0 := HXX.out _ HBB.out
                go_wp2_with fail
                exact ⟨rfl, rfl, rfl, Below.refl _ _⟩
              · go_wp2_with fail
                exact ⟨rfl, rfl, ⟨_, rfl, by rw [heap_alloc_new]; rfl⟩, (Below.refl _ _).alloc (Nat.le_refl _) _⟩
              · obtain ⟨hd1, ⟨g5, h5, hb5⟩, -⟩ := hd
                have hsr : SrcV w1 1 (.slice (some ⟨g5, 0, none⟩) 1 1) 1 ([x].flatMap encS) := src_new encS_ok hb5
                rw [← h5] at hsr
                have hsz := HBB.out.size
                have hd1' : w1.ownsRow wc.heap.size 9 1 (xs 4) (cur.take pl).length ((cur.take pl).flatMap encS) := hd1
                have HD1 := Bx.mk hd1
                clear h5 hb5 hd1
                go_wp2_with (at_builtin; refine wpList_append_any rfl _ _ _ rfl wc.heap.size 9 i0 _ 1 16 und_strs hi0 hz0 hz1 hz2 rfl (by decide) _ (cur.take pl).length ((cur.take pl).flatMap encS) rfl hd1' _ 1 ([x].flatMap encS) rfl hsr ?bp1 ?bp2 hsz ?_)
                case bp1 => have := HTL.out; unfold maxLen; omega
                case bp2 => have := HTL.out; omega
                intro v' w4 ha
                have HO4 := Bx.mk (Own.apd (m := [x]) HD1.out (by simp) (by simp) (by have := HPC.out; simp; try omega) (by simp) ha)
                have HB4 := Bx.mk ((Below.refl wc.heap.size w1).grown ha.grown HBB.out.size fun k hk => (HD1.out.lt k hk).1)
                clear ha hsr hsz hd1'
                go_wp2_with fail
                exact ⟨rfl, rfl, HO4.out, HB4.out⟩
              · go_wp2_with fail
                exact ⟨rfl, rfl, rfl, Below.refl _ _⟩
              · go_wp2_with fail
                exact ⟨rfl, rfl, rfl, Below.refl _ _⟩
              · obtain ⟨hd1, hd2⟩ := hd
                have hu2 := HU2.out
                go_wp2_with fail
                exact ⟨rfl, rfl, rfl, Below.refl _ _⟩
            · intro xs w1 hb hf
              have f1 := hf 1 (by omega) (fun c hc => by cases hc)
              have f2 := hf 2 (by omega) (fun c hc => by cases hc)
              have f3 := hf 3 (by omega) (fun c hc => by cases hc)
              have f5 := hf 5 (by omega) (fun c hc => by cases hc)
              have f6 := hf 6 (by omega) (fun c hc => by cases hc)
              have f7 := hf 7 (by omega) (fun c hc => by cases hc)
              have f8 := hf 8 (by omega) (fun c hc => by cases hc)
              have f10 := hf 10 (by omega) (fun c hc => by cases hc)
              have f11 := hf 11 (by omega) (fun c hc => by cases hc)
              have f12 := hf 12 (by omega) (fun c hc => by cases hc)
              have f13 := hf 13 (by omega) (fun c hc => by cases hc)
              simp only [SrF] at f1 f2 f3 f5 f6 f7 f8 f10 f11 f12 f13
              have HBB := Bx.mk hb
              have HO := Bx.mk f10
              clear hf f10 hb
              simp only [List.take_succ_cons, List.take_zero, List.drop_succ_cons, List.drop_zero, putFrom, Act.put, List.setIfInBounds_toArray, List.set_cons_succ, List.set_cons_zero, Nat.zero_add, Nat.reduceAdd, f1, f2, f3, f5, f6, f7, f8, f11, f12, f13]
              clear f1 f2 f3 f5 f6 f7 f8 f11 f12 f13
              generalize xs 0 = X0 at *
              generalize xs 4 = X4 at *
              generalize xs 9 = X9 at *
              generalize hX10 : xs 10 = X10 at *
              clear hX10 xs
              have hsr := (HR2.out.below HBB.out).src encS_ok
              have hsz := HBB.out.size
              have HLL := Bx.mk (show (cur.take pl ++ [x]).length + (cur.drop pl).length ≤ 200000 by have h1 := HCLN.out; simp; omega)
              have hd1' : w1.ownsRow wc.heap.size 9 1 X10 (cur.take pl ++ [x]).length ((cur.take pl ++ [x]).flatMap encS) := HO.out
              have HNEW := Bx.mk (show cur.take pl ++ [x] ++ cur.drop pl = setB (l.take (k + 1)) by rw [HSN.out, HIN.out]; simp)
              generalize hA : cur.take pl ++ [x] = A at *
              generalize hD : cur.drop pl = D at *
              clear hA hD
              go_wp2_with (at_builtin; refine wpList_append_any rfl _ _ _ rfl wc.heap.size 9 i0 _ 1 16 und_strs hi0 hz0 hz1 hz2 rfl (by decide) _ A.length (A.flatMap encS) rfl hd1' _ D.length (D.flatMap encS) rfl hsr ?cp1 ?cp2 hsz ?_)
              case cp1 => have := HLL.out; unfold maxLen; omega
              case cp2 => have := HLL.out; omega
              intro v' w4 ha
              have HO4 := Bx.mk ((Own.apd (m := D) HO.out rfl rfl rfl rfl ha).mono HBF.out.size)
              have HB4 := Bx.mk (HBF.out.trans ((HBB.out.grown ha.grown HBB.out.size fun k hk => (HO.out.lt k hk).1).mono HBF.out.size))
              clear ha hsr hsz hd1'
              go_wp2
              go_roundw
              case rel => exact ⟨k + 1, A ++ D, by omega, by go_num, HO4.out, HNEW, HB4.out⟩
              case measure => simp [intOf]; omega
    · obtain rfl : k = N := by omega
      have HCU := Bx.mk hcu.out
      clear hown hbw hcu
      go_wp2_with fail
      go_ret
      exact ⟨_, rfl, by rw [show setB l = cur by rw [HCU.out, HN.out, List.take_length]]; exact HOWN.out, HBW.out⟩
end Go.Proofs.Ytmagjdocondmhaa.Tr

namespace Go.Proofs.Ytmagjdocondmhaa.Tr
open Go Go.RowKit Go.Proofs.Ytmagjdocondmhaa.Slc Go.Proofs.Ytmagjdocondmhaa.St
set_option linter.unusedVariables false
set_option linter.unusedSimpArgs false
attribute [local go_sem] Oper.semAt_some

theorem ins_at {α : Type} {lt : α → α → Bool} (O : Ord lt) (x : α) : ∀ (l : List α) (j : Nat), Srt lt l → j ≤ l.length → (∀ i (h : i < l.length), j ≤ i → lt x l[i] = true) → (∀ (h : j - 1 < l.length), 0 < j → lt x l[j - 1] = false) → St.ins (lt := lt) x l = l.take j ++ x :: l.drop j
  | [], j, _, hj, _, _ => by
    obtain rfl : j = 0 := by simpa using hj
    rfl
  | y :: l, 0, ha, hj, h1, h2 => by
    have hy : lt x y = true := h1 0 (by simp) (by omega)
    unfold St.ins
    rw [if_pos hy]; rfl
  | y :: l, j + 1, ha, hj, h1, h2 => by
    have hj' : j ≤ l.length := by simpa using hj
    rw [Srt, List.pairwise_cons] at ha
    have e : ∀ (h : 0 < j) (h' : j - 1 < l.length), (y :: l)[j + 1 - 1]'(by simp; omega) = l[j - 1] := fun h h' => by
      have : j + 1 - 1 = (j - 1) + 1 := by omega
      simp only [this, List.getElem_cons_succ]
    have hyx : lt x y = false := by
      rcases Nat.eq_zero_or_pos j with q | q
      · subst q; exact h2 (by simp) (by omega)
      · have h3 : lt x (l[j - 1]'(by omega)) = false := by
          have := h2 (by simp; omega) (by omega)
          rw [e q (by omega)] at this; exact this
        exact O.co _ _ _ h3 (ha.1 _ (List.getElem_mem _))
    have ih := ins_at O x l j ha.2 hj' (fun i hi hji => by have := h1 (i + 1) (by simp; omega) (by omega); simpa using this) (fun hi h0 => by
      have := h2 (by simp; omega) (by omega)
      rw [e h0 hi] at this; exact this)
    unfold St.ins
    rw [if_neg (by rw [hyx]; simp), ih]; rfl
/-- the facts of the insertion's region -/
def InF (W0 : World) (sv u1 u2 : Value) (p : Nat) (cur : List Nt) (x : Nt) : Nat → Value → World → Prop
  | 0, v, w => ∃ g, v = .slice (some ⟨g, 0, none⟩) 0 0 ∧ w.heap[g]? = some (.cells #[] 56 (0, 0)) ∧ W0.heap.size ≤ g
  | 1, v, _ => v = sv
  | 2, v, _ => v = .int .i64 p
  | 3, v, _ => v = u1
  | 4, v, w => Slc.Own w W0.heap.size 56 4 encN v (cur.take p)
  | 5, v, _ => v = .agg #[.int .i64 x.n.d, .int .i64 x.n.p, .string (bstr x.n.pol), .slice x.u.ad x.u.n x.u.c]
  | 6, v, w => ∃ g : Nat, v = .slice (some ⟨g, 0, none⟩) 1 1 ∧ w.heap[g]? = some (.cells (encN x).toArray 56 (0, 0))
  | 7, v, w => Slc.Own w W0.heap.size 56 4 encN v (cur.take p ++ [x])
  | 8, v, _ => v = sv
  | 9, v, _ => v = .int .i64 p
  | 10, v, _ => v = u2
  | _, _, _ => True
theorem InF.stable (W0 : World) (sv u1 u2 : Value) (p : Nat) (cur : List Nt) (x : Nt) (i : Nat) (v : Value) (w w' : World) (h : InF W0 sv u1 u2 p cur x i v w) (hb : Below w.heap.size w w') : InF W0 sv u1 u2 p cur x i v w' := by
  match i with
  | 1 | 2 | 3 | 5 | 8 | 9 | 10 => exact h
  | 0 => obtain ⟨g, h1, h2, h3⟩ := h; exact ⟨g, h1, (hb.block g (lt_of_some h2)).trans h2, h3⟩
  | 4 => exact Slc.Own.below (t := 56) h hb
  | 6 => obtain ⟨g, h1, h2⟩ := h; exact ⟨g, h1, (hb.block g (lt_of_some h2)).trans h2⟩
  | 7 => exact Slc.Own.below (t := 56) h hb
  | _ + 11 => exact trivial
def InFC : Nat → Option Nat
  | 0 => some 4
  | 4 => some 7
  | 6 => some 7
  | _ => none
theorem InF.big (W0 : World) (sv u1 u2 : Value) (p : Nat) (cur : List Nt) (x : Nt) (d : Nat → Bool) (j : Nat) (v : Value) (w w' : World) (h4 : d 4 = true) (hc : ∀ q, InFC j = some q → mark d 7 q = false) (hne : j ≠ 7) (hj : j < 11) (h : InF W0 sv u1 u2 p cur x j v w) : InF W0 sv u1 u2 p cur x j v w' := by
  match j with
  | 1 | 2 | 3 | 5 | 8 | 9 | 10 => exact h
  | 0 => have := hc 4 rfl; simp [mark, h4] at this
  | 4 => have := hc 7 rfl; simp [mark] at this
  | 6 => have := hc 7 rfl; simp [mark] at this
  | 7 => exact absurd rfl hne
  | _ + 11 => omega
theorem ltT_top {x y : Nd} (h : y.d ≤ x.d) : ltT x y = (decide (y.d = x.d) && (decide (x.p < y.p) || (decide (y.p = x.p) && decide (x.pol < y.pol)))) := by
  rw [Bool.eq_iff_iff, ltT_iff]
  simp only [Bool.and_eq_true, Bool.or_eq_true, decide_eq_true_eq]
  constructor
  · rintro (h1 | ⟨h1, h2 | ⟨h2, h3⟩⟩)
    · omega
    · exact ⟨h1.symm, .inl h2⟩
    · exact ⟨h1.symm, .inr ⟨h2.symm, h3⟩⟩
  · rintro ⟨h1, h2 | ⟨h2, h3⟩⟩
    · exact .inr ⟨h1.symm, .inl h2⟩
    · exact .inr ⟨h1.symm, .inr ⟨h2.symm, h3⟩⟩
theorem TO.of {w w' : World} {Bk : Nat} {v : Value} {l : List Nt} (h : Slc.Own w' Bk 56 4 encN v l) (hB : w.heap.size ≤ Bk) (hb : Below w.heap.size w w') (hx : ∀ x ∈ l, NtAt w x) : TO w' w.heap.size v l :=
  ⟨h.mono hB, fun x hxl => ((NtIn.of (hx x hxl)).keep hb.size fun k hk _ => hb.block k hk).mono fun k _ hk e => by have := (h.lt k e).1; omega⟩
set_option maxHeartbeats 4000000 in
set_option maxRecDepth 20000 in
theorem rinsert_any (w : World) (v : Value) (l : List Nt) (x : Nt) (h : TL w v l) (hx : NtAt w x) (hn : l.length ≤ 100000) (hs : Srt ltT (nds l)) (hd : ∀ n ∈ nds l, n.d ≤ x.n.d) :
    Calls Try.prog 44 #[v, nodV x] w fun e w' => ∃ v' l', e = .returned v' ∧ TO w' w.heap.size v' l' ∧ nds l' = St.ins (lt := ltT) x.n (nds l) ∧ Below w.heap.size w w' := by
  obtain ⟨i0, hi0, hz0, hz1, hz2⟩ := info_parts info_node
  obtain ⟨ad, lc, rfl, -⟩ := h.rd.form
  unfold nodV
  simp only [Sl.val]
  have HL := Bx.mk h
  have HX := Bx.mk hx
  have HC := Bx.mk (fun W hW k hk => h.at4 W hW k hk)
  have HSRT := Bx.mk hs
  have HDD := Bx.mk hd
  obtain ⟨N, hN⟩ : ∃ N, N = l.length := ⟨_, rfl⟩
  have HN := Bx.mk hN
  rw [← hN] at hn ⊢
  obtain ⟨bx, hbx⟩ : ∃ bx, bx = w.heap.size := ⟨_, rfl⟩
  obtain ⟨W0, hW0⟩ : ∃ W0, W0 = w.alloc (.cells #[.int .i64 x.n.d, .int .i64 x.n.p, .string (bstr x.n.pol), .slice x.u.ad x.u.n x.u.c] 56) := ⟨_, rfl⟩
  have HB0 := Bx.mk (show Below w.heap.size w W0 by rw [hW0]; exact (Below.refl _ _).alloc (Nat.le_refl _) _)
  have HR0 := Bx.mk (show W0.heap[bx]? = some (.cells #[.int .i64 x.n.d, .int .i64 x.n.p, .string (bstr x.n.pol), .slice x.u.ad x.u.n x.u.c] 56 (0, 0)) by rw [hW0, hbx]; exact heap_alloc_new _ _)
  have HBX := Bx.mk hbx
  clear h hx hs hd hN
  go_enter Try.func44, Try.ntmps44
  go_upto_block 0 with fail
  rw [← hW0, ← hbx]
  clear hW0 hbx
  have HX4 := Bx.mk (show ∀ (W : World), Below W0.heap.size W0 W → W.heap[bx]? = some (.cells #[.int .i64 x.n.d, .int .i64 x.n.p, .string (bstr x.n.pol), .slice x.u.ad x.u.n x.u.c] 56 (0, 0)) from fun W hW => (hW.block _ (lt_of_some HR0.out)).trans HR0.out)
  go_cut [5] (fun s5 wx => ∃ pl : Nat, s5 = .int .i64 (pl : Int) ∧ Bx (pl ≤ N ∧ St.ins (lt := ltT) x.n (nds l) = (nds l).take pl ++ x.n :: (nds l).drop pl) ∧ Below W0.heap.size W0 wx)
  case first =>
    go_wp2_with fail
    go_loopw [5] (fun i wx => ∃ j : Nat, j ≤ N ∧ Bx (∀ i (h : i < (nds l).length), j ≤ i → ltT x.n (nds l)[i] = true) ∧ i = .int .i64 (j : Int) ∧ Below W0.heap.size W0 wx) (fun i _ => (intOf i).toNat)
    case atStart => exact ⟨N, Nat.le_refl _, ⟨fun i h hi => by rw [nds_len] at h; have := HN.out; omega⟩, rfl, Below.refl _ _⟩
    case round =>
      obtain ⟨j, hj, hall, rfl, hbx⟩ := hrel
      have HBW := Bx.mk hbx
      have hrow := HX4.out _ hbx
      have e0 := cell_of_row _ _ 0 _ _ _ hrow
      have e1 := cell_of_row _ _ 1 _ _ _ hrow
      have e2 := cell_of_row _ _ 2 _ _ _ hrow
      simp only [List.getElem?_toArray, List.getElem?_cons_zero, List.getElem?_cons_succ] at e0 e1 e2
      cases j with
      | zero =>
        have HP0 := Bx.mk (ins_at ltT_ord x.n (nds l) 0 HSRT.out (by omega) hall.out (fun h h2 => by omega))
        have t0 : decide (0 < ((0 : Nat) : Int)) = false := rfl
        clear hbx hrow
        go_wp2_with fail
        go_quiet (fail)
        go_wp2
        go_meet
        exact ⟨0, rfl, ⟨by omega, HP0.out⟩, drewN_below HBW.out _⟩
      | succ m =>
        have hml : m < l.length := by rw [← HN.out]; omega
        have hmN : m < N := by omega
        obtain ⟨b, o, rfl, c0, c1, c2, c3⟩ := HC.out wr (HB0.out.trans (hbx.mono HB0.out.size)) m hml
        have HCM := Bx.mk (show ∀ i (h : i < (nds l).length), m ≤ i → i = m ∨ m + 1 ≤ i from fun i h hi => by omega)
        have hyd : (nds l)[m]!.d ≤ x.n.d := HDD.out _ (mem_at.2 ⟨m, by rw [nds_len]; exact hml, rfl⟩)
        have HLT := Bx.mk (ltT_top hyd)
        have HGE := Bx.mk (show (nds l)[m]! = (nds l)[m]'(by rw [nds_len]; exact hml) from getElem!_pos _ _ _)
        have HYES := Bx.mk (show ltT x.n (nds l)[m]! = true → ∀ i (h : i < (nds l).length), m ≤ i → ltT x.n (nds l)[i] = true from fun h0 i h hi => by
          rcases HCM.out i h hi with q | q
          · subst q; rw [← HGE.out]; exact h0
          · exact hall.out i h q)
        have HNO := Bx.mk (show ltT x.n (nds l)[m]! = false → St.ins (lt := ltT) x.n (nds l) = (nds l).take (m + 1) ++ x.n :: (nds l).drop (m + 1) from fun h0 => ins_at ltT_ord x.n (nds l) (m + 1) HSRT.out (by rw [nds_len]; omega) hall.out (fun h h2 => by
          rw [HGE.out] at h0; simpa using h0))
        have l2 := less_bytes x.n.pol (nds l)[m]!.pol
        obtain ⟨y, hy⟩ : ∃ y, y = (nds l)[m]! := ⟨_, rfl⟩
        rw [← hy] at c0 c1 c2 l2 HLT HYES HNO hyd
        have wj : IntKind.i64.wrap (((m + 1 : Nat) : Int) - 1) = (m : Int) := by rw [IntWalk.i64_in _ (by omega)]; omega
        have ej : ((m : Int) + 1).toNat = m + 1 := by omega
        clear hbx hrow hy hyd c3 HGE
        have l1 := less_bytes y.pol x.n.pol
        have l3 := same_bytes y.pol x.n.pol
        obtain ⟨Y, hY⟩ : ∃ Y, Y = bstr y.pol := ⟨_, rfl⟩
        obtain ⟨X, hX⟩ : ∃ X, X = bstr x.n.pol := ⟨_, rfl⟩
        rw [← hY] at c2 l2 l1 l3
        rw [← hX] at e2 l2 l1 l3
        obtain ⟨PG, hPG⟩ : ∃ PG, PG = decide (x.n.pol < y.pol) := ⟨_, rfl⟩
        rw [← hPG] at l2 HLT
        have HPG := Bx.mk hPG
        have HL1 := Bx.mk l1
        have HL2 := Bx.mk l2
        have HL3 := Bx.mk l3
        clear hY hX hPG l1 l2 l3
        by_cases td : y.d = x.n.d
        · have tE : (y.d == x.n.d) = true := by simpa using td
          have tE2 : decide (y.d = x.n.d) = true := decide_eq_true td
          rw [tE2] at HLT
          clear tE2
          by_cases tp : x.n.p < y.p
          · have tP : decide (y.p > x.n.p) = true := decide_eq_true tp
            have tP2 : decide (x.n.p < y.p) = true := decide_eq_true tp
            have HF := Bx.mk (HYES.out (by rw [HLT.out, tP2]; rfl))
            clear td
            go_wp2_with fail
            go_quiet (fail)
            go_wp2
            go_roundw
            case rel => exact ⟨m, by omega, ⟨HF.out⟩, by go_num, drewN_below HBW.out _⟩
            case measure => simp [intOf]; try omega
          · have tP : decide (y.p > x.n.p) = false := decide_eq_false tp
            have tP2 : decide (x.n.p < y.p) = false := decide_eq_false tp
            rw [tP2] at HLT
            by_cases tq : y.p = x.n.p
            · have tQ : (y.p == x.n.p) = true := by simpa using tq
              rw [decide_eq_true tq] at HLT
              have l1 := HL1.out
              have l2 := HL2.out
              have l3 := HL3.out
              cases PG with
              | true =>
                have hlt := of_decide_eq_true HPG.out.symm
                rw [decide_eq_false (List.lt_asymm hlt)] at l1
                rw [decide_eq_false (fun e => by rw [e] at hlt; exact List.lt_irrefl _ hlt)] at l3
                have HF := Bx.mk (HYES.out (by rw [HLT.out]; rfl))
                clear td tq hlt
                go_wp2_with fail
                go_quiet (fail)
                go_wp2
                go_roundw
                case rel => exact ⟨m, by omega, ⟨HF.out⟩, by go_num, drewN_below HBW.out _⟩
                case measure => simp [intOf]; try omega
              | false =>
                have hlt := of_decide_eq_false HPG.out.symm
                have HF := Bx.mk (HNO.out (by rw [HLT.out]; rfl))
                by_cases hyx : y.pol < x.n.pol
                · rw [decide_eq_true hyx] at l1
                  rw [decide_eq_false (fun e => by rw [e] at hyx; exact List.lt_irrefl _ hyx)] at l3
                  clear td tq hlt hyx
                  go_wp2_with fail
                  go_quiet (fail)
                  go_wp2
                  go_meet
                  exact ⟨m + 1, by first | rfl | go_num, ⟨by omega, HF.out⟩, drewN_below HBW.out _⟩
                · rw [decide_eq_false hyx] at l1
                  rw [decide_eq_true (eqB hyx hlt)] at l3
                  clear td tq hlt hyx
                  go_wp2_with fail
                  go_quiet (fail)
                  go_wp2
                  go_meet
                  exact ⟨m + 1, by first | rfl | go_num, ⟨by omega, HF.out⟩, drewN_below HBW.out _⟩
            · have tQ : (y.p == x.n.p) = false := by simpa using tq
              have HF := Bx.mk (HNO.out (by rw [HLT.out, decide_eq_false tq]; rfl))
              clear td
              go_wp2_with fail
              go_quiet (fail)
              go_wp2
              go_meet
              exact ⟨m + 1, by first | rfl | go_num, ⟨by omega, HF.out⟩, drewN_below HBW.out _⟩
        · have tE : (y.d == x.n.d) = false := by simpa using td
          have HF := Bx.mk (HNO.out (by rw [HLT.out, decide_eq_false td]; rfl))
          go_wp2_with fail
          go_quiet (fail)
          go_wp2
          go_meet
          exact ⟨m + 1, by first | rfl | go_num, ⟨by omega, HF.out⟩, drewN_below HBW.out _⟩
  case rest =>
    obtain ⟨pl, rfl, hpl, hbc⟩ := hcut
    have hw : Below w.heap.size w wc := HB0.out.trans (hbc.mono HB0.out.size)
    have hoc := HL.out.rd.below hw
    rw [← HN.out] at hoc
    have hpn : pl ≤ l.length := by rw [← HN.out]; exact hpl.out.1
    obtain ⟨u1, hu1, hr1⟩ := hoc.upto (P := Try.prog) (T := 23) encN_ok und_nodes' size_nodes pl hpn
    obtain ⟨u2, hu2, hr2⟩ := hoc.rest (P := Try.prog) (T := 23) encN_ok und_nodes' size_nodes pl hpn
    have HU1 := Bx.mk hu1
    have HU2 := Bx.mk hu2
    have HR1 := Bx.mk hr1
    have HR2 := Bx.mk hr2
    have HPC := Bx.mk hpn
    have HINS := Bx.mk hpl.out.2
    have HBF := Bx.mk hw
    have HX5 := Bx.mk (show ∀ (W : World), Below wc.heap.size wc W → W.heap[bx]? = some (.cells #[.int .i64 x.n.d, .int .i64 x.n.p, .string (bstr x.n.pol), .slice x.u.ad x.u.n x.u.c] 56 (0, 0)) from fun W hW => HX4.out W (hbc.trans (hW.mono hbc.size)))
    clear hoc hu1 hu2 hr1 hr2 hbc hpl hw hpn
    go_upto_region 4 with fail
    refine wp_region_factsV 11 InFC (· == 7) (InF wc (.slice ad N lc) u1 u2 pl l x) (by kernel_rfl) (by kernel_rfl) (by rfl) (InF.stable wc _ u1 u2 pl l x) ?_ ?_ ?_
    · intro q oq j v d w1 w2 hb hoq hd hc hne hj h _
      obtain rfl : q = 7 := by simpa using hb
      simp only [List.getElem?_cons_succ, List.getElem?_cons_zero, Option.some.injEq] at hoq
      subst hoq
      have h4 := hd ⟨4, .data⟩ (by simp) rfl
      exact InF.big wc _ u1 u2 pl l x d j v w1 w2 h4 hc hne hj h
    · intro i o hi9 ho9 xs w1 hb hd
      have hcs : i = 0 ∨ i = 1 ∨ i = 2 ∨ i = 3 ∨ i = 4 ∨ i = 5 ∨ i = 6 ∨ i = 7 ∨ i = 8 ∨ i = 9 ∨ i = 10 := by omega
      simp only [List.take_succ_cons, List.take_zero, putFrom, Act.put, List.setIfInBounds_toArray, List.set_cons_succ, List.set_cons_zero, Nat.zero_add, Nat.reduceAdd]
      have HBB := Bx.mk hb
      have HTL := Bx.mk (show (l.take pl).length ≤ 100000 by have h1 := HN.out; rw [List.length_take]; omega)
      clear hb
      rcases hcs with rfl | rfl | rfl | rfl | rfl | rfl | rfl | rfl | rfl | rfl | rfl
      all_goals
        simp only [List.getElem?_cons_succ, List.getElem?_cons_zero, Option.some.injEq] at ho9
        subst ho9
        simp [NeedsB, Region.binds, InF, InFC] at hd
      all_goals clear hi9
      · have HS := Bx.mk HBB.out.size
        go_wp2_with fail
        exact ⟨rfl, rfl, ⟨_, rfl, heap_alloc_new _ _, HS.out⟩, (Below.refl _ _).alloc (Nat.le_refl _) _⟩
      · go_wp2_with fail
        exact ⟨rfl, rfl, rfl, Below.refl _ _⟩
      · go_wp2_with fail
        exact ⟨rfl, rfl, rfl, Below.refl _ _⟩
      · obtain ⟨hd1, hd2⟩ := hd
        have hu1 := HU1.out
        go_wp2_with fail
        exact ⟨rfl, rfl, rfl, Below.refl _ _⟩
      · obtain ⟨⟨g0, h0, hg0, hl0⟩, h3⟩ := hd
        have hsr := (HR1.out.below HBB.out).src encN_ok
        rw [← h3] at hsr
        have hsz := HBB.out.size
        clear h3
        go_wp2_with (at_builtin; refine wpList_append_fresh rfl _ _ _ rfl wc.heap.size 56 i0 _ 4 56 und_nodes hi0 hz0 hz1 hz2 rfl (by decide) g0 h0 hg0 hl0 hsz (xs 3) (l.take pl).length ((l.take pl).flatMap encN) rfl hsr ?ap1 ?ap2 ?_)
        case ap1 => have := HTL.out; unfold maxLen; omega
        case ap2 => have := HTL.out; omega
        intro v' w4 hown hb4 _
        have HO4 := Bx.mk (Own.of (l := l.take pl) hown (by have := HPC.out; simp; try omega) rfl)
        have HB4 := Bx.mk hb4
        clear hown hb4 hsr hsz
        go_wp2_with fail
        exact ⟨rfl, rfl, HO4.out, HB4.out⟩
      · have hrow := HX5.out _ HBB.out
        have y0 := cell_of_row _ _ 0 _ _ _ hrow
        have y1 := cell_of_row _ _ 1 _ _ _ hrow
        have y2 := cell_of_row _ _ 2 _ _ _ hrow
        have y3 := cell_of_row _ _ 3 _ _ _ hrow
        simp only [List.getElem?_toArray, List.getElem?_cons_zero, List.getElem?_cons_succ] at y0 y1 y2 y3
        clear hrow
        go_wp2_with fail
        exact ⟨rfl, rfl, rfl, Below.refl _ _⟩
      · go_wp2_with fail
        exact ⟨rfl, rfl, ⟨_, rfl, by rw [heap_alloc_new]; rfl⟩, (Below.refl _ _).alloc (Nat.le_refl _) _⟩
      · obtain ⟨hd1, ⟨g5, h5, hb5⟩, -⟩ := hd
        have hsr : SrcV w1 4 (.slice (some ⟨g5, 0, none⟩) 1 1) 1 ([x].flatMap encN) := src_new encN_ok hb5
        rw [← h5] at hsr
        have hsz := HBB.out.size
        have hd1' : w1.ownsRow wc.heap.size 56 4 (xs 4) (l.take pl).length ((l.take pl).flatMap encN) := hd1
        have HD1 := Bx.mk hd1
        clear h5 hb5 hd1
        go_wp2_with (at_builtin; refine wpList_append_any rfl _ _ _ rfl wc.heap.size 56 i0 _ 4 56 und_nodes hi0 hz0 hz1 hz2 rfl (by decide) _ (l.take pl).length ((l.take pl).flatMap encN) rfl hd1' _ 1 ([x].flatMap encN) rfl hsr ?bp1 ?bp2 hsz ?_)
        case bp1 => have := HTL.out; unfold maxLen; omega
        case bp2 => have := HTL.out; omega
        intro v' w4 ha
        have HO4 := Bx.mk (Own.apd (m := [x]) HD1.out (by simp) (by simp) (by have := HPC.out; simp; try omega) (by simp) ha)
        have HB4 := Bx.mk ((Below.refl wc.heap.size w1).grown ha.grown HBB.out.size fun k hk => (HD1.out.lt k hk).1)
        clear ha hsr hsz hd1'
        go_wp2_with fail
        exact ⟨rfl, rfl, HO4.out, HB4.out⟩
      · go_wp2_with fail
        exact ⟨rfl, rfl, rfl, Below.refl _ _⟩
      · go_wp2_with fail
        exact ⟨rfl, rfl, rfl, Below.refl _ _⟩
      · obtain ⟨hd1, hd2⟩ := hd
        have hu2 := HU2.out
        go_wp2_with fail
        exact ⟨rfl, rfl, rfl, Below.refl _ _⟩
    · intro xs w1 hb hf
      have f1 := hf 1 (by omega) (fun c hc => by cases hc)
      have f2 := hf 2 (by omega) (fun c hc => by cases hc)
      have f3 := hf 3 (by omega) (fun c hc => by cases hc)
      have f5 := hf 5 (by omega) (fun c hc => by cases hc)
      have f7 := hf 7 (by omega) (fun c hc => by cases hc)
      have f8 := hf 8 (by omega) (fun c hc => by cases hc)
      have f9 := hf 9 (by omega) (fun c hc => by cases hc)
      have f10 := hf 10 (by omega) (fun c hc => by cases hc)
      simp only [InF] at f1 f2 f3 f5 f7 f8 f9 f10
      have HBB := Bx.mk hb
      have HO := Bx.mk f7
      clear hf f7 hb
      simp only [List.take_succ_cons, List.take_zero, List.drop_succ_cons, List.drop_zero, putFrom, Act.put, List.setIfInBounds_toArray, List.set_cons_succ, List.set_cons_zero, Nat.zero_add, Nat.reduceAdd, f1, f2, f3, f5, f8, f9, f10]
      clear f1 f2 f3 f5 f8 f9 f10
      generalize xs 0 = X0 at *
      generalize xs 4 = X4 at *
      generalize xs 6 = X6 at *
      generalize hX7 : xs 7 = X7 at *
      clear hX7 xs
      have hsr := (HR2.out.below HBB.out).src encN_ok
      have hsz := HBB.out.size
      have HLL := Bx.mk (show (l.take pl ++ [x]).length + (l.drop pl).length ≤ 200000 by have h1 := HN.out; simp; omega)
      have hd1' : w1.ownsRow wc.heap.size 56 4 X7 (l.take pl ++ [x]).length ((l.take pl ++ [x]).flatMap encN) := HO.out
      have HNEW := Bx.mk (show nds (l.take pl ++ [x] ++ l.drop pl) = St.ins (lt := ltT) x.n (nds l) by rw [HINS.out]; simp [nds, List.map_take, List.map_drop])
      have HMEM := Bx.mk (show ∀ y ∈ l.take pl ++ [x] ++ l.drop pl, NtAt w y from fun y hy => by
        rw [List.mem_append, List.mem_append, List.mem_singleton] at hy
        rcases hy with (hy | rfl) | hy
        · exact HL.out.at_ y (List.mem_of_mem_take hy)
        · exact HX.out
        · exact HL.out.at_ y (List.mem_of_mem_drop hy))
      generalize hA : l.take pl ++ [x] = A at *
      generalize hD : l.drop pl = D at *
      clear hA hD
      go_wp2_with (at_builtin; refine wpList_append_any rfl _ _ _ rfl wc.heap.size 56 i0 _ 4 56 und_nodes hi0 hz0 hz1 hz2 rfl (by decide) _ A.length (A.flatMap encN) rfl hd1' _ D.length (D.flatMap encN) rfl hsr ?cp1 ?cp2 hsz ?_)
      case cp1 => have := HLL.out; unfold maxLen; omega
      case cp2 => have := HLL.out; omega
      intro v' w4 ha
      have HO4 := Bx.mk (Own.apd (m := D) HO.out rfl rfl rfl rfl ha)
      have HB4 := Bx.mk (HBF.out.trans ((HBB.out.grown ha.grown HBB.out.size fun k hk => (HO.out.lt k hk).1).mono HBF.out.size))
      clear ha hsr hsz hd1'
      go_wp2
      go_ret
      exact ⟨_, A ++ D, rfl, TO.of HO4.out HBF.out.size HB4.out HMEM.out, HNEW.out, HB4.out⟩
end Go.Proofs.Ytmagjdocondmhaa.Tr
