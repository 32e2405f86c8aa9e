/-
  The law's small; made.Few.
-/
import Derived.Test.YtmagjdocondmhaaTrNod
namespace Go.Proofs.Ytmagjdocondmhaa.Tr
open Go Go.RowKit Go.Proofs.Ytmagjdocondmhaa.Slc Go.Proofs.Ytmagjdocondmhaa.St Go.Proofs.Ytmagjdocondmhaa.Mp
set_option linter.unusedVariables false
set_option linter.unusedSimpArgs false
attribute [local go_sem] Oper.semAt_some

theorem TR.cells {w : World} {ad : Option Addr} {n c : Nat} {l : List Nt} (h : TR w (.slice ad n c) l) : n = l.length ∧ ∀ (W : World), Below w.heap.size w W → ∀ k (hk : k < l.length), ∃ b o, ad = some ⟨b, o, none⟩ ∧ b < w.heap.size ∧ W.cell? ⟨b, o + k * 4, none⟩ = some (.int .i64 (l[k]).n.d) ∧ W.cell? ⟨b, o + k * 4 + 1, none⟩ = some (.int .i64 (l[k]).n.p) ∧ W.cell? ⟨b, o + k * 4 + 2, none⟩ = some (.string (bstr (l[k]).n.pol)) ∧ W.cell? ⟨b, o + k * 4 + 3, none⟩ = some (l[k]).u.val := by
  obtain ⟨ad', c', hv, -⟩ := h.rd.form
  simp only [Value.slice.injEq] at hv
  refine ⟨hv.2.1, fun W hW k hk => ?_⟩
  obtain ⟨b, o, c, hv', _, hlt, hc⟩ := h.rd.cells encN_ok (by omega)
  simp only [Value.slice.injEq] at hv'
  have q := hc W (fun k' hk' => hW.block k' (h.rd.lt k' hk')) k hk
  exact ⟨b, o, hv'.1, hlt, q 0 _ (by omega) rfl, q 1 _ (by omega) rfl, q 2 _ (by omega) rfl, q 3 _ (by omega) rfl⟩
def shortL (l : List B) : Bool := l.all fun b => decide (b.length ≤ 100)
def shortX (x : Nd) : Bool := shortL x.ex && decide (x.pol.length ≤ 100)
def sumX (l : List Nt) : Nat := (l.map fun x => x.n.ex.length).sum
def smallB (l : List Nt) : Bool := (l.all fun x => shortX x.n) && (decide (l.length ≤ 40) && decide (sumX l ≤ 100))
theorem sumX_snoc (l : List Nt) (x : Nt) : sumX (l ++ [x]) = sumX l + x.n.ex.length := by simp [sumX]
theorem sumX_le : ∀ (l : List Nt) (x : Nt), x ∈ l → x.n.ex.length ≤ sumX l
  | y :: l, x, h => by
    simp only [sumX, List.map_cons, List.sum_cons]
    rcases List.mem_cons.1 h with rfl | h
    · omega
    · have := sumX_le l x h; unfold sumX at this; omega
theorem sumX_bd : ∀ (l : List Nt) (M : Nat), (∀ x ∈ l, x.n.ex.length ≤ M) → sumX l ≤ l.length * M
  | [], _, _ => by simp [sumX]
  | y :: l, M, h => by
    have h1 := sumX_bd l M (fun x hx => h x (List.mem_cons_of_mem _ hx))
    have h2 := h y List.mem_cons_self
    simp only [sumX, List.map_cons, List.sum_cons, List.length_cons, Nat.add_mul, Nat.one_mul] at *
    omega
theorem small_tq {w : World} {v : Value} {l : List Nt} (h : TR w v l) (hs : smallB l = true) : TQ w v l ∧ l.length ≤ 40 ∧ ∀ x ∈ l, x.n.ex.length ≤ 100 := by
  unfold smallB at hs
  simp only [Bool.and_eq_true, List.all_eq_true, decide_eq_true_eq] at hs
  obtain ⟨h1, h2, h3⟩ := hs
  have hx : ∀ x ∈ l, x.n.ex.length ≤ 100 := fun x hx => Nat.le_trans (sumX_le l x hx) h3
  refine ⟨⟨h.rd, fun x hm => ⟨(h.at_ x hm).1, ⟨?_, ?_⟩, ?_⟩⟩, h2, hx⟩
  · have := hx x hm; omega
  · intro b hb
    have := h1 x hm
    unfold shortX shortL at this
    simp only [Bool.and_eq_true, List.all_eq_true, decide_eq_true_eq] at this
    have := this.1 b hb; omega
  · have := h1 x hm
    unfold shortX at this
    simp only [Bool.and_eq_true, decide_eq_true_eq] at this
    omega
theorem i64_wrap (x : Int) : I64 (IntKind.i64.wrap x) := by
  rw [IntWalk.i64_left]
  unfold I64 wrap64; omega
set_option maxRecDepth 100000 in
set_option maxHeartbeats 2000000 in
theorem small_any (w : World) (v : Value) (l : List Nt) (h : TR w v l) (hn : l.length ≤ 9223372036854775807) :
    Calls Try.prog 10 #[v] w fun e w' => e = .returned (.bool (smallB l)) ∧ w = w' := by
  obtain ⟨ad, c, rfl, -⟩ := h.rd.form
  have HA := Bx.mk h.at_
  have HC := Bx.mk (h.cells.2 w (Below.refl _ _))
  obtain ⟨R, hR⟩ : ∃ R, R = smallB l := ⟨_, rfl⟩
  rw [← hR]
  have HR := Bx.mk hR
  obtain ⟨N, hN⟩ : ∃ N, N = l.length := ⟨_, rfl⟩
  have HN := Bx.mk hN
  rw [← hN] at hn ⊢
  clear hR hN h
  go_enter Try.func10, Try.ntmps10
  go_wp2_with fail
  go_loop [3, 4, 5] (fun n i _ => ∃ (k : Nat) (z : Int), k ≤ N ∧ i = .int .i64 (k : Int) ∧ n = .int .i64 z ∧ I64 z ∧ Bx (sumX (l.take k) ≤ 4611686018427387904 → z = (sumX (l.take k) : Nat)) ∧ Bx ((l.take k).all fun x => shortX x.n)) (fun _ i _ => N - (intOf i).toNat)
  case atStart => exact ⟨0, 0, Nat.zero_le _, rfl, rfl, by unfold I64; omega, ⟨by simp [sumX]⟩, ⟨rfl⟩⟩
  case round =>
    obtain ⟨k, z, hk, rfl, rfl, hz, hS, hok⟩ := hrel
    by_cases hlt : k < N
    · have hkl : k < l.length := by rw [← HN.out]; exact hlt
      obtain ⟨b, o, rfl, hbl, c0, c1, c2, c3⟩ := HC.out k hkl
      have hat := HA.out _ (List.getElem_mem hkl)
      have HTK := Bx.mk (List.take_succ_eq_append_getElem hkl)
      have HM := Bx.mk (List.getElem_mem hkl)
      obtain ⟨x, hx⟩ : ∃ x, x = l[k] := ⟨_, rfl⟩
      rw [← hx] at c0 c1 c2 c3 hat HTK HM
      obtain ⟨ua, uc, hu, -⟩ := hat.1.form
      have HQ := hat.1
      rw [hu] at c3 HQ
      have HCX := Bx.mk ((strs_cells_q HQ).2 w (Below.refl _ _))
      have hps : (bstr x.n.pol).size = x.n.pol.length := bstr_size _
      have hpl := hat.2.1
      have hel := hat.2.2.1
      have HEL := Bx.mk hat.2.2.2
      have HBAD := Bx.mk (show shortX x.n = false → R = false from fun h => by
        rw [HR.out]; unfold smallB; rw [Bool.and_eq_false_iff]; left
        rw [List.all_eq_false]
        exact ⟨x, HM.out, by rw [h]; simp⟩)
      obtain ⟨M, hM⟩ : ∃ M, M = x.n.ex.length := ⟨_, rfl⟩
      have HMM := Bx.mk hM
      rw [← hM] at c3 hel
      have HS2 := Bx.mk (show sumX (l.take (k + 1)) = sumX (l.take k) + M by rw [HTK.out, sumX_snoc, hM])
      have HOK2 := Bx.mk (show shortX x.n = true → ((l.take (k + 1)).all fun x => shortX x.n) = true from fun h => by
        rw [HTK.out, List.all_append, hok.out]; simp [h])
      obtain ⟨PL, hPL⟩ : ∃ PL, PL = x.n.pol.length := ⟨_, rfl⟩
      have HPL := Bx.mk hPL
      rw [← hPL] at hps hpl
      generalize bstr x.n.pol = S at *
      clear hat HQ hu hM hx hkl hPL hbl
      have HW := Bx.mk (show ∀ y : Int, wrap64 y = IntKind.i64.wrap y from fun y => (IntWalk.i64_left y).symm)
      go_wp2_with fail
      go_loop [5] (fun j => ∃ m : Nat, m ≤ M ∧ j = .int .i64 (m : Int) ∧ Bx (shortL (x.n.ex.take m) = true)) (fun j => M - (intOf j).toNat)
      case atStart => exact ⟨0, Nat.zero_le _, rfl, ⟨rfl⟩⟩
      case round =>
        obtain ⟨m, hm, rfl, hsm⟩ := hrel
        by_cases hlt2 : m < M
        · have hml : m < x.n.ex.length := by rw [← HMM.out]; exact hlt2
          obtain ⟨b2, o2, rfl, -, d0⟩ := HCX.out m hml
          have HTM := Bx.mk (List.take_succ_eq_append_getElem hml)
          have HME := Bx.mk (List.getElem_mem hml)
          obtain ⟨y, hy⟩ : ∃ y, y = x.n.ex[m] := ⟨_, rfl⟩
          rw [← hy] at d0 HTM HME
          have hys : (bstr y).size = y.length := bstr_size _
          have hyl := HEL.out y HME.out
          obtain ⟨Y, hY⟩ : ∃ Y, Y = y.length := ⟨_, rfl⟩
          have HY := Bx.mk hY
          rw [← hY] at hys hyl
          generalize bstr y = YS at *
          clear hy hml hY
          by_cases hq : Y ≤ 100
          · have t1 : decide ((Y : Int) > 100) = false := by rw [decide_eq_false_iff_not]; omega
            have HN2 := Bx.mk (show shortL (x.n.ex.take (m + 1)) = true by
              have := hsm.out
              unfold shortL at this ⊢
              rw [HTM.out, List.all_append, this]; simp [← HY.out, hq])
            clear hq
            go_wp2_with fail
            go_round
            case rel => exact ⟨m + 1, by omega, by go_num, HN2⟩
            case measure => simp [intOf]; omega
          · have t1 : decide ((Y : Int) > 100) = true := by rw [decide_eq_true_eq]; omega
            have HF := Bx.mk (HBAD.out (by
              unfold shortX shortL
              rw [Bool.and_eq_false_iff]; left
              rw [List.all_eq_false]
              exact ⟨y, HME.out, by simp [← HY.out, hq]⟩))
            clear hq
            go_wp2_with fail
            go_ret
            exact ⟨by rw [HF.out]; rfl, rfl⟩
        · obtain rfl : m = M := by omega
          have HSL := Bx.mk (show shortL x.n.ex = true by have := hsm.out; rw [HMM.out, List.take_length] at this; exact this)
          by_cases hq : PL ≤ 100
          · have t1 : decide ((PL : Int) > 100) = false := by rw [decide_eq_false_iff_not]; omega
            have HO := Bx.mk (HOK2.out (by unfold shortX; rw [HSL.out, ← HPL.out]; simp [hq]))
            clear hq
            go_wp2_with fail
            go_round
            case rel =>
              refine ⟨k + 1, IntKind.i64.wrap (z + (m : Nat)), by omega, by go_num, ?_, i64_wrap _, ⟨fun h => ?_⟩, HO⟩
              · rw [IntWalk.i64_left]
              · rw [HS2.out] at h ⊢
                rw [hS.out (by omega)]
                rw [IntWalk.i64_in _ (by omega)]; omega
            case measure => simp [intOf]; omega
          · have t1 : decide ((PL : Int) > 100) = true := by rw [decide_eq_true_eq]; omega
            have HF := Bx.mk (HBAD.out (by
              unfold shortX
              rw [Bool.and_eq_false_iff]; right
              rw [← HPL.out]; simpa using hq))
            clear hq
            go_wp2_with fail
            go_ret
            exact ⟨by rw [HF.out]; rfl, rfl⟩
    · obtain rfl : k = N := by omega
      have hR2 : R = (decide (k ≤ 40) && decide (sumX l ≤ 100)) := by
        rw [HR.out]; unfold smallB
        have := hok.out
        rw [HN.out, List.take_length] at this
        rw [this, Bool.true_and, ← HN.out]
      have HR2 := Bx.mk hR2
      clear hR2
      by_cases hq : k ≤ 40
      · have t1 : decide ((k : Int) ≤ 40) = true := by rw [decide_eq_true_eq]; omega
        have hsum : sumX l ≤ 4611686018427387904 := by
          have := sumX_bd l 8796093022208 (fun x hx => (HA.out x hx).2.2.1)
          rw [← HN.out] at this
          have h2 : k * 8796093022208 ≤ 40 * 8796093022208 := Nat.mul_le_mul_right _ hq
          omega
        have hzs : z = (sumX l : Nat) := by
          have := hS.out
          rw [HN.out, List.take_length] at this
          exact this hsum
        obtain ⟨s, hs⟩ : ∃ s, s = sumX l := ⟨_, rfl⟩
        rw [← hs] at hzs HR2
        have HR3 := Bx.mk (show R = decide ((s : Int) ≤ 100) by
          rw [HR2.out, decide_eq_true hq, Bool.true_and]
          by_cases q : s ≤ 100
          · rw [decide_eq_true q, decide_eq_true (by omega)]
          · rw [decide_eq_false q, decide_eq_false (by omega)])
        subst hzs
        clear hs hsum hq hz
        cases t2 : decide ((s : Int) ≤ 100) with
        | true =>
          rw [t2] at HR3
          go_wp2_with fail
          go_ret
          exact ⟨by rw [HR3.out]; rfl, rfl⟩
        | false =>
          rw [t2] at HR3
          go_wp2_with fail
          go_ret
          exact ⟨by rw [HR3.out]; rfl, rfl⟩
      · have t1 : decide ((k : Int) ≤ 40) = false := by rw [decide_eq_false_iff_not]; omega
        have HR3 := Bx.mk (show R = false by rw [HR2.out, decide_eq_false hq]; rfl)
        clear hq hz
        go_wp2_with fail
        go_ret
        exact ⟨by rw [HR3.out]; rfl, rfl⟩
def fewB (l : List B) (n m : Nat) : Bool := decide (l.length ≤ n) && l.all fun b => decide (b.length ≤ m)
set_option maxRecDepth 100000 in
theorem few_any (w : World) (v : Value) (l : List B) (n m : Nat) (h : Rd w encS v l) (hl : l.length ≤ 9223372036854775807) (hx : ∀ b ∈ l, b.length ≤ 9223372036854775807) (hn : n ≤ 1000000) (hm : m ≤ 1000000) :
    Calls Try.prog 31 #[v, .int .i64 n, .int .i64 m] w fun e w' => e = .returned (.bool (fewB l n m)) ∧ w = w' := by
  obtain ⟨ad, c, rfl, -⟩ := h.form
  have HC := Bx.mk ((strs_cells h).2 w (Below.refl _ _))
  have HX := Bx.mk hx
  obtain ⟨R, hR⟩ : ∃ R, R = fewB l n m := ⟨_, rfl⟩
  rw [← hR]
  have HR := Bx.mk hR
  obtain ⟨N, hN⟩ : ∃ N, N = l.length := ⟨_, rfl⟩
  have HN := Bx.mk hN
  rw [← hN] at hl ⊢
  clear hR hN h hx
  by_cases hq : N ≤ n
  · have t1 : decide ((N : Int) > (n : Int)) = false := by rw [decide_eq_false_iff_not]; omega
    have t2 : decide (n < N) = false := by rw [decide_eq_false_iff_not]; omega
    have HR2 := Bx.mk (show R = l.all fun b => decide (b.length ≤ m) by rw [HR.out]; unfold fewB; rw [← HN.out, decide_eq_true hq, Bool.true_and])
    go_enter Try.func31, Try.ntmps31
    go_wp2_with fail
    go_loop [8, 15] (fun _ i => ∃ k : Nat, k ≤ N ∧ i = .int .i64 (k : Int) ∧ Bx (((l.take k).all fun b => decide (b.length ≤ m)) = true)) (fun _ i => N - (intOf i).toNat)
    case atStart => exact ⟨0, Nat.zero_le _, rfl, ⟨rfl⟩⟩
    case round =>
      obtain ⟨k, hk, rfl, hok⟩ := hrel
      by_cases hlt : k < N
      · have hkl : k < l.length := by rw [← HN.out]; exact hlt
        obtain ⟨b2, o2, rfl, -, d0⟩ := HC.out k hkl
        have HTM := Bx.mk (List.take_succ_eq_append_getElem hkl)
        have HME := Bx.mk (List.getElem_mem hkl)
        obtain ⟨y, hy⟩ : ∃ y, y = l[k] := ⟨_, rfl⟩
        rw [← hy] at d0 HTM HME
        have hys : (bstr y).size = y.length := bstr_size _
        have hyl := HX.out y HME.out
        obtain ⟨Y, hY⟩ : ∃ Y, Y = y.length := ⟨_, rfl⟩
        have HY := Bx.mk hY
        rw [← hY] at hys hyl
        generalize bstr y = YS at *
        clear hy hkl hY
        by_cases hq2 : Y ≤ m
        · have t3 : decide ((Y : Int) > (m : Int)) = false := by rw [decide_eq_false_iff_not]; omega
          have t4 : decide (m < Y) = false := by rw [decide_eq_false_iff_not]; omega
          have HN2 := Bx.mk (show ((l.take (k + 1)).all fun b => decide (b.length ≤ m)) = true by
            rw [HTM.out, List.all_append, hok.out]; simp [← HY.out, hq2])
          go_wp2_with fail
          go_round
          case rel => exact ⟨k + 1, by omega, by go_num, HN2⟩
          case measure => simp [intOf]; omega
        · have t3 : decide ((Y : Int) > (m : Int)) = true := by rw [decide_eq_true_eq]; omega
          have t4 : decide (m < Y) = true := by rw [decide_eq_true_eq]; omega
          have HF := Bx.mk (show R = false by
            rw [HR2.out, List.all_eq_false]
            exact ⟨y, HME.out, by simp [← HY.out, hq2]⟩)
          go_wp2_with fail
          go_ret
          exact ⟨by rw [HF.out]; rfl, rfl⟩
      · obtain rfl : k = N := by omega
        have HF := Bx.mk (show R = true by rw [HR2.out]; have := hok.out; rw [HN.out, List.take_length] at this; exact this)
        go_wp2_with fail
        go_ret
        exact ⟨by rw [HF.out]; rfl, rfl⟩
  · have t1 : decide ((N : Int) > (n : Int)) = true := by rw [decide_eq_true_eq]; omega
    have t2 : decide (n < N) = true := by rw [decide_eq_true_eq]; omega
    have HR2 := Bx.mk (show R = false by rw [HR.out]; unfold fewB; rw [← HN.out, decide_eq_false hq, Bool.false_and])
    go_enter Try.func31, Try.ntmps31
    go_wp2_with fail
    go_ret
    exact ⟨by rw [HR2.out]; rfl, rfl⟩
end Go.Proofs.Ytmagjdocondmhaa.Tr
