/-
  Follow of the program. (Written by wip/gen/gen_pbfp.py.)
-/
import Derived.Test.YtpagoinnkknkfaaPbBack
import Derived.Deep.QuietTactic
import Derived.BigQuiet
namespace Go.Proofs.Ytpagoinnkknkfaa.Pb
open Go Go.RowKit Go.Shelf Go.Proofs.Ytpagoinnkknkfaa.Slc
set_option linter.unusedVariables false
set_option linter.unusedSimpArgs false
attribute [local go_sem] Oper.semAt_some

def lastT (l : List Ch) : Int := match l.getLast? with | none => 0 | some x => x.t
def timeR (l : List Ch) (c : Ch) : Prop := c.t < 0 ∨ 254033452799 < c.t ∨ c.t < lastT l ∨ c.v < -1 ∨ c.t < c.v ∨ (c.r = 8 ∧ c.v ≠ -1)
instance (l : List Ch) (c : Ch) : Decidable (timeR l c) := by unfold timeR; infer_instance
/-- what both Follow answer -/
def followR (l : List Ch) (c : Ch) : Int :=
  if c.s < 1 ∨ 4611686018427387904 < c.s then 21 else if c.r < 0 ∨ c.r = 7 ∨ 10 < c.r then 1
  else if timeR l c then 12 else if stateP l c then 0 else 24
/-- a slice of changes, its cells -/
theorem rdC_cells {w : World} {ad : Option Addr} {n c : Nat} {l : List Ch} (h : Rd w encC (.slice ad n c) l) : n = l.length ∧ ∀ (W : World), Below w.heap.size w W → ∀ k (hk : k < l.length), ∃ b o, ad = some ⟨b, o, none⟩ ∧ b < w.heap.size ∧ W.cell? ⟨b, o + k * 4, none⟩ = some (.int .i64 (l[k]).s) ∧ W.cell? ⟨b, o + k * 4 + 1, none⟩ = some (.int .i64 (l[k]).t) ∧ W.cell? ⟨b, o + k * 4 + 2, none⟩ = some (.int .i64 (l[k]).r) ∧ W.cell? ⟨b, o + k * 4 + 3, none⟩ = some (.int .i64 (l[k]).v) := by
  obtain ⟨ad', c', hv, -⟩ := h.form
  simp only [Value.slice.injEq] at hv
  refine ⟨hv.2.1, fun W hW k hk => ?_⟩
  obtain ⟨b, o, c, hv', _, hlt, hc⟩ := h.cells encC_ok (by omega)
  simp only [Value.slice.injEq] at hv'
  have q := hc W (fun k' hk' => hW.block k' (h.lt k' hk')) k hk
  exact ⟨b, o, hv'.1, hlt, q 0 _ (by omega) rfl, q 1 _ (by omega) rfl, q 2 _ (by omega) rfl, q 3 _ (by omega) rfl⟩
theorem lastT_eq (l : List Ch) (h : 0 < l.length) : lastT l = (l[l.length - 1]'(by omega)).t := by
  unfold lastT; rw [List.getLast?_eq_getElem?, List.getElem?_eq_getElem (by omega)]
theorem permitted_any (w : World) (a b : Int) : Calls Try.prog 36 #[.int .i64 a, .int .i64 b] w fun e w' => e = .returned (.bool (permitted a b)) ∧ w = w' := by
  by_cases h6 : a = 6
  · have hr : permitted a b = (b != 6) := by unfold permitted; rw [if_pos h6]; by_cases h : b = 6 <;> simp [h]
    rw [hr]
    subst h6
    generalize hq : (b != 6) = q
    go_enter Try.func36, Try.ntmps36
    go_wp2
    go_ret
    exact ⟨rfl, rfl⟩
  · have t6 : (a == 6) = false := by simpa using h6
    by_cases h8 : a = 8
    · have hr : permitted a b = (b != 8) := by unfold permitted; rw [if_neg h6, if_pos h8]; by_cases h : b = 8 <;> simp [h]
      rw [hr]
      subst h8
      generalize hq : (b != 8) = q
      go_enter Try.func36, Try.ntmps36
      go_wp2
      go_ret
      exact ⟨rfl, rfl⟩
    · have hr : permitted a b = false := by unfold permitted; rw [if_neg h6, if_neg h8]
      rw [hr]
      have t8 : (a == 8) = false := by simpa using h8
      clear h6 h8 hr
      go_enter Try.func36, Try.ntmps36
      go_wp2
      go_ret
      exact ⟨rfl, rfl⟩

theorem drewN_below' {B : Nat} {a w : World} (h : Below B a w) (n : Nat) : Below B a (w.drewN n) := ⟨h.os, h.tape, h.output, h.size, h.block⟩
set_option maxRecDepth 10000 in
set_option maxHeartbeats 4000000 in
/-- the answers that need no look into the history's numbers -/
theorem pfol_early (w : World) (v : Value) (l : List Ch) (c : Ch) (hA : Rd w encC v l) (hl : l.length ≤ 1000000) (he : (c.s < 1 ∨ 4611686018427387904 < c.s) ∨ (c.r < 0 ∨ c.r = 7 ∨ 10 < c.r) ∨ timeR l c) :
    Calls Try.prog 17 #[v, chV c] w fun e w' => e = .returned (.int .i64 (followR l c)) ∧ Below w.heap.size w w' := by
  obtain ⟨ad, cap, rfl, -⟩ := hA.form
  have HC := Bx.mk (rdC_cells hA).2
  have HB := Bx.mk ((Below.refl w.heap.size w).alloc (Nat.le_refl _) (.cells #[.int .i64 c.s, .int .i64 c.t, .int .i64 c.r, .int .i64 c.v] 24))
  obtain ⟨R, hR⟩ : ∃ R, R = followR l c := ⟨_, rfl⟩
  rw [← hR]
  have HLT := Bx.mk (lastT_eq l)
  unfold followR timeR at hR
  unfold timeR at he
  have HRQ := Bx.mk hR
  have HHE := Bx.mk he
  clear hA hR he
  obtain ⟨S, T, K, V⟩ := c
  simp only at HB HRQ HHE
  unfold chV
  by_cases h0 : S < 1
  · have t0 : decide (S < 1) = true := by simp; omega
    have HE := Bx.mk (show R = 21 by rw [HRQ.out, if_pos (by omega)])
    clear HRQ HHE HLT
    go_enter Try.func17, Try.ntmps17
    go_wp2_with fail
    go_ret
    exact ⟨by rw [HE.out]; rfl, HB.out⟩
  have t0 : decide (S < 1) = false := by simp; omega
  by_cases h1 : 4611686018427387904 < S
  · have t1 : decide (S > 4611686018427387904) = true := by simp; omega
    have HE := Bx.mk (show R = 21 by rw [HRQ.out, if_pos (by omega)])
    clear HRQ HHE HLT
    go_enter Try.func17, Try.ntmps17
    go_wp2_with fail
    go_ret
    exact ⟨by rw [HE.out]; rfl, HB.out⟩
  have t1 : decide (S > 4611686018427387904) = false := by simp; omega
  by_cases h2 : K < 0
  · have t2 : decide (K < 0) = true := by simp; omega
    have HE := Bx.mk (show R = 1 by rw [HRQ.out, if_neg (by omega), if_pos (by omega)])
    clear HRQ HHE HLT
    go_enter Try.func17, Try.ntmps17
    go_wp2_with fail
    go_ret
    exact ⟨by rw [HE.out]; rfl, HB.out⟩
  have t2 : decide (K < 0) = false := by simp; omega
  by_cases h3 : K = 7
  · have t3 : (K == 7) = true := by simp; omega
    have HE := Bx.mk (show R = 1 by rw [HRQ.out, if_neg (by omega), if_pos (by omega)])
    clear HRQ HHE HLT
    subst h3
    go_enter Try.func17, Try.ntmps17
    go_wp2_with fail
    go_ret
    exact ⟨by rw [HE.out]; rfl, HB.out⟩
  have t3 : (K == 7) = false := by simp; omega
  by_cases h4 : 10 < K
  · have t4 : decide (K > 10) = true := by simp; omega
    have HE := Bx.mk (show R = 1 by rw [HRQ.out, if_neg (by omega), if_pos (by omega)])
    clear HRQ HHE HLT
    go_enter Try.func17, Try.ntmps17
    go_wp2_with fail
    go_ret
    exact ⟨by rw [HE.out]; rfl, HB.out⟩
  have t4 : decide (K > 10) = false := by simp; omega
  have HRQ2 := Bx.mk (show R = if (T < 0 ∨ 254033452799 < T ∨ T < lastT l ∨ V < -1 ∨ T < V ∨ (K = 8 ∧ V ≠ -1)) then 12 else if stateP l ⟨S, T, K, V⟩ then 0 else 24 by rw [HRQ.out, if_neg (by omega), if_neg (by omega)])
  have HE := Bx.mk (show R = 12 by rw [HRQ2.out, if_pos (by rcases HHE.out with h | h | h; · omega
                                                            · omega
                                                            · exact h)])
  have HTT := Bx.mk (show T < 0 ∨ 254033452799 < T ∨ T < lastT l ∨ V < -1 ∨ T < V ∨ (K = 8 ∧ V ≠ -1) by
    rcases HHE.out with h | h | h
    · omega
    · omega
    · exact h)
  clear HRQ HHE HRQ2 h0 h1 h2 h3 h4
  by_cases h5 : T < 0
  · have t5 : decide (T < 0) = true := by simpa using h5
    clear HLT
    go_enter Try.func17, Try.ntmps17
    go_wp2_with fail
    go_quiet (fail)
    go_wp2
    go_ret
    exact ⟨by rw [HE.out]; rfl, drewN_below' HB.out _⟩
  have t5 : decide (T < 0) = false := by simpa using h5
  by_cases h6 : 254033452799 < T
  · have t6 : decide (T > 254033452799) = true := by simpa using h6
    clear HLT h5
    go_enter Try.func17, Try.ntmps17
    go_wp2_with fail
    go_quiet (fail)
    go_wp2
    go_ret
    exact ⟨by rw [HE.out]; rfl, drewN_below' HB.out _⟩
  have t6 : decide (T > 254033452799) = false := by simpa using h6
  -- what is asked of the last change
  have rest : ∀ (hlast : ¬ (0 < l.length ∧ T < lastT l)), V < -1 ∨ T < V ∨ (K = 8 ∧ V ≠ -1) := by
    intro hlast
    rcases HTT.out with h | h | h | h | h | h
    · omega
    · omega
    · rcases Nat.eq_zero_or_pos l.length with q | q
      · have : lastT l = 0 := by rw [List.eq_nil_of_length_eq_zero q]; rfl
        omega
      · exact absurd ⟨q, h⟩ hlast
    · exact .inl h
    · exact .inr (.inl h)
    · exact .inr (.inr h)
  have REST := Bx.mk rest
  clear rest HTT h5 h6
  have tail : ∀ (tl : Bool), True := fun _ => trivial
  clear tail
  rcases Nat.eq_zero_or_pos l.length with hz | hp
  · have HNL := Bx.mk (show ¬ (0 < l.length ∧ T < lastT l) by omega)
    rw [hz]
    have tz : decide (((0 : Nat) : Int) > 0) = false := rfl
    clear HLT HC hz
    by_cases h7 : V < -1
    · have t7 : decide (V < -1) = true := by simpa using h7
      clear REST
      go_enter Try.func17, Try.ntmps17
      go_wp2_with fail
      go_quiet (fail)
      go_wp2
      go_ret
      exact ⟨by rw [HE.out]; rfl, drewN_below' HB.out _⟩
    have t7 : decide (V < -1) = false := by simpa using h7
    by_cases h8 : T < V
    · have t8 : decide (V > T) = true := by simpa using h8
      clear REST h7
      go_enter Try.func17, Try.ntmps17
      go_wp2_with fail
      go_quiet (fail)
      go_wp2
      go_ret
      exact ⟨by rw [HE.out]; rfl, drewN_below' HB.out _⟩
    have t8 : decide (V > T) = false := by simpa using h8
    have hkv : K = 8 ∧ V ≠ -1 := by
      rcases REST.out HNL.out with h | h | h
      · omega
      · omega
      · exact h
    obtain ⟨rfl, hv1⟩ := hkv
    have t9 : (V != -1) = true := by simpa using hv1
    clear REST h7 h8 hv1
    go_enter Try.func17, Try.ntmps17
    go_wp2_with fail
    go_quiet (fail)
    go_wp2
    go_ret
    exact ⟨by rw [HE.out]; rfl, drewN_below' HB.out _⟩
  · obtain ⟨b, o, rfl, hbl, c0, c1, c2, c3⟩ := HC.out _ HB.out (l.length - 1) (by omega)
    have hll := HLT.out hp
    rw [← hll] at c1
    have tz : decide ((l.length : Int) > 0) = true := by simpa using hp
    have tz2 : decide (0 < l.length) = true := by simpa using hp
    have tz3 : decide (0 < (l.length : Int)) = true := by simpa using hp
    obtain ⟨n1, hn1⟩ : ∃ n1, n1 = l.length - 1 := ⟨_, rfl⟩
    rw [← hn1] at c1
    have hn1l : n1 < l.length := by omega
    have hn1i : (n1 : Int) < l.length := by omega
    have hn0 : (0 : Int) ≤ (l.length : Int) - 1 := by omega
    have hsub : ((l.length : Int) - 1) = (n1 : Int) := by omega
    have HWR := Bx.mk (show IntKind.i64.wrap ((l.length : Int) - 1) = (n1 : Int) by rw [hsub]; exact IntWalk.i64_in _ (by omega))
    have HW2 := Bx.mk (show IntKind.i64.wrap (n1 : Int) = (n1 : Int) from IntWalk.i64_in _ (by omega))
    have HNN := Bx.mk (show ((n1 : Int)).toNat = n1 by omega)
    have HNL0 := Bx.mk (show T < lastT l ∨ ¬ (0 < l.length ∧ T < lastT l) by omega)
    have HLP := Bx.mk hp
    clear hn1 hll HLT HC c0 c2 c3 hbl hp hn0 hsub
    generalize lastT l = LT at *
    by_cases hl : T < LT
    · have tl : decide (T < LT) = true := by simpa using hl
      clear REST hl
      have hwr := HWR.out
      have hw2 := HW2.out
      have hnn := HNN.out
      go_enter Try.func17, Try.ntmps17
      go_wp2_with fail
      go_quiet (fail)
      clear hwr hw2 hnn
      go_wp2
      go_ret
      exact ⟨by rw [HE.out]; rfl, drewN_below' HB.out _⟩
    · have tl : decide (T < LT) = false := by simpa using hl
      have HNL := Bx.mk (show ¬ (0 < l.length ∧ T < LT) from fun h => hl h.2)
      clear hl HNL0
      by_cases h7 : V < -1
      · have t7 : decide (V < -1) = true := by simpa using h7
        clear REST
        have hwr := HWR.out
        have hw2 := HW2.out
        have hnn := HNN.out
        go_enter Try.func17, Try.ntmps17
        go_wp2_with fail
        go_quiet (fail)
        clear hwr hw2 hnn
        go_wp2
        go_ret
        exact ⟨by rw [HE.out]; rfl, drewN_below' HB.out _⟩
      have t7 : decide (V < -1) = false := by simpa using h7
      by_cases h8 : T < V
      · have t8 : decide (V > T) = true := by simpa using h8
        clear REST h7
        have hwr := HWR.out
        have hw2 := HW2.out
        have hnn := HNN.out
        go_enter Try.func17, Try.ntmps17
        go_wp2_with fail
        go_quiet (fail)
        clear hwr hw2 hnn
        go_wp2
        go_ret
        exact ⟨by rw [HE.out]; rfl, drewN_below' HB.out _⟩
      have t8 : decide (V > T) = false := by simpa using h8
      have hkv : K = 8 ∧ V ≠ -1 := by
        rcases REST.out HNL.out with h | h | h
        · omega
        · omega
        · exact h
      obtain ⟨rfl, hv1⟩ := hkv
      have t9 : (V != -1) = true := by simpa using hv1
      clear REST h7 h8 hv1
      have hwr := HWR.out
      have hw2 := HW2.out
      have hnn := HNN.out
      go_enter Try.func17, Try.ntmps17
      go_wp2_with fail
      go_quiet (fail)
      clear hwr hw2 hnn
      go_wp2
      go_ret
      exact ⟨by rw [HE.out]; rfl, drewN_below' HB.out _⟩
end Go.Proofs.Ytpagoinnkknkfaa.Pb
