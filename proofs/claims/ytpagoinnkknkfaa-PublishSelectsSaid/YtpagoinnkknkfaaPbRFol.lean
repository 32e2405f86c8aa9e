/-
  slices.Backward at changes and at issued certificates: what a range over it is told. (Written by wip/gen/gen_pbb.py.)
-/
/-
  Follow of the program. (Written by wip/gen/gen_pbfp.py.)
-/
/-
  Follow of the program: the look into the history.
-/
/-
  Follow of the reference. (Written by wip/gen/gen_pbrf.py.)
-/
import Derived.RangeFuncNested
import Derived.RangeFuncBound
import Derived.RangeFuncCalls
import Derived.RangeFuncLeaves
import Derived.RangeFuncBox
import Derived.Shelf.Abstract
import Derived.Shelf.RegionOpen
import Derived.OwnWalkIn
import Derived.TacticsInMore
import Derived.LoopNIn
import Derived.LoopIn
import Derived.Test.YtpagoinnkknkfaaPbFold
import Derived.Deep.QuietTactic
import Derived.BigQuiet
import Derived.Deep.DeepCutAuto
namespace Go.Proofs.Ytpagoinnkknkfaa.Pb
open Go Go.RowKit Go.Shelf Go.Proofs.Ytpagoinnkknkfaa.Slc
set_option linter.unusedVariables false
set_option linter.unusedSimpArgs false
attribute [local go_sem] Oper.semAt_some

def chV (c : Ch) : Value := .agg #[.int .i64 c.s, .int .i64 c.t, .int .i64 c.r, .int .i64 c.v]
/-- an issued certificate -/
structure Iss where
  s : Int
  ca : Bool
  raw : ByteArray
def encI (c : Iss) : List Value := [.int .i64 c.s, .bool c.ca, .string c.raw]
theorem encI_ok : Enc 3 encI := ⟨fun _ => rfl, fun x u hu => by simp [encI] at hu; rcases hu with rfl | rfl | rfl <;> rfl, by omega⟩
def isV (c : Iss) : Value := .agg #[.int .i64 c.s, .bool c.ca, .string c.raw]
/-- what has come when k rounds are over: from the end -/
def bw {α : Type} (l : List α) (k : Nat) : List (Int × α) := ((l.mapIdx fun i x => ((i : Int), x)).reverse).take k
theorem bw_succ {α : Type} (l : List α) (k m : Nat) (h : m + 1 + k = l.length) : bw l (k + 1) = bw l k ++ [((m : Int), l[m]'(by omega))] := by
  unfold bw
  rw [List.take_succ_eq_append_getElem (by simp; omega)]
  congr 2
  rw [List.getElem_reverse]
  simp only [List.length_mapIdx, List.getElem_mapIdx]
  have : l.length - 1 - k = m := by omega
  simp only [this]
theorem bw_all {α : Type} (l : List α) : (bw l l.length).map (·.2) = l.reverse := by
  unfold bw
  rw [List.take_of_length_le (by simp), List.map_reverse]
  congr 1
  apply List.ext_getElem (by simp)
  intro i h1 h2; simp
theorem bw_pre {α : Type} (l : List α) (k : Nat) : (bw l k).map (·.2) = l.reverse.take k := by
  have := bw_all l
  unfold bw at this ⊢
  rw [List.take_of_length_le (by simp)] at this
  rw [List.map_take, this]

set_option maxRecDepth 100000 in
set_option maxHeartbeats 2000000 in
theorem backC1_in (F : Fence) (n : Nat) (hF : F.fn 53) (hro : F.round = none) (hn : 1 ≤ n) (l Bs n₀ b off cap : Nat) (zs : List Ch) (hlen : zs.length ≤ 1000000) (hb : b < n₀) (J Jx : List (Int × Ch) → World → Prop)
    (hY : ∀ pre x W, J pre W → pre.length < zs.length → YieldAt F (n - 1) Try.prog l #[.int .i64 x.1, chV x.2] W fun e W' =>
      (e = .returned (.bool true) ∧ J (pre ++ [x]) W' ∧ Below n₀ W W') ∨ (e = .returned (.bool false) ∧ Jx (pre ++ [x]) W'))
    (hBs0 : Bs < n₀) (W : World) (hBs : W.cell? ⟨Bs, 0, none⟩ = some (.slice (some ⟨b, off, none⟩) zs.length cap)) (hc : ∀ W', Below n₀ W W' → ∀ j (h : j < zs.length), W'.cell? ⟨b, off + j * 4, none⟩ = some (.int .i64 (zs[j]).s) ∧ W'.cell? ⟨b, off + j * 4 + 1, none⟩ = some (.int .i64 (zs[j]).t) ∧ W'.cell? ⟨b, off + j * 4 + 2, none⟩ = some (.int .i64 (zs[j]).r) ∧ W'.cell? ⟨b, off + j * 4 + 3, none⟩ = some (.int .i64 (zs[j]).v)) (h0 : J [] W) :
    CallsIn F n Try.prog 53 #[.func (.yield l) #[] #[], .pointer (some ⟨Bs, 0, none⟩)] W fun e W' => (∃ v, e = .returned v) ∧
      ((∃ ys, ys = bw zs zs.length ∧ J ys W') ∨ (∃ pre, (∃ k, k ≤ zs.length ∧ pre = bw zs k) ∧ Jx pre W')) := by
  have HC := Lib.hid hc
  have HBSK := Lib.hid (show ∀ W', Below n₀ W W' → W'.cell? ⟨Bs, 0, none⟩ = some (.slice (some ⟨b, off, none⟩) zs.length cap) from fun W' hW => (hW.cell (p := ⟨Bs, 0, none⟩) hBs0).trans hBs)
  clear hc
  refine callsIn_of_wp Try.func53 rfl hF ?_ hro
  simp only [Try.ntmps53, List.size_toArray, List.length_cons, List.length_nil, Nat.reduceAdd, Nat.reduceSub, Array.replicate_succ, Array.replicate_zero, List.push_toArray, List.append_toArray, List.nil_append, List.cons_append]
  gi_wp2
  gi_loopw [3] (fun i wr => ∃ m k : Nat, m + k = zs.length ∧ i = .int .i64 ((m : Int) - 1) ∧ J (bw zs k) wr ∧ Below n₀ W wr)
    (fun i _ => (intOf i + 1).toNat)
  case atStart => exact ⟨zs.length, 0, by omega, rfl, h0, Below.refl _ _⟩
  case round =>
    obtain ⟨m, k, hmk, rfl, hJs, hnx⟩ := hrel
    have HNX := Lib.hid hnx
    have HMK := Lib.hid hmk
    have hbs := HBSK.out wr hnx
    cases m with
    | zero =>
      obtain rfl : k = zs.length := by omega
      have e0 : (((0 : Nat) : Int) - 1) = -1 := rfl
      rw [e0]
      clear hmk hnx e0 hBs
      gi_wp2
      go_end0
      exact ⟨⟨_, rfl⟩, .inl ⟨_, rfl, hJs⟩⟩
    | succ m =>
      have e0 : (((m + 1 : Nat) : Int) - 1) = (m : Int) := by omega
      rw [e0]
      have hml : m < zs.length := by omega
      have hsucc := bw_succ zs k m (by omega)
      obtain ⟨x, hx⟩ : ∃ x, x = zs[m] := ⟨_, rfl⟩
      obtain ⟨c0, c1, c2, c3⟩ := HC.out wr hnx m hml
      rw [← hx] at hsucc c0 c1 c2 c3
      have HS := Lib.hid hsucc
      obtain ⟨fn, tmps, assign, body, hy, hR⟩ := hY _ ((m : Int), x) wr hJs (by unfold bw; rw [List.length_take, List.length_reverse, List.length_mapIdx]; omega)
      dsimp only [chV] at hy
      rw [← hsucc] at hR
      clear hmk hnx hsucc hx e0 hBs
      gi_wp2
      refine hR.mono ?_
      rintro e W3 (⟨rfl, hJ3, hk3⟩ | ⟨rfl, hJx3⟩)
      · gi_wp2
        go_roundw
        case rel => exact ⟨m, k + 1, by have := HMK.out; omega, by first | rfl | go_num, hJ3, HNX.out.trans hk3⟩
        case measure => simp [intOf]
      · gi_wp2
        refine bodyPost_ret (results_none rfl _ _ _) rfl ?_
        exact ⟨⟨_, rfl⟩, .inr ⟨_, ⟨k + 1, by have := HMK.out; omega, rfl⟩, hJx3⟩⟩
set_option maxRecDepth 100000 in
set_option maxHeartbeats 1000000 in
theorem backC1_nil_in (F : Fence) (n : Nat) (hF : F.fn 53) (hro : F.round = none) (l Bs : Nat) (c : Nat) (a : Option Addr) (J : List (Int × Ch) → World → Prop) (W : World) (hBs : W.cell? ⟨Bs, 0, none⟩ = some (.slice a 0 c)) (h0 : J [] W) :
    CallsIn F n Try.prog 53 #[.func (.yield l) #[] #[], .pointer (some ⟨Bs, 0, none⟩)] W fun e W' => (∃ v, e = .returned v) ∧ J [] W' := by
  refine callsIn_of_wp Try.func53 rfl hF ?_ hro
  simp only [Try.ntmps53, List.size_toArray, List.length_cons, List.length_nil, Nat.reduceAdd, Nat.reduceSub, Array.replicate_succ, Array.replicate_zero, List.push_toArray, List.append_toArray, List.nil_append, List.cons_append]
  gi_wp2
  gi_loopw [3] (fun i wr => i = .int .i64 (-1) ∧ J [] wr) (fun _ _ => 0)
  case atStart => exact ⟨rfl, h0⟩
  case round =>
    obtain ⟨rfl, hJs⟩ := hrel
    gi_wp2
    go_end0
    exact ⟨⟨_, rfl⟩, hJs⟩
set_option maxHeartbeats 1000000 in
theorem backC_in (F : Fence) (n : Nat) (hF : F.fn 35) (hro : F.round = none) (a : Option Addr) (len cap : Nat) (w : World) :
    CallsIn F n Try.prog 35 #[.slice a len cap] w fun e w' => e = .returned (.func (.func 53) #[] #[.pointer (some ⟨w.heap.size, 0, none⟩)]) ∧ w' = w.alloc (.cells #[.slice a len cap] 27) := by
  refine callsIn_of_wp Try.func35 rfl hF ?_ hro
  simp only [Try.ntmps35, List.size_toArray, List.length_cons, List.length_nil, Nat.reduceAdd, Nat.reduceSub, Array.replicate_succ, Array.replicate_zero, List.push_toArray, List.append_toArray, List.nil_append, List.cons_append]
  gi_wp2
  go_ret
  exact ⟨rfl, rfl⟩

set_option maxRecDepth 100000 in
set_option maxHeartbeats 2000000 in
theorem backI1_in (F : Fence) (n : Nat) (hF : F.fn 60) (hro : F.round = none) (hn : 1 ≤ n) (l Bs n₀ b off cap : Nat) (zs : List Iss) (hlen : zs.length ≤ 1000000) (hb : b < n₀) (J Jx : List (Int × Iss) → World → Prop)
    (hY : ∀ pre x W, J pre W → pre.length < zs.length → YieldAt F (n - 1) Try.prog l #[.int .i64 x.1, isV x.2] W fun e W' =>
      (e = .returned (.bool true) ∧ J (pre ++ [x]) W' ∧ Below n₀ W W') ∨ (e = .returned (.bool false) ∧ Jx (pre ++ [x]) W'))
    (hBs0 : Bs < n₀) (W : World) (hBs : W.cell? ⟨Bs, 0, none⟩ = some (.slice (some ⟨b, off, none⟩) zs.length cap)) (hc : ∀ W', Below n₀ W W' → ∀ j (h : j < zs.length), W'.cell? ⟨b, off + j * 3, none⟩ = some (.int .i64 (zs[j]).s) ∧ W'.cell? ⟨b, off + j * 3 + 1, none⟩ = some (.bool (zs[j]).ca) ∧ W'.cell? ⟨b, off + j * 3 + 2, none⟩ = some (.string (zs[j]).raw)) (h0 : J [] W) :
    CallsIn F n Try.prog 60 #[.func (.yield l) #[] #[], .pointer (some ⟨Bs, 0, none⟩)] W fun e W' => (∃ v, e = .returned v) ∧
      ((∃ ys, ys = bw zs zs.length ∧ J ys W') ∨ (∃ pre, (∃ k, k ≤ zs.length ∧ pre = bw zs k) ∧ Jx pre W')) := by
  have HC := Lib.hid hc
  have HBSK := Lib.hid (show ∀ W', Below n₀ W W' → W'.cell? ⟨Bs, 0, none⟩ = some (.slice (some ⟨b, off, none⟩) zs.length cap) from fun W' hW => (hW.cell (p := ⟨Bs, 0, none⟩) hBs0).trans hBs)
  clear hc
  refine callsIn_of_wp Try.func60 rfl hF ?_ hro
  simp only [Try.ntmps60, List.size_toArray, List.length_cons, List.length_nil, Nat.reduceAdd, Nat.reduceSub, Array.replicate_succ, Array.replicate_zero, List.push_toArray, List.append_toArray, List.nil_append, List.cons_append]
  gi_wp2
  gi_loopw [3] (fun i wr => ∃ m k : Nat, m + k = zs.length ∧ i = .int .i64 ((m : Int) - 1) ∧ J (bw zs k) wr ∧ Below n₀ W wr)
    (fun i _ => (intOf i + 1).toNat)
  case atStart => exact ⟨zs.length, 0, by omega, rfl, h0, Below.refl _ _⟩
  case round =>
    obtain ⟨m, k, hmk, rfl, hJs, hnx⟩ := hrel
    have HNX := Lib.hid hnx
    have HMK := Lib.hid hmk
    have hbs := HBSK.out wr hnx
    cases m with
    | zero =>
      obtain rfl : k = zs.length := by omega
      have e0 : (((0 : Nat) : Int) - 1) = -1 := rfl
      rw [e0]
      clear hmk hnx e0 hBs
      gi_wp2
      go_end0
      exact ⟨⟨_, rfl⟩, .inl ⟨_, rfl, hJs⟩⟩
    | succ m =>
      have e0 : (((m + 1 : Nat) : Int) - 1) = (m : Int) := by omega
      rw [e0]
      have hml : m < zs.length := by omega
      have hsucc := bw_succ zs k m (by omega)
      obtain ⟨x, hx⟩ : ∃ x, x = zs[m] := ⟨_, rfl⟩
      obtain ⟨c0, c1, c2⟩ := HC.out wr hnx m hml
      rw [← hx] at hsucc c0 c1 c2
      have HS := Lib.hid hsucc
      obtain ⟨fn, tmps, assign, body, hy, hR⟩ := hY _ ((m : Int), x) wr hJs (by unfold bw; rw [List.length_take, List.length_reverse, List.length_mapIdx]; omega)
      dsimp only [isV] at hy
      rw [← hsucc] at hR
      clear hmk hnx hsucc hx e0 hBs
      gi_wp2
      refine hR.mono ?_
      rintro e W3 (⟨rfl, hJ3, hk3⟩ | ⟨rfl, hJx3⟩)
      · gi_wp2
        go_roundw
        case rel => exact ⟨m, k + 1, by have := HMK.out; omega, by first | rfl | go_num, hJ3, HNX.out.trans hk3⟩
        case measure => simp [intOf]
      · gi_wp2
        refine bodyPost_ret (results_none rfl _ _ _) rfl ?_
        exact ⟨⟨_, rfl⟩, .inr ⟨_, ⟨k + 1, by have := HMK.out; omega, rfl⟩, hJx3⟩⟩
set_option maxRecDepth 100000 in
set_option maxHeartbeats 1000000 in
theorem backI1_nil_in (F : Fence) (n : Nat) (hF : F.fn 60) (hro : F.round = none) (l Bs : Nat) (c : Nat) (a : Option Addr) (J : List (Int × Iss) → World → Prop) (W : World) (hBs : W.cell? ⟨Bs, 0, none⟩ = some (.slice a 0 c)) (h0 : J [] W) :
    CallsIn F n Try.prog 60 #[.func (.yield l) #[] #[], .pointer (some ⟨Bs, 0, none⟩)] W fun e W' => (∃ v, e = .returned v) ∧ J [] W' := by
  refine callsIn_of_wp Try.func60 rfl hF ?_ hro
  simp only [Try.ntmps60, List.size_toArray, List.length_cons, List.length_nil, Nat.reduceAdd, Nat.reduceSub, Array.replicate_succ, Array.replicate_zero, List.push_toArray, List.append_toArray, List.nil_append, List.cons_append]
  gi_wp2
  gi_loopw [3] (fun i wr => i = .int .i64 (-1) ∧ J [] wr) (fun _ _ => 0)
  case atStart => exact ⟨rfl, h0⟩
  case round =>
    obtain ⟨rfl, hJs⟩ := hrel
    gi_wp2
    go_end0
    exact ⟨⟨_, rfl⟩, hJs⟩
set_option maxHeartbeats 1000000 in
theorem backI_in (F : Fence) (n : Nat) (hF : F.fn 44) (hro : F.round = none) (a : Option Addr) (len cap : Nat) (w : World) :
    CallsIn F n Try.prog 44 #[.slice a len cap] w fun e w' => e = .returned (.func (.func 60) #[] #[.pointer (some ⟨w.heap.size, 0, none⟩)]) ∧ w' = w.alloc (.cells #[.slice a len cap] 46) := by
  refine callsIn_of_wp Try.func44 rfl hF ?_ hro
  simp only [Try.ntmps44, List.size_toArray, List.length_cons, List.length_nil, Nat.reduceAdd, Nat.reduceSub, Array.replicate_succ, Array.replicate_zero, List.push_toArray, List.append_toArray, List.nil_append, List.cons_append]
  gi_wp2
  go_ret
  exact ⟨rfl, rfl⟩
end Go.Proofs.Ytpagoinnkknkfaa.Pb

namespace Go.Proofs.Ytpagoinnkknkfaa.Pb
open Go Go.RowKit Go.Shelf Go.Proofs.Ytpagoinnkknkfaa.Slc
set_option linter.unusedVariables false
set_option linter.unusedSimpArgs false
attribute [local go_sem] Oper.semAt_some

def lastT (l : List Ch) : Int := match l.getLast? with | none => 0 | some x => x.t
def timeR (l : List Ch) (c : Ch) : Prop := c.t < 0 ∨ 254033452799 < c.t ∨ c.t < lastT l ∨ c.v < -1 ∨ c.t < c.v ∨ (c.r = 8 ∧ c.v ≠ -1)
instance (l : List Ch) (c : Ch) : Decidable (timeR l c) := by unfold timeR; infer_instance
/-- what both Follow answer -/
def followR (l : List Ch) (c : Ch) : Int :=
  if c.s < 1 ∨ 4611686018427387904 < c.s then 21 else if c.r < 0 ∨ c.r = 7 ∨ 10 < c.r then 1
  else if timeR l c then 12 else if stateP l c then 0 else 24
/-- a slice of changes, its cells -/
theorem rdC_cells {w : World} {ad : Option Addr} {n c : Nat} {l : List Ch} (h : Rd w encC (.slice ad n c) l) : n = l.length ∧ ∀ (W : World), Below w.heap.size w W → ∀ k (hk : k < l.length), ∃ b o, ad = some ⟨b, o, none⟩ ∧ b < w.heap.size ∧ W.cell? ⟨b, o + k * 4, none⟩ = some (.int .i64 (l[k]).s) ∧ W.cell? ⟨b, o + k * 4 + 1, none⟩ = some (.int .i64 (l[k]).t) ∧ W.cell? ⟨b, o + k * 4 + 2, none⟩ = some (.int .i64 (l[k]).r) ∧ W.cell? ⟨b, o + k * 4 + 3, none⟩ = some (.int .i64 (l[k]).v) := by
  obtain ⟨ad', c', hv, -⟩ := h.form
  simp only [Value.slice.injEq] at hv
  refine ⟨hv.2.1, fun W hW k hk => ?_⟩
  obtain ⟨b, o, c, hv', _, hlt, hc⟩ := h.cells encC_ok (by omega)
  simp only [Value.slice.injEq] at hv'
  have q := hc W (fun k' hk' => hW.block k' (h.lt k' hk')) k hk
  exact ⟨b, o, hv'.1, hlt, q 0 _ (by omega) rfl, q 1 _ (by omega) rfl, q 2 _ (by omega) rfl, q 3 _ (by omega) rfl⟩
theorem lastT_eq (l : List Ch) (h : 0 < l.length) : lastT l = (l[l.length - 1]'(by omega)).t := by
  unfold lastT; rw [List.getLast?_eq_getElem?, List.getElem?_eq_getElem (by omega)]
theorem permitted_any (w : World) (a b : Int) : Calls Try.prog 36 #[.int .i64 a, .int .i64 b] w fun e w' => e = .returned (.bool (permitted a b)) ∧ w = w' := by
  by_cases h6 : a = 6
  · have hr : permitted a b = (b != 6) := by unfold permitted; rw [if_pos h6]; by_cases h : b = 6 <;> simp [h]
    rw [hr]
    subst h6
    generalize hq : (b != 6) = q
    go_enter Try.func36, Try.ntmps36
    go_wp2
    go_ret
    exact ⟨rfl, rfl⟩
  · have t6 : (a == 6) = false := by simpa using h6
    by_cases h8 : a = 8
    · have hr : permitted a b = (b != 8) := by unfold permitted; rw [if_neg h6, if_pos h8]; by_cases h : b = 8 <;> simp [h]
      rw [hr]
      subst h8
      generalize hq : (b != 8) = q
      go_enter Try.func36, Try.ntmps36
      go_wp2
      go_ret
      exact ⟨rfl, rfl⟩
    · have hr : permitted a b = false := by unfold permitted; rw [if_neg h6, if_neg h8]
      rw [hr]
      have t8 : (a == 8) = false := by simpa using h8
      clear h6 h8 hr
      go_enter Try.func36, Try.ntmps36
      go_wp2
      go_ret
      exact ⟨rfl, rfl⟩

theorem drewN_below' {B : Nat} {a w : World} (h : Below B a w) (n : Nat) : Below B a (w.drewN n) := ⟨h.os, h.tape, h.output, h.size, h.block⟩
set_option maxRecDepth 10000 in
set_option maxHeartbeats 4000000 in
/-- the answers that need no look into the history's numbers -/
theorem pfol_early (w : World) (v : Value) (l : List Ch) (c : Ch) (hA : Rd w encC v l) (hl : l.length ≤ 1000000) (he : (c.s < 1 ∨ 4611686018427387904 < c.s) ∨ (c.r < 0 ∨ c.r = 7 ∨ 10 < c.r) ∨ timeR l c) :
    Calls Try.prog 17 #[v, chV c] w fun e w' => e = .returned (.int .i64 (followR l c)) ∧ Below w.heap.size w w' := by
  obtain ⟨ad, cap, rfl, -⟩ := hA.form
  have HC := Bx.mk (rdC_cells hA).2
  have HB := Bx.mk ((Below.refl w.heap.size w).alloc (Nat.le_refl _) (.cells #[.int .i64 c.s, .int .i64 c.t, .int .i64 c.r, .int .i64 c.v] 24))
  obtain ⟨R, hR⟩ : ∃ R, R = followR l c := ⟨_, rfl⟩
  rw [← hR]
  have HLT := Bx.mk (lastT_eq l)
  unfold followR timeR at hR
  unfold timeR at he
  have HRQ := Bx.mk hR
  have HHE := Bx.mk he
  clear hA hR he
  obtain ⟨S, T, K, V⟩ := c
  simp only at HB HRQ HHE
  unfold chV
  by_cases h0 : S < 1
  · have t0 : decide (S < 1) = true := by simp; omega
    have HE := Bx.mk (show R = 21 by rw [HRQ.out, if_pos (by omega)])
    clear HRQ HHE HLT
    go_enter Try.func17, Try.ntmps17
    go_wp2_with fail
    go_ret
    exact ⟨by rw [HE.out]; rfl, HB.out⟩
  have t0 : decide (S < 1) = false := by simp; omega
  by_cases h1 : 4611686018427387904 < S
  · have t1 : decide (S > 4611686018427387904) = true := by simp; omega
    have HE := Bx.mk (show R = 21 by rw [HRQ.out, if_pos (by omega)])
    clear HRQ HHE HLT
    go_enter Try.func17, Try.ntmps17
    go_wp2_with fail
    go_ret
    exact ⟨by rw [HE.out]; rfl, HB.out⟩
  have t1 : decide (S > 4611686018427387904) = false := by simp; omega
  by_cases h2 : K < 0
  · have t2 : decide (K < 0) = true := by simp; omega
    have HE := Bx.mk (show R = 1 by rw [HRQ.out, if_neg (by omega), if_pos (by omega)])
    clear HRQ HHE HLT
    go_enter Try.func17, Try.ntmps17
    go_wp2_with fail
    go_ret
    exact ⟨by rw [HE.out]; rfl, HB.out⟩
  have t2 : decide (K < 0) = false := by simp; omega
  by_cases h3 : K = 7
  · have t3 : (K == 7) = true := by simp; omega
    have HE := Bx.mk (show R = 1 by rw [HRQ.out, if_neg (by omega), if_pos (by omega)])
    clear HRQ HHE HLT
    subst h3
    go_enter Try.func17, Try.ntmps17
    go_wp2_with fail
    go_ret
    exact ⟨by rw [HE.out]; rfl, HB.out⟩
  have t3 : (K == 7) = false := by simp; omega
  by_cases h4 : 10 < K
  · have t4 : decide (K > 10) = true := by simp; omega
    have HE := Bx.mk (show R = 1 by rw [HRQ.out, if_neg (by omega), if_pos (by omega)])
    clear HRQ HHE HLT
    go_enter Try.func17, Try.ntmps17
    go_wp2_with fail
    go_ret
    exact ⟨by rw [HE.out]; rfl, HB.out⟩
  have t4 : decide (K > 10) = false := by simp; omega
  have HRQ2 := Bx.mk (show R = if (T < 0 ∨ 254033452799 < T ∨ T < lastT l ∨ V < -1 ∨ T < V ∨ (K = 8 ∧ V ≠ -1)) then 12 else if stateP l ⟨S, T, K, V⟩ then 0 else 24 by rw [HRQ.out, if_neg (by omega), if_neg (by omega)])
  have HE := Bx.mk (show R = 12 by rw [HRQ2.out, if_pos (by rcases HHE.out with h | h | h; · omega
                                                            · omega
                                                            · exact h)])
  have HTT := Bx.mk (show T < 0 ∨ 254033452799 < T ∨ T < lastT l ∨ V < -1 ∨ T < V ∨ (K = 8 ∧ V ≠ -1) by
    rcases HHE.out with h | h | h
    · omega
    · omega
    · exact h)
  clear HRQ HHE HRQ2 h0 h1 h2 h3 h4
  by_cases h5 : T < 0
  · have t5 : decide (T < 0) = true := by simpa using h5
    clear HLT
    go_enter Try.func17, Try.ntmps17
    go_wp2_with fail
    go_quiet (fail)
    go_wp2
    go_ret
    exact ⟨by rw [HE.out]; rfl, drewN_below' HB.out _⟩
  have t5 : decide (T < 0) = false := by simpa using h5
  by_cases h6 : 254033452799 < T
  · have t6 : decide (T > 254033452799) = true := by simpa using h6
    clear HLT h5
    go_enter Try.func17, Try.ntmps17
    go_wp2_with fail
    go_quiet (fail)
    go_wp2
    go_ret
    exact ⟨by rw [HE.out]; rfl, drewN_below' HB.out _⟩
  have t6 : decide (T > 254033452799) = false := by simpa using h6
  -- what is asked of the last change
  have rest : ∀ (hlast : ¬ (0 < l.length ∧ T < lastT l)), V < -1 ∨ T < V ∨ (K = 8 ∧ V ≠ -1) := by
    intro hlast
    rcases HTT.out with h | h | h | h | h | h
    · omega
    · omega
    · rcases Nat.eq_zero_or_pos l.length with q | q
      · have : lastT l = 0 := by rw [List.eq_nil_of_length_eq_zero q]; rfl
        omega
      · exact absurd ⟨q, h⟩ hlast
    · exact .inl h
    · exact .inr (.inl h)
    · exact .inr (.inr h)
  have REST := Bx.mk rest
  clear rest HTT h5 h6
  have tail : ∀ (tl : Bool), True := fun _ => trivial
  clear tail
  rcases Nat.eq_zero_or_pos l.length with hz | hp
  · have HNL := Bx.mk (show ¬ (0 < l.length ∧ T < lastT l) by omega)
    rw [hz]
    have tz : decide (((0 : Nat) : Int) > 0) = false := rfl
    clear HLT HC hz
    by_cases h7 : V < -1
    · have t7 : decide (V < -1) = true := by simpa using h7
      clear REST
      go_enter Try.func17, Try.ntmps17
      go_wp2_with fail
      go_quiet (fail)
      go_wp2
      go_ret
      exact ⟨by rw [HE.out]; rfl, drewN_below' HB.out _⟩
    have t7 : decide (V < -1) = false := by simpa using h7
    by_cases h8 : T < V
    · have t8 : decide (V > T) = true := by simpa using h8
      clear REST h7
      go_enter Try.func17, Try.ntmps17
      go_wp2_with fail
      go_quiet (fail)
      go_wp2
      go_ret
      exact ⟨by rw [HE.out]; rfl, drewN_below' HB.out _⟩
    have t8 : decide (V > T) = false := by simpa using h8
    have hkv : K = 8 ∧ V ≠ -1 := by
      rcases REST.out HNL.out with h | h | h
      · omega
      · omega
      · exact h
    obtain ⟨rfl, hv1⟩ := hkv
    have t9 : (V != -1) = true := by simpa using hv1
    clear REST h7 h8 hv1
    go_enter Try.func17, Try.ntmps17
    go_wp2_with fail
    go_quiet (fail)
    go_wp2
    go_ret
    exact ⟨by rw [HE.out]; rfl, drewN_below' HB.out _⟩
  · obtain ⟨b, o, rfl, hbl, c0, c1, c2, c3⟩ := HC.out _ HB.out (l.length - 1) (by omega)
    have hll := HLT.out hp
    rw [← hll] at c1
    have tz : decide ((l.length : Int) > 0) = true := by simpa using hp
    have tz2 : decide (0 < l.length) = true := by simpa using hp
    have tz3 : decide (0 < (l.length : Int)) = true := by simpa using hp
    obtain ⟨n1, hn1⟩ : ∃ n1, n1 = l.length - 1 := ⟨_, rfl⟩
    rw [← hn1] at c1
    have hn1l : n1 < l.length := by omega
    have hn1i : (n1 : Int) < l.length := by omega
    have hn0 : (0 : Int) ≤ (l.length : Int) - 1 := by omega
    have hsub : ((l.length : Int) - 1) = (n1 : Int) := by omega
    have HWR := Bx.mk (show IntKind.i64.wrap ((l.length : Int) - 1) = (n1 : Int) by rw [hsub]; exact IntWalk.i64_in _ (by omega))
    have HW2 := Bx.mk (show IntKind.i64.wrap (n1 : Int) = (n1 : Int) from IntWalk.i64_in _ (by omega))
    have HNN := Bx.mk (show ((n1 : Int)).toNat = n1 by omega)
    have HNL0 := Bx.mk (show T < lastT l ∨ ¬ (0 < l.length ∧ T < lastT l) by omega)
    have HLP := Bx.mk hp
    clear hn1 hll HLT HC c0 c2 c3 hbl hp hn0 hsub
    generalize lastT l = LT at *
    by_cases hl : T < LT
    · have tl : decide (T < LT) = true := by simpa using hl
      clear REST hl
      have hwr := HWR.out
      have hw2 := HW2.out
      have hnn := HNN.out
      go_enter Try.func17, Try.ntmps17
      go_wp2_with fail
      go_quiet (fail)
      clear hwr hw2 hnn
      go_wp2
      go_ret
      exact ⟨by rw [HE.out]; rfl, drewN_below' HB.out _⟩
    · have tl : decide (T < LT) = false := by simpa using hl
      have HNL := Bx.mk (show ¬ (0 < l.length ∧ T < LT) from fun h => hl h.2)
      clear hl HNL0
      by_cases h7 : V < -1
      · have t7 : decide (V < -1) = true := by simpa using h7
        clear REST
        have hwr := HWR.out
        have hw2 := HW2.out
        have hnn := HNN.out
        go_enter Try.func17, Try.ntmps17
        go_wp2_with fail
        go_quiet (fail)
        clear hwr hw2 hnn
        go_wp2
        go_ret
        exact ⟨by rw [HE.out]; rfl, drewN_below' HB.out _⟩
      have t7 : decide (V < -1) = false := by simpa using h7
      by_cases h8 : T < V
      · have t8 : decide (V > T) = true := by simpa using h8
        clear REST h7
        have hwr := HWR.out
        have hw2 := HW2.out
        have hnn := HNN.out
        go_enter Try.func17, Try.ntmps17
        go_wp2_with fail
        go_quiet (fail)
        clear hwr hw2 hnn
        go_wp2
        go_ret
        exact ⟨by rw [HE.out]; rfl, drewN_below' HB.out _⟩
      have t8 : decide (V > T) = false := by simpa using h8
      have hkv : K = 8 ∧ V ≠ -1 := by
        rcases REST.out HNL.out with h | h | h
        · omega
        · omega
        · exact h
      obtain ⟨rfl, hv1⟩ := hkv
      have t9 : (V != -1) = true := by simpa using hv1
      clear REST h7 h8 hv1
      have hwr := HWR.out
      have hw2 := HW2.out
      have hnn := HNN.out
      go_enter Try.func17, Try.ntmps17
      go_wp2_with fail
      go_quiet (fail)
      clear hwr hw2 hnn
      go_wp2
      go_ret
      exact ⟨by rw [HE.out]; rfl, drewN_below' HB.out _⟩
end Go.Proofs.Ytpagoinnkknkfaa.Pb

namespace Go.Proofs.Ytpagoinnkknkfaa.Pb
open Go Go.RowKit Go.Shelf Go.Proofs.Ytpagoinnkknkfaa.Slc
set_option linter.unusedVariables false
set_option linter.unusedSimpArgs false
attribute [local go_sem] Oper.semAt_some

theorem blk_from {β : Type} (B p : Nat) (f : β → Array Value) (t : TypeId) : OwnFrom B (fun (s : β) W => W.heap[p]? = some (.cells (f s) t (0, 0))) := by
  intro s A B' row h hg hr
  have h' : A.heap[p]? = some (.cells (f s) t (0, 0)) := h
  refine (hg.block p (lt_of_block h') fun e => ?_).trans h'
  obtain ⟨-, o, ho, hc⟩ := hr p e.symm
  rw [h'] at ho
  obtain rfl := Option.some.inj ho
  simp [Obj.isCells] at hc
theorem blk_kept {A B : World} {B0 p : Nat} {c : Array Value} {t : TypeId} {row : Option Nat} (h : A.heap[p]? = some (.cells c t (0, 0))) (hg : A.grownBy B row) (hr : ∀ r, row = some r → B0 ≤ r ∧ ∃ o : Obj, A.heap[r]? = some o ∧ o.isCells = false) : B.heap[p]? = some (.cells c t (0, 0)) := by
  refine (hg.block p (lt_of_block h) fun e => ?_).trans h
  obtain ⟨-, o, ho, hc⟩ := hr p e.symm
  rw [h] at ho
  obtain rfl := Option.some.inj ho
  simp [Obj.isCells] at hc
theorem alloc_keep {w : World} {p : Nat} {ob o : Obj} (h : w.heap[p]? = some ob) : (w.alloc o).heap[p]? = some ob := by
  have : p < w.heap.size := by
    rcases Nat.lt_or_ge p w.heap.size with q | q
    · exact q
    · rw [Array.getElem?_eq_none q] at h; cases h
  show (w.heap.push o)[p]? = _
  rw [Array.getElem?_push_lt this, ← h, Array.getElem?_eq_getElem this]
theorem row_set {W : World} {p i : Nat} {c : Array Value} {t : TypeId} {fr : Nat × Nat} (h : W.heap[p]? = some (.cells c t fr)) (v : Value) : (W.setCell ⟨p, i, none⟩ v).heap[p]? = some (.cells (c.setIfInBounds i v) t fr) := by
  simp only [World.setCell, Array.getElem?_modify, if_true, h, Option.map_some]
  simp
theorem row_other {W : World} {p q i : Nat} {ob : Obj} (h : W.heap[p]? = some ob) (hne : p ≠ q) (v : Value) : (W.setCell ⟨q, i, none⟩ v).heap[p]? = some ob := by
  simp only [World.setCell, Array.getElem?_modify]
  rw [if_neg (by omega)]; exact h
theorem frozen_row {W : World} {p i : Nat} {c : Array Value} {t : TypeId} (h : W.heap[p]? = some (.cells c t (0, 0))) : W.frozen? ⟨p, i, none⟩ = false := by
  simp [World.frozen?, h]
theorem last_none (l : List Ch) (S : Int) (h : ∀ y ∈ bw l l.length, y.2.s ≠ S) : lastOf l S = none := by
  unfold lastOf
  rw [List.find?_eq_none]
  intro x hx
  rw [← bw_all l, List.mem_map] at hx
  obtain ⟨y, hy, rfl⟩ := hx
  simpa using h y hy
theorem last_some (l : List Ch) (S : Int) (k : Nat) (ini : List (Int × Ch)) (last : Int × Ch) (hp : bw l k = ini ++ [last]) (h : ∀ y ∈ ini, y.2.s ≠ S) (hl : last.2.s = S) : lastOf l S = some last.2 := by
  have e := bw_pre l k
  rw [hp, List.map_append] at e
  have e2 : l.reverse = (ini.map (·.2)) ++ last.2 :: l.reverse.drop k := by
    conv => lhs; rw [← List.take_append_drop k l.reverse, ← e]
    simp
  unfold lastOf
  rw [e2, List.find?_append]
  have : (ini.map (·.2)).find? (fun c => c.s == S) = none := by
    rw [List.find?_eq_none]
    intro x hx
    rw [List.mem_map] at hx
    obtain ⟨y, hy, rfl⟩ := hx
    simpa using h y hy
  rw [this]
  simp [hl]
theorem own_pure {β : Type} (B : Nat) (φ : β → Prop) : OwnFrom B (fun s (_ : World) => φ s) := Own.from (fun s A B row h hg hr => h) _
theorem backC_stops (F : Fence) (n : Nat) (hF : F.fn 53) (hro : F.round = none) (hn : 1 ≤ n) (Bs n₀ : Nat) (sv : Value) (zs : List Ch) (hlen : zs.length ≤ 1000000) (w : World) (hBs0 : Bs < n₀) (hn₀ : n₀ ≤ w.heap.size)
    (hc : w.cell? ⟨Bs, 0, none⟩ = some sv) (hI : ∃ w0, Rd w0 encC sv zs ∧ w0.heap.size ≤ n₀ ∧ Below w0.heap.size w0 w) :
    SeqStopsK F n Try.prog 53 #[.pointer (some ⟨Bs, 0, none⟩)] (fun x : Int × Ch => #[Value.int .i64 x.1, chV x.2]) (Below n₀) (fun ys => ys = bw zs zs.length)
      (fun pre => ∃ k, k ≤ zs.length ∧ pre = bw zs k) zs.length w := fun l J Jx W hW _ _ hY h0 => by
  have hc' := (hW.cell (p := ⟨Bs, 0, none⟩) (Nat.lt_of_lt_of_le hBs0 hn₀)).trans hc
  obtain ⟨w0, hrd, hw0, hbw⟩ := hI
  rcases Nat.eq_zero_or_pos zs.length with hz | hp
  · obtain rfl : zs = [] := List.eq_nil_of_length_eq_zero hz
    obtain ⟨a, c, rfl, -⟩ := hrd.form
    exact (backC1_nil_in F n hF hro l Bs c a J W hc' h0).mono fun e W' ⟨he, hj⟩ => ⟨he, .inl ⟨_, rfl, hj⟩⟩
  · obtain ⟨b, o, c, hv, _, hlt, hcell⟩ := hrd.cells encC_ok hp
    subst hv
    refine backC1_in F n hF hro hn l Bs n₀ b o c zs hlen (by omega) J Jx hY hBs0 W hc' (fun W' hW' j hj => ?_) h0
    have hb2 : Below w0.heap.size w0 W' := hbw.trans ((hW.mono hbw.size).trans (hW'.mono hw0))
    have q := hcell W' (fun k hk => by cases hk; exact hb2.block b hlt) j hj
    exact ⟨q 0 _ (by omega) rfl, q 1 _ (by omega) rfl, q 2 _ (by omega) rfl, q 3 _ (by omega) rfl⟩
/-- the law with the frame named by the law itself -/
theorem rf_H {F : Fence} {n : Nat} {P : Program} {α : Type} {g : Operand} {ps : Array Tmp} {assign body : Code} {Q : Exit → Act → World → Prop} {a : Act} {w : World}
    (hro : F.round = none) (h1 : 1 ≤ n) {gf : Nat} {lb : Array Value} (hg : a.eval g = .func (.func gf) #[] lb) (hFg : F.fn gf) (eg : ∀ args w, (callFunc gf args).run P w = .ok (.enter gf args) w)
    {encs : α → Array Value} {Kp : World → World → Prop} {S Sp : List α → Prop} {N : Nat} {w0 : World} (hseq : SeqStopsK F (n - 1) P gf lb encs Kp S Sp N w0)
    (hKt : ∀ {A B C : World}, Kp A B → Kp B C → Kp A C) (hKb : ∀ (W : World) (l : Nat) (o o' : Obj), w.heap.size ≤ l → W.heap[l]? = some o → o.isCells = false → o.isWalk = false → Kp W (W.putObj l o')) (hb0 : Below w0.heap.size w0 w) (hps : ∀ x, (encs x).size = ps.size)
    (I : List α → World → Prop) (Ix : Code → List α → World → Prop) (hI : OwnFrom w.heap.size I) (hIx : ∀ c, OwnFrom w.heap.size (Ix c)) (h0 : I [] w) (Ax : Act → α → Act → World → Prop) (hAx : ∀ x a', OwnFrom w.heap.size (fun (_ : Unit) W => Ax a x a' W))
    (hassign : ∀ (l : Nat) (pre : List α) (x : α) (W : World) (K : Act → World → Prop), I pre W → (∀ a' W', KeepsFrom w.heap.size W W' → Kp W W' → I pre W' → Ax a x a' W' → K a' W') →
      assign.wpIn (F.inRound l) (n - 1 - 1) P (Exit.then K (fun _ _ _ => False)) { tmps := (ps.zip (encs x)).foldl (fun t (p, v) => t.setIfInBounds p v) a.tmps, defers := [] } W)
    (hbody : ∀ (l : Nat) (pre : List α) (x : α) (a' : Act) (W : World), w.heap.size ≤ l → (∃ r, W.heap[l]? = some (.loop r)) → I pre W → Ax a x a' W → pre.length < N → body.wpIn (F.inRound l) (n - 1 - 1) P (ownPostG w.heap.size Kp I Ix (pre ++ [x]) W) a' W)
    (hdone : ∀ (D : Nat) (xs : List α) (W : World), w.heap.size ≤ D → S xs → I xs W → W.heap[D]? = some (.deferred (some [])) → Q .normal { a with defers := { target := .collected D, args := #[] } :: a.defers } W)
    (hstop : ∀ (D : Nat) (c : Code) (pre : List α) (W : World), w.heap.size ≤ D → Sp pre → Ix c pre W → W.heap[D]? = some (.deferred (some [])) → c.wpIn F n P Q { a with defers := { target := .collected D, args := #[] } :: a.defers } W) :
    (Code.rangeFunc g ps assign body).wpIn F n P Q a w :=
  wpIn_rangeFunc_ownH hro h1 hg hFg eg hseq hKt hKb hb0 hps I Ix hI hIx h0 (Ax a) hAx hassign hbody hdone hstop

set_option maxRecDepth 100000 in
set_option maxHeartbeats 8000000 in
theorem pfol_main (w : World) (v : Value) (l : List Ch) (c : Ch) (hA : Rd w encC v l) (hl : l.length ≤ 1000000) (h1 : ¬ (c.s < 1 ∨ 4611686018427387904 < c.s)) (h2 : ¬ (c.r < 0 ∨ c.r = 7 ∨ 10 < c.r)) (h3 : ¬ timeR l c) :
    Calls Try.prog 17 #[v, chV c] w fun e w' => e = .returned (.int .i64 (if stateP l c then 0 else 24)) ∧ Below w.heap.size w w' := by
  obtain ⟨ad, cap, rfl, -⟩ := hA.form
  have HC := Bx.mk (rdC_cells hA).2
  have HA := Bx.mk hA
  have HLT := Bx.mk (lastT_eq l)
  unfold timeR at h3
  obtain ⟨R, hR⟩ : ∃ R, R = (if stateP l c then (0 : Int) else 24) := ⟨_, rfl⟩
  rw [← hR]
  have HR := Bx.mk hR
  clear hA hR
  obtain ⟨S, T, K, V⟩ := c
  simp only [not_or, not_and, Int.not_lt] at h1 h2 h3
  obtain ⟨g1, g2, g3, g4, g5, g6⟩ := h3
  have t0 : decide (S < 1) = false := by simp; omega
  have t1 : decide (S > 4611686018427387904) = false := by simp; omega
  have t2 : decide (K < 0) = false := by simp; omega
  have t3 : (K == 7) = false := by simp; omega
  have t4 : decide (K > 10) = false := by simp; omega
  have t5 : decide (T < 0) = false := by simp; omega
  have t6 : decide (T > 254033452799) = false := by simp; omega
  have t7 : decide (V < -1) = false := by simp; omega
  have t8 : decide (V > T) = false := by simp; omega
  have HB := Bx.mk ((Below.refl w.heap.size w).alloc (Nat.le_refl _) (.cells #[.int .i64 S, .int .i64 T, .int .i64 K, .int .i64 V] 24))
  have HBK := Bx.mk (show (w.alloc (.cells #[.int .i64 S, .int .i64 T, .int .i64 K, .int .i64 V] 24)).heap[w.heap.size]? = some (.cells #[.int .i64 S, .int .i64 T, .int .i64 K, .int .i64 V] 24 (0, 0)) from heap_alloc_new _ _)
  have G3 := Bx.mk g3
  have G6 := Bx.mk g6
  clear h1 h2 g1 g2 g3 g4 g5 g6
  unfold chV
  refine (callsIn_wide (n := 6)).1 (callsIn_of_wp_marks Try.func17 rfl trivial (wpIn_wide.2 ?_) rfl)
  simp only [Try.ntmps17, List.size_toArray, List.length_cons, List.length_nil, Nat.reduceAdd, Nat.reduceSub, Array.replicate_succ, Array.replicate_zero, List.push_toArray, List.append_toArray, List.nil_append, List.cons_append]
  go_upto_region 9 with fail
  go_cut [33] from 34 to 58 (fun s33 wc => s33 = .bool false ∧ wc.heap[w.heap.size]? = some (.cells #[.int .i64 S, .int .i64 T, .int .i64 K, .int .i64 V] 24 (0, 0)) ∧ Below w.heap.size w wc ∧ wc.heap.size = w.heap.size + 1)
  case first =>
    have HEND := Bx.mk (show ∀ nq, ((w.alloc (.cells #[.int .i64 S, .int .i64 T, .int .i64 K, .int .i64 V] 24)).drewN nq).heap[w.heap.size]? = some (.cells #[.int .i64 S, .int .i64 T, .int .i64 K, .int .i64 V] 24 (0, 0)) ∧ Below w.heap.size w ((w.alloc (.cells #[.int .i64 S, .int .i64 T, .int .i64 K, .int .i64 V] 24)).drewN nq) ∧ ((w.alloc (.cells #[.int .i64 S, .int .i64 T, .int .i64 K, .int .i64 V] 24)).drewN nq).heap.size = w.heap.size + 1 from fun nq => ⟨HBK.out, drewN_below' HB.out nq, by show (w.alloc _).heap.size = _; simp⟩)
    clear G6
    rcases Nat.eq_zero_or_pos l.length with hz | hp
    · have tz : decide ((l.length : Int) > 0) = false := decide_eq_false (by omega)
      have tz2 : decide (0 < l.length) = false := decide_eq_false (by omega)
      clear hz G3 HLT HC HBK HB
      go_quiet (fail)
      go_wp2
      go_meet
      exact ⟨rfl, HEND.out _⟩
    · obtain ⟨b, o, rfl, hbl, c0, c1, c2, c3⟩ := HC.out _ HB.out (l.length - 1) (by omega)
      have hll := HLT.out hp
      rw [← hll] at c1
      have tl : decide (T < lastT l) = false := decide_eq_false (by have := G3.out; omega)
      have tz : decide ((l.length : Int) > 0) = true := by simpa using hp
      have tz2 : decide (0 < l.length) = true := by simpa using hp
      obtain ⟨n1, hn1⟩ : ∃ n1, n1 = l.length - 1 := ⟨_, rfl⟩
      rw [← hn1] at c1
      have hn1l : n1 < l.length := by omega
      have hn1i : (n1 : Int) < l.length := by omega
      have hsub : ((l.length : Int) - 1) = (n1 : Int) := by omega
      have hwr : IntKind.i64.wrap ((l.length : Int) - 1) = (n1 : Int) := by rw [hsub]; exact IntWalk.i64_in _ (by omega)
      have hnn : ((n1 : Int)).toNat = n1 := by omega
      have hw2 : IntKind.i64.wrap (n1 : Int) = (n1 : Int) := IntWalk.i64_in _ (by omega)
      clear hn1 hll HLT HC c0 c2 c3 hbl hp hsub G3 HBK HB
      generalize lastT l = LT at *
      go_quiet (fail)
      clear hwr hw2 hnn
      go_wp2
      go_meet
      exact ⟨rfl, HEND.out _⟩
  case rest =>
    obtain ⟨rfl, hbk0, hbw0, hsz0⟩ := hcut
    have HREL := Bx.mk (And.intro hbk0 (And.intro hbw0 hsz0))
    have m0 := cell_of_row _ _ 0 _ _ _ hbk0
    have m1 := cell_of_row _ _ 1 _ _ _ hbk0
    have m2 := cell_of_row _ _ 2 _ _ _ hbk0
    have m3 := cell_of_row _ _ 3 _ _ _ hbk0
    simp only [List.getElem?_toArray, List.getElem?_cons_zero, List.getElem?_cons_succ] at m0 m1 m2 m3
    clear hbk0 hbw0 hsz0 G3 HBK HB HLT HC
    obtain ⟨wq, hwq⟩ : ∃ wq, wq = wc := ⟨_, rfl⟩
    subst hwq
    go_upto_region 7 with fail
    go_cut [59] from 60 to 79 (fun s59 wc => s59 = .bool false ∧ wc = wq)
    case first =>
      by_cases hk8 : K = 8
      · have hv1 : V = -1 := by
          by_cases q : V = -1
          · exact q
          · exact absurd q (G6.out hk8)
        have t9 : (K == 8) = true := by simp [hk8]
        have t10 : (V != -1) = false := by simp [hv1]
        clear G6 hk8 hv1
        go_wp2
        go_meet
        exact ⟨rfl, rfl⟩
      · have tk8 : (K == 8) = false := by simpa using hk8
        clear G6 hk8
        go_wp2
        go_meet
        exact ⟨rfl, rfl⟩
    case rest =>
      obtain ⟨rfl, rfl⟩ := hcut
      obtain ⟨hbk, hbw, hsz⟩ := HREL.out
      have HBW := Bx.mk hbw
      obtain ⟨p, hp⟩ : ∃ p, p = w.heap.size := ⟨_, rfl⟩
      have HP := Bx.mk hp
      rw [← hp] at hbk hsz ⊢
      have HSZ := Bx.mk hsz
      have HBK2 := Bx.mk hbk
      clear hp hbk hbw G6 m0 m1 m2 m3 HREL t0 t1 t2 t3 t4 t5 t6 t7 t8
      obtain ⟨W3, hW3⟩ : ∃ W3, W3 = ((wc.alloc (.cells #[.int .i64 0, .int .i64 0, .int .i64 0, .int .i64 0] 24)).alloc (.cells #[.bool false] 4)).alloc (.cells #[.slice ad l.length cap] 27) := ⟨_, rfl⟩
      have hbc := fun W => callsIn_wide.1 (backC_in Fence.wide 6 trivial rfl ad l.length cap W)
      go_wp2_with (go_at_call 35; refine (hbc _).mono ?_; rintro e w' ⟨rfl, rfl⟩)
      rw [← hW3]
      have e1 : wc.heap.size = p + 1 := HSZ.out
      have b0 : W3.heap[p]? = some (.cells #[.int .i64 S, .int .i64 T, .int .i64 K, .int .i64 V] 24 (0, 0)) := by
        rw [hW3]; exact alloc_keep (alloc_keep (alloc_keep HBK2.out))
      have b1 : W3.heap[p + 1]? = some (.cells #[.int .i64 0, .int .i64 0, .int .i64 0, .int .i64 0] 24 (0, 0)) := by
        rw [hW3, ← e1]; exact alloc_keep (alloc_keep (heap_alloc_new _ _))
      have b2 : W3.heap[p + 1 + 1]? = some (.cells #[.bool false] 4 (0, 0)) := by
        rw [hW3, ← e1]
        have := heap_alloc_new (wc.alloc (.cells #[.int .i64 0, .int .i64 0, .int .i64 0, .int .i64 0] 24)) (.cells #[.bool false] 4)
        rw [World.size_alloc] at this
        exact alloc_keep this
      have b3 : W3.heap[p + 1 + 1 + 1]? = some (.cells #[.slice ad l.length cap] 27 (0, 0)) := by
        rw [hW3, ← e1]
        have := heap_alloc_new ((wc.alloc (.cells #[.int .i64 0, .int .i64 0, .int .i64 0, .int .i64 0] 24)).alloc (.cells #[.bool false] 4)) (.cells #[.slice ad l.length cap] 27)
        rwa [World.size_alloc, World.size_alloc] at this
      have b3c := cell_of_row _ _ 0 _ _ _ b3
      simp only [List.getElem?_toArray, List.getElem?_cons_zero] at b3c
      have hz3 : W3.heap.size = p + 4 := by rw [hW3]; simp; omega
      have hbW3 : Below w.heap.size w W3 := by
        rw [hW3]
        have hsw := HBW.out.size
        exact ((HBW.out.alloc hsw _).alloc (by simp; omega) _).alloc (by simp; omega) _
      clear hW3
      refine wpIn_wide.1 (rf_H (F := Fence.wide) (n := 6) rfl (by omega) (gf := 53) (lb := #[.pointer (some ⟨p + 1 + 1 + 1, 0, none⟩)]) rfl trivial (enters_of Try.func53 (by kernel_rfl) rfl)
        (backC_stops Fence.wide 5 trivial rfl (by omega) (p + 1 + 1 + 1) (p + 4) (.slice ad l.length cap) l hl W3 (by omega) (by omega) b3c ⟨w, HA.out, by have := HP.out; omega, hbW3⟩) belowK_t (belowK_b (by omega)) (Below.refl _ _) (fun _ => rfl)
        (fun pre W => (W.heap[p]? = some (.cells #[.int .i64 S, .int .i64 T, .int .i64 K, .int .i64 V] 24 (0, 0)) ∧ W.heap[p + 1]? = some (.cells #[.int .i64 0, .int .i64 0, .int .i64 0, .int .i64 0] 24 (0, 0)) ∧ W.heap[p + 1 + 1]? = some (.cells #[.bool false] 4 (0, 0)) ∧ W.heap[p + 1 + 1 + 1]? = some (.cells #[.slice ad l.length cap] 27 (0, 0)) ∧ Bx (∀ y ∈ pre, y.2.s ≠ S)) ∧ Below w.heap.size w W)
        (fun c pre W => (∃ ini last, c = .exit 1 ∧ pre = ini ++ [last] ∧ (∀ y ∈ ini, y.2.s ≠ S) ∧ last.2.s = S ∧ W.heap[p]? = some (.cells #[.int .i64 S, .int .i64 T, .int .i64 K, .int .i64 V] 24 (0, 0)) ∧ W.heap[p + 1]? = some (.cells #[.int .i64 last.2.s, .int .i64 last.2.t, .int .i64 last.2.r, .int .i64 last.2.v] 24 (0, 0)) ∧ W.heap[p + 1 + 1]? = some (.cells #[.bool true] 4 (0, 0))) ∧ Below w.heap.size w W)
        (OwnFrom.and (fun s A B row h hg hr => ⟨blk_kept h.1 hg hr, blk_kept h.2.1 hg hr, blk_kept h.2.2.1 hg hr, blk_kept h.2.2.2.1 hg hr, h.2.2.2.2⟩) (ownFrom_below (Nat.le_refl _) (by have := HP.out; omega)))
        (fun c => OwnFrom.and (fun s A B row h hg hr => by
          obtain ⟨ini, last, q1, q2, q3, q4, q5, q6, q7⟩ := h
          exact ⟨ini, last, q1, q2, q3, q4, blk_kept q5 hg hr, blk_kept q6 hg hr, blk_kept q7 hg hr⟩) (ownFrom_below (Nat.le_refl _) (by have := HP.out; omega)))
        ⟨⟨b0, b1, b2, b3, ⟨fun y hy => by cases hy⟩⟩, hbW3⟩
        (fun a x a' W => ∃ bx : Nat, p + 4 ≤ bx ∧ W.heap[bx]? = some (.cells #[.int .i64 x.2.s, .int .i64 x.2.t, .int .i64 x.2.r, .int .i64 x.2.v] 24 (0, 0)) ∧ a' = { tmps := ((a.tmps.setIfInBounds 83 (.int .i64 x.1)).setIfInBounds 84 (.agg #[.int .i64 x.2.s, .int .i64 x.2.t, .int .i64 x.2.r, .int .i64 x.2.v])).setIfInBounds 8 (.pointer (some ⟨bx, 0, none⟩)), defers := [] })
        (fun x a' s A B row h hg hr => by obtain ⟨bx, q1, q2, q3⟩ := h; exact ⟨bx, q1, blk_kept q2 hg hr, q3⟩)
        ?assign ?body ?done ?stop)
      case assign =>
        rintro l' pre x W K' ⟨⟨i0, i1, i2, i3, hp⟩, hB⟩ hK
        have hsz := lt_of_block i3
        unfold chV
        gi_wp2
        exact hK _ _ ((KeepsOthers.alloc _ _).from _) ((Below.refl _ W).alloc (by omega) _) ⟨⟨alloc_keep i0, alloc_keep i1, alloc_keep i2, alloc_keep i3, hp⟩, hB.alloc (by have := HP.out; omega) _⟩ ⟨W.heap.size, by omega, heap_alloc_new _ _, rfl⟩
      case body =>
        rintro l' pre x a' W hl' hr ⟨⟨i0, i1, i2, i3, ⟨hp⟩⟩, hB⟩ ⟨bx, hbx, hbk, rfl⟩ hlt
        obtain ⟨n0, xs, xt, xr, xv⟩ := x
        simp only [List.setIfInBounds_toArray, List.set_cons_succ, List.set_cons_zero]
        have m0 := cell_of_row _ _ 0 _ _ _ i0
        have k0 := cell_of_row _ _ 0 _ _ _ hbk
        have k1 := cell_of_row _ _ 1 _ _ _ hbk
        have k2 := cell_of_row _ _ 2 _ _ _ hbk
        have k3 := cell_of_row _ _ 3 _ _ _ hbk
        have j0 := cell_of_row _ _ 0 _ _ _ i1
        have j1 := cell_of_row _ _ 1 _ _ _ i1
        have j2 := cell_of_row _ _ 2 _ _ _ i1
        have j3 := cell_of_row _ _ 3 _ _ _ i1
        have f0 := cell_of_row _ _ 0 _ _ _ i2
        have z0 := frozen_row (i := 0) i1
        have z1 := frozen_row (i := 1) i1
        have z2 := frozen_row (i := 2) i1
        have z3 := frozen_row (i := 3) i1
        have z4 := frozen_row (i := 0) i2
        simp only [List.getElem?_toArray, List.getElem?_cons_zero, List.getElem?_cons_succ] at m0 k0 k1 k2 k3 j0 j1 j2 j3 f0
        by_cases hs : xs = S
        · have tq : (xs == S) = true := by simp [hs]
          gi_wp2
          have hn := lt_of_block i3
          refine ⟨((((KeepsOthers.setCell _ _ _).from _).trans ((KeepsOthers.setCell _ _ _).from _)).trans (((KeepsOthers.setCell _ _ _).from _).trans ((KeepsOthers.setCell _ _ _).from _))).trans ((KeepsOthers.setCell _ _ _).from _), ⟨rfl, pre, n0, _, rfl, fun a b h => hp (a, b) h, rfl, ?_, ?_, ?_⟩, ?_⟩
          · exact row_other (row_other (row_other (row_other (row_other i0 (by omega) _) (by omega) _) (by omega) _) (by omega) _) (by omega) _
          · exact row_other (row_set (row_set (row_set (row_set i1 _) _) _) _) (by omega) _
          · exact row_set (row_other (row_other (row_other (row_other i2 (by omega) _) (by omega) _) (by omega) _) (by omega) _) _
          · have hwp := HP.out
            exact (((((hB.setCell (by show w.heap.size ≤ p + 1; omega) _).setCell (by show w.heap.size ≤ p + 1; omega) _).setCell (by show w.heap.size ≤ p + 1; omega) _).setCell (by show w.heap.size ≤ p + 1; omega) _).setCell (by show w.heap.size ≤ p + 1 + 1; omega) _)
        · have tq : (xs == S) = false := by simp [hs]
          gi_wp2
          exact ⟨KeepsFrom.refl _ _, Below.refl _ _, ⟨i0, i1, i2, i3, ⟨fun y z hy => (List.mem_append.1 hy).elim (hp (y, z)) (fun e => by simp at e; rw [e.2]; exact hs)⟩⟩, hB⟩
      case done =>
        rintro D ys W hD rfl ⟨⟨i0, i1, i2, i3, ⟨hp⟩⟩, hB⟩ hK
        have m2 := cell_of_row _ _ 2 _ _ _ i0
        have k2 := cell_of_row _ _ 2 _ _ _ i1
        have f0 := cell_of_row _ _ 0 _ _ _ i2
        simp only [List.getElem?_toArray, List.getElem?_cons_zero, List.getElem?_cons_succ] at m2 k2 f0
        have hR : R = if K = 8 then 24 else 0 := by
          rw [HR.out]; unfold stateP; rw [last_none l S hp]
          by_cases q : K = 8 <;> simp [q]
        by_cases q : K = 8
        · have tq : (K == 8) = true := by simp [q]
          rw [if_pos q] at hR
          subst hR
          go_wp2
          refine ⟨by simp, .inl ⟨_, _, rfl, run_takeDeferred hK, ?_⟩⟩
          exact ⟨_, results_tmp rfl _ _ _, rfl, hB.trans (belowK_b (w := w) (Nat.le_refl _) W D _ _ (by have := HP.out; omega) hK rfl rfl)⟩
        · have tq : (K == 8) = false := by simp [q]
          rw [if_neg q] at hR
          subst hR
          go_wp2
          refine ⟨by simp, .inl ⟨_, _, rfl, run_takeDeferred hK, ?_⟩⟩
          exact ⟨_, results_tmp rfl _ _ _, rfl, hB.trans (belowK_b (w := w) (Nat.le_refl _) W D _ _ (by have := HP.out; omega) hK rfl rfl)⟩
      case stop =>
        rintro D c pre W hD hpre ⟨⟨ini, last, rfl, e1, e2, e3, i0, i1, i2⟩, hB⟩ hK
        obtain ⟨k, hk, hpk⟩ := hpre
        have hlast := last_some l S k ini last (hpk ▸ e1) e2 e3
        have hR : R = if permitted last.2.r K then 0 else 24 := by
          rw [HR.out]; unfold stateP; rw [hlast]
        obtain ⟨n0, ls, lt, lr, lv⟩ := last
        have m2 := cell_of_row _ _ 2 _ _ _ i0
        have k2 := cell_of_row _ _ 2 _ _ _ i1
        have f0 := cell_of_row _ _ 0 _ _ _ i2
        simp only [List.getElem?_toArray, List.getElem?_cons_zero, List.getElem?_cons_succ] at m2 k2 f0
        have hper := fun W => permitted_any W lr K
        have hKb := belowK_b (w := w) (Nat.le_refl _) W D (.deferred (some [])) (.deferred none) (by have := HP.out; omega) hK rfl rfl
        by_cases q : permitted lr K = true
        · rw [if_pos q] at hR
          subst hR
          rw [q] at hper
          refine wpIn_wide.2 ?_
          go_wp2_with (go_at_call 36; refine (hper _).mono ?_; rintro e w' ⟨rfl, rfl⟩)
          refine ⟨by simp, .inl ⟨_, _, rfl, run_takeDeferred hK, ?_⟩⟩
          exact ⟨_, results_tmp rfl _ _ _, rfl, hB.trans hKb⟩
        · have q : permitted lr K = false := by simpa using q
          rw [if_neg (by simp [q])] at hR
          subst hR
          rw [q] at hper
          refine wpIn_wide.2 ?_
          go_wp2_with (go_at_call 36; refine (hper _).mono ?_; rintro e w' ⟨rfl, rfl⟩)
          refine ⟨by simp, .inl ⟨_, _, rfl, run_takeDeferred hK, ?_⟩⟩
          exact ⟨_, results_tmp rfl _ _ _, rfl, hB.trans hKb⟩
/-- THE PROGRAM's Follow. -/
theorem pfollow_any (w : World) (v : Value) (l : List Ch) (c : Ch) (hA : Rd w encC v l) (hl : l.length ≤ 1000000) :
    Calls Try.prog 17 #[v, chV c] w fun e w' => e = .returned (.int .i64 (followR l c)) ∧ Below w.heap.size w w' := by
  by_cases h1 : c.s < 1 ∨ 4611686018427387904 < c.s
  · exact pfol_early w v l c hA hl (.inl h1)
  by_cases h2 : c.r < 0 ∨ c.r = 7 ∨ 10 < c.r
  · exact pfol_early w v l c hA hl (.inr (.inl h2))
  by_cases h3 : timeR l c
  · exact pfol_early w v l c hA hl (.inr (.inr h3))
  · refine (pfol_main w v l c hA hl h1 h2 h3).mono ?_
    rintro e w' ⟨rfl, hB⟩
    exact ⟨by unfold followR; rw [if_neg h1, if_neg h2, if_neg h3], hB⟩
end Go.Proofs.Ytpagoinnkknkfaa.Pb

namespace Go.Proofs.Ytpagoinnkknkfaa.Pb
open Go Go.RowKit Go.Shelf Go.Proofs.Ytpagoinnkknkfaa.Slc
set_option linter.unusedVariables false
set_option linter.unusedSimpArgs false
attribute [local go_sem] Oper.semAt_some

theorem was_succ (l : List Ch) (x : Int) (k : Nat) (h : k < l.length) : wasR (l.take (k + 1)) x = if (l[k]).s = x then (l[k]).r else wasR (l.take k) x := by
  unfold wasR
  rw [List.take_succ_eq_append_getElem h, List.foldl_append]
  rfl
set_option maxRecDepth 10000 in
set_option maxHeartbeats 4000000 in
theorem rfollow_any (w : World) (v : Value) (l : List Ch) (c : Ch) (hA : Rd w encC v l) (hl : l.length ≤ 1000000) :
    Calls Try.prog 16 #[v, chV c] w fun e w' => e = .returned (.int .i64 (followR l c)) ∧ Below w.heap.size w w' := by
  obtain ⟨ad, cap, rfl, -⟩ := hA.form
  have HC := Bx.mk (rdC_cells hA).2
  have HB := Bx.mk ((Below.refl w.heap.size w).alloc (Nat.le_refl _) (.cells #[.int .i64 c.s, .int .i64 c.t, .int .i64 c.r, .int .i64 c.v] 24))
  have HBK := Bx.mk (show (w.alloc (.cells #[.int .i64 c.s, .int .i64 c.t, .int .i64 c.r, .int .i64 c.v] 24)).heap[w.heap.size]? = some (.cells #[.int .i64 c.s, .int .i64 c.t, .int .i64 c.r, .int .i64 c.v] 24 (0, 0)) from heap_alloc_new _ _)
  obtain ⟨R, hR⟩ : ∃ R, R = followR l c := ⟨_, rfl⟩
  rw [← hR]
  have HLT := Bx.mk (lastT_eq l)
  unfold followR at hR
  rw [← state_eq] at hR
  have HRQ := Bx.mk hR
  clear hA hR
  obtain ⟨S, T, K, V⟩ := c
  simp only at HB HRQ HBK
  unfold chV
  by_cases h0 : S < 1
  · have t0 : decide (S < 1) = true := by simp; omega
    have HE := Bx.mk (show R = 21 by rw [HRQ.out, if_pos (by omega)])
    clear HRQ HLT
    go_enter Try.func16, Try.ntmps16
    go_wp2_with fail
    go_ret
    exact ⟨by rw [HE.out]; rfl, HB.out⟩
  have t0 : decide (S < 1) = false := by simp; omega
  by_cases h1 : 4611686018427387904 < S
  · have t1 : decide (S > 4611686018427387904) = true := by simp; omega
    have HE := Bx.mk (show R = 21 by rw [HRQ.out, if_pos (by omega)])
    clear HRQ HLT
    go_enter Try.func16, Try.ntmps16
    go_wp2_with fail
    go_ret
    exact ⟨by rw [HE.out]; rfl, HB.out⟩
  have t1 : decide (S > 4611686018427387904) = false := by simp; omega
  by_cases h2 : K < 0
  · have t2 : decide (K < 0) = true := by simp; omega
    have HE := Bx.mk (show R = 1 by rw [HRQ.out, if_neg (by omega), if_pos (by omega)])
    clear HRQ HLT
    go_enter Try.func16, Try.ntmps16
    go_wp2_with fail
    go_ret
    exact ⟨by rw [HE.out]; rfl, HB.out⟩
  have t2 : decide (K < 0) = false := by simp; omega
  by_cases h3 : K = 7
  · have t3 : (K == 7) = true := by simp; omega
    have HE := Bx.mk (show R = 1 by rw [HRQ.out, if_neg (by omega), if_pos (by omega)])
    clear HRQ HLT
    subst h3
    go_enter Try.func16, Try.ntmps16
    go_wp2_with fail
    go_ret
    exact ⟨by rw [HE.out]; rfl, HB.out⟩
  have t3 : (K == 7) = false := by simp; omega
  by_cases h4 : 10 < K
  · have t4 : decide (K > 10) = true := by simp; omega
    have HE := Bx.mk (show R = 1 by rw [HRQ.out, if_neg (by omega), if_pos (by omega)])
    clear HRQ HLT
    go_enter Try.func16, Try.ntmps16
    go_wp2_with fail
    go_ret
    exact ⟨by rw [HE.out]; rfl, HB.out⟩
  have t4 : decide (K > 10) = false := by simp; omega
  have HRQ2 := Bx.mk (show R = if (T < 0 ∨ 254033452799 < T ∨ T < lastT l ∨ V < -1 ∨ T < V ∨ (K = 8 ∧ V ≠ -1)) then 12 else if stateR l ⟨S, T, K, V⟩ then 0 else 24 by rw [HRQ.out, if_neg (by omega), if_neg (by omega)]; rfl)
  clear HRQ h0 h1 h2 h3 h4
  go_enter Try.func16, Try.ntmps16
  go_upto_if 31 with fail
  go_cut [5] (fun s5 wc => s5 = .int .i64 (lastT l) ∧ wc = (w.alloc (.cells #[.int .i64 S, .int .i64 T, .int .i64 K, .int .i64 V] 24)))
  case first =>
    rcases Nat.eq_zero_or_pos l.length with hz | hp
    · have hll := Bx.mk (show lastT l = 0 by rw [List.eq_nil_of_length_eq_zero hz]; rfl)
      have tz : decide ((l.length : Int) > 0) = false := decide_eq_false (by omega)
      have tz2 : decide (0 < l.length) = false := decide_eq_false (by omega)
      have hnl : ¬ (0 < l.length) := by omega
      clear hz HC HLT
      go_wp2_with fail
      go_meet
      exact ⟨by rw [hll.out], rfl⟩
    · obtain ⟨b, o, rfl, hbl, c0, c1, c2, c3⟩ := HC.out _ HB.out (l.length - 1) (by omega)
      have hll := HLT.out hp
      rw [← hll] at c1
      have tz : decide ((l.length : Int) > 0) = true := by simpa using hp
      have tz2 : decide (0 < l.length) = true := by simpa using hp
      obtain ⟨n1, hn1⟩ : ∃ n1, n1 = l.length - 1 := ⟨_, rfl⟩
      rw [← hn1] at c1
      have hn1l : n1 < l.length := by omega
      have hn1i : (n1 : Int) < l.length := by omega
      have hsub : ((l.length : Int) - 1) = (n1 : Int) := by omega
      have hwr : IntKind.i64.wrap ((l.length : Int) - 1) = (n1 : Int) := by rw [hsub]; exact IntWalk.i64_in _ (by omega)
      have hnn : ((n1 : Int)).toNat = n1 := by omega
      have hw2 : IntKind.i64.wrap (n1 : Int) = (n1 : Int) := IntWalk.i64_in _ (by omega)
      clear hn1 hll HLT HC c0 c2 c3 hbl hp hsub HBK
      generalize lastT l = LT at *
      go_wp2_with fail
      clear hwr hw2 hnn
      go_meet
      exact ⟨rfl, rfl⟩
  case rest =>
    obtain ⟨rfl, rfl⟩ := hcut
    have m0 := cell_of_row _ _ 0 _ _ _ HBK.out
    have m1 := cell_of_row _ _ 1 _ _ _ HBK.out
    have m2 := cell_of_row _ _ 2 _ _ _ HBK.out
    have m3 := cell_of_row _ _ 3 _ _ _ HBK.out
    simp only [List.getElem?_toArray, List.getElem?_cons_zero, List.getElem?_cons_succ] at m0 m1 m2 m3
    obtain ⟨wq, hwq⟩ : ∃ wq, wq = (w.alloc (.cells #[.int .i64 S, .int .i64 T, .int .i64 K, .int .i64 V] 24)) := ⟨_, rfl⟩
    rw [← hwq] at m0 m1 m2 m3 HB HBK ⊢
    clear hwq HLT
    generalize lastT l = LT at *
    go_upto_region 8 with fail
    go_cut [74] from 39 to 73 (fun s74 wc => wc = wq ∧ ∃ q : Bool, s74 = .bool q ∧ (q = true → R = 12) ∧ (q = false → ¬ (T < 0 ∨ 254033452799 < T ∨ T < LT ∨ V < -1 ∨ T < V ∨ (K = 8 ∧ V ≠ -1))))
    case first =>
      by_cases h5 : T < 0
      · have t5 : decide (T < 0) = true := by simpa using h5
        have HE := Bx.mk (show R = 12 by rw [HRQ2.out, if_pos (by omega)])
        clear HRQ2 h5
        go_wp2_with fail
        go_meet
        exact ⟨rfl, true, rfl, fun _ => HE.out, (fun h => by cases h)⟩
      have t5 : decide (T < 0) = false := by simpa using h5
      by_cases h6 : 254033452799 < T
      · have t6 : decide (T > 254033452799) = true := by simpa using h6
        have HE := Bx.mk (show R = 12 by rw [HRQ2.out, if_pos (by omega)])
        clear HRQ2 h6
        go_wp2_with fail
        go_meet
        exact ⟨rfl, true, rfl, fun _ => HE.out, (fun h => by cases h)⟩
      have t6 : decide (T > 254033452799) = false := by simpa using h6
      by_cases h7 : T < LT
      · have t7 : decide (T < LT) = true := by simpa using h7
        have HE := Bx.mk (show R = 12 by rw [HRQ2.out, if_pos (by omega)])
        clear HRQ2 h7
        go_wp2_with fail
        go_meet
        exact ⟨rfl, true, rfl, fun _ => HE.out, (fun h => by cases h)⟩
      have t7 : decide (T < LT) = false := by simpa using h7
      by_cases h8 : V < -1
      · have t8 : decide (V < -1) = true := by simpa using h8
        have HE := Bx.mk (show R = 12 by rw [HRQ2.out, if_pos (by omega)])
        clear HRQ2 h8
        go_wp2_with fail
        go_meet
        exact ⟨rfl, true, rfl, fun _ => HE.out, (fun h => by cases h)⟩
      have t8 : decide (V < -1) = false := by simpa using h8
      by_cases h9 : T < V
      · have t9 : decide (V > T) = true := by simpa using h9
        have HE := Bx.mk (show R = 12 by rw [HRQ2.out, if_pos (by omega)])
        clear HRQ2 h9
        go_wp2_with fail
        go_meet
        exact ⟨rfl, true, rfl, fun _ => HE.out, (fun h => by cases h)⟩
      have t9 : decide (V > T) = false := by simpa using h9
      by_cases h10 : K = 8
      · have t10 : (K == 8) = true := by simpa using h10
        by_cases h11 : V = -1
        · have t11 : (V != -1) = false := by simp [h11]
          have HN := Bx.mk (show ¬ (T < 0 ∨ 254033452799 < T ∨ T < LT ∨ V < -1 ∨ T < V ∨ (K = 8 ∧ V ≠ -1)) by omega)
          clear HRQ2 h5 h6 h7 h8 h9 h10 h11
          go_wp2_with fail
          go_meet
          exact ⟨rfl, false, rfl, (fun h => by cases h), fun _ => HN.out⟩
        · have t11 : (V != -1) = true := by simpa using h11
          have HE := Bx.mk (show R = 12 by rw [HRQ2.out, if_pos (by omega)])
          clear HRQ2 h5 h6 h7 h8 h9 h10 h11
          go_wp2_with fail
          go_meet
          exact ⟨rfl, true, rfl, fun _ => HE.out, (fun h => by cases h)⟩
      · have t10 : (K == 8) = false := by simpa using h10
        have HN := Bx.mk (show ¬ (T < 0 ∨ 254033452799 < T ∨ T < LT ∨ V < -1 ∨ T < V ∨ (K = 8 ∧ V ≠ -1)) by omega)
        clear HRQ2 h5 h6 h7 h8 h9 h10
        go_wp2_with fail
        go_meet
        exact ⟨rfl, false, rfl, (fun h => by cases h), fun _ => HN.out⟩
    case rest =>
      obtain ⟨rfl, q, rfl, hq1, hcut⟩ := hcut
      cases q with
      | true =>
        have HE := Bx.mk (hq1 rfl)
        clear HRQ2 hq1 hcut
        go_wp2_with fail
        go_ret
        exact ⟨by rw [HE.out]; rfl, HB.out⟩
      | false =>
      have hcut := hcut rfl
      have HR := Bx.mk (show R = if stateR l ⟨S, T, K, V⟩ then 0 else 24 by rw [HRQ2.out, if_neg hcut])
      clear hcut hq1 HRQ2 m0 m1 m2 m3 t0 t1 t2 t3 t4
      have HBK1 := HBK.out
      have HB1 := HB.out
      clear HBK HB
      go_wp2_with fail
      obtain ⟨p, hp⟩ : ∃ p, p = w.heap.size := ⟨_, rfl⟩
      have HP := Bx.mk hp
      rw [← hp] at HBK1 ⊢
      clear hp
      go_loopw [6, 7] (fun s6 i wr => ∃ k : Nat, k ≤ l.length ∧ i = .int .i64 k ∧ s6 = .int .i64 (wasR (l.take k) S) ∧ wr.heap[p]? = some (.cells #[.int .i64 S, .int .i64 T, .int .i64 K, .int .i64 V] 24 (0, 0)) ∧ Below p w wr) (fun _ i _ => l.length - (intOf i).toNat)
      case atStart => exact ⟨0, by omega, rfl, rfl, HBK1, HP.out ▸ HB1⟩
      case round =>
        obtain ⟨k, hk, rfl, rfl, hbk, hBw⟩ := hrel
        have m0 := cell_of_row _ _ 0 _ _ _ hbk
        have m2 := cell_of_row _ _ 2 _ _ _ hbk
        simp only [List.getElem?_toArray, List.getElem?_cons_zero, List.getElem?_cons_succ] at m0 m2
        have HBw := Bx.mk (And.intro hbk hBw)
        by_cases hlt : k < l.length
        · obtain ⟨b, o, rfl, hbl, c0, c1, c2, c3⟩ := HC.out wr (HP.out ▸ hBw) k hlt
          have HWS := Bx.mk (was_succ l S k hlt)
          clear hBw hbk c1 c3 hbl
          generalize (l[k]).s = S1 at *
          generalize (l[k]).r = R1 at *
          by_cases h : S1 = S
          · have tq : (S1 == S) = true := by simp [h]
            have HW2 := Bx.mk (show wasR (l.take (k + 1)) S = R1 by rw [HWS.out, if_pos h])
            clear h HWS
            go_wp2_with fail
            go_quiet (fail)
            go_wp2
            go_roundw
            case rel => exact ⟨k + 1, by omega, by go_num, by rw [HW2.out], HBw.out.1, drewN_below' HBw.out.2 _⟩
            case measure => simp [intOf]; omega
          · have tq : (S1 == S) = false := by simp [h]
            have HW2 := Bx.mk (show wasR (l.take (k + 1)) S = wasR (l.take k) S by rw [HWS.out, if_neg h])
            clear h HWS
            go_wp2_with fail
            go_quiet (fail)
            go_wp2
            go_roundw
            case rel => exact ⟨k + 1, by omega, by go_num, by rw [HW2.out], HBw.out.1, drewN_below' HBw.out.2 _⟩
            case measure => simp [intOf]; omega
        · obtain rfl : k = l.length := by omega
          rw [List.take_length]
          have HR2 := Bx.mk HR.out
          unfold stateR at HR2
          clear hBw hbk HR
          simp only at HR2
          generalize wasR l S = Wz at *
          by_cases q6 : Wz = 6
          · subst q6
            by_cases k6 : K = 6
            · have tk : (K == 6) = true := by simp [k6]
              have HE := Bx.mk (show R = 24 by rw [HR2.out]; simp [k6])
              clear HR2 k6
              go_wp2_with fail
              go_ret
              exact ⟨by rw [HE.out]; rfl, HP.out ▸ HBw.out.2⟩
            · have tk : (K == 6) = false := by simp [k6]
              have HE := Bx.mk (show R = 0 by rw [HR2.out]; simp [k6])
              clear HR2 k6
              go_wp2_with fail
              go_ret
              exact ⟨by rw [HE.out]; rfl, HP.out ▸ HBw.out.2⟩
          by_cases q8 : Wz = 8
          · subst q8
            by_cases k8 : K = 8
            · have tk : (K == 8) = true := by simp [k8]
              have HE := Bx.mk (show R = 24 by rw [HR2.out]; simp [k8])
              clear HR2 k8 q6
              go_wp2_with fail
              go_ret
              exact ⟨by rw [HE.out]; rfl, HP.out ▸ HBw.out.2⟩
            · have tk : (K == 8) = false := by simp [k8]
              have HE := Bx.mk (show R = 0 by rw [HR2.out]; simp [k8])
              clear HR2 k8 q6
              go_wp2_with fail
              go_ret
              exact ⟨by rw [HE.out]; rfl, HP.out ▸ HBw.out.2⟩
          · have t6 : (Wz != 6) = true := by simpa using q6
            have t8 : (Wz != 8) = true := by simpa using q8
            have HE := Bx.mk (show R = 24 by rw [HR2.out]; simp [q6, q8])
            clear HR2 q6 q8
            go_wp2_with fail
            go_ret
            exact ⟨by rw [HE.out]; rfl, HP.out ▸ HBw.out.2⟩
end Go.Proofs.Ytpagoinnkknkfaa.Pb
