/-
  slices.Backward at changes and at issued certificates: what a range over it is told. (Written by wip/gen/gen_pbb.py.)
-/
import Derived.RangeFuncNested
import Derived.RangeFuncBound
import Derived.RangeFuncCalls
import Derived.RangeFuncLeaves
import Derived.RangeFuncBox
import Derived.Shelf.Abstract
import Derived.Shelf.RegionOpen
import Derived.OwnWalkIn
import Derived.TacticsInMore
import Derived.LoopNIn
import Derived.LoopIn
import Derived.Test.YtpagoinnkknkfaaPbFold
namespace Go.Proofs.Ytpagoinnkknkfaa.Pb
open Go Go.RowKit Go.Shelf Go.Proofs.Ytpagoinnkknkfaa.Slc
set_option linter.unusedVariables false
set_option linter.unusedSimpArgs false
attribute [local go_sem] Oper.semAt_some

def chV (c : Ch) : Value := .agg #[.int .i64 c.s, .int .i64 c.t, .int .i64 c.r, .int .i64 c.v]
/-- an issued certificate -/
structure Iss where
  s : Int
  ca : Bool
  raw : ByteArray
def encI (c : Iss) : List Value := [.int .i64 c.s, .bool c.ca, .string c.raw]
theorem encI_ok : Enc 3 encI := ⟨fun _ => rfl, fun x u hu => by simp [encI] at hu; rcases hu with rfl | rfl | rfl <;> rfl, by omega⟩
def isV (c : Iss) : Value := .agg #[.int .i64 c.s, .bool c.ca, .string c.raw]
/-- what has come when k rounds are over: from the end -/
def bw {α : Type} (l : List α) (k : Nat) : List (Int × α) := ((l.mapIdx fun i x => ((i : Int), x)).reverse).take k
theorem bw_succ {α : Type} (l : List α) (k m : Nat) (h : m + 1 + k = l.length) : bw l (k + 1) = bw l k ++ [((m : Int), l[m]'(by omega))] := by
  unfold bw
  rw [List.take_succ_eq_append_getElem (by simp; omega)]
  congr 2
  rw [List.getElem_reverse]
  simp only [List.length_mapIdx, List.getElem_mapIdx]
  have : l.length - 1 - k = m := by omega
  simp only [this]
theorem bw_all {α : Type} (l : List α) : (bw l l.length).map (·.2) = l.reverse := by
  unfold bw
  rw [List.take_of_length_le (by simp), List.map_reverse]
  congr 1
  apply List.ext_getElem (by simp)
  intro i h1 h2; simp
theorem bw_pre {α : Type} (l : List α) (k : Nat) : (bw l k).map (·.2) = l.reverse.take k := by
  have := bw_all l
  unfold bw at this ⊢
  rw [List.take_of_length_le (by simp)] at this
  rw [List.map_take, this]

set_option maxRecDepth 100000 in
set_option maxHeartbeats 2000000 in
theorem backC1_in (F : Fence) (n : Nat) (hF : F.fn 53) (hro : F.round = none) (hn : 1 ≤ n) (l Bs n₀ b off cap : Nat) (zs : List Ch) (hlen : zs.length ≤ 1000000) (hb : b < n₀) (J Jx : List (Int × Ch) → World → Prop)
    (hY : ∀ pre x W, J pre W → pre.length < zs.length → YieldAt F (n - 1) Try.prog l #[.int .i64 x.1, chV x.2] W fun e W' =>
      (e = .returned (.bool true) ∧ J (pre ++ [x]) W' ∧ Below n₀ W W') ∨ (e = .returned (.bool false) ∧ Jx (pre ++ [x]) W'))
    (hBs0 : Bs < n₀) (W : World) (hBs : W.cell? ⟨Bs, 0, none⟩ = some (.slice (some ⟨b, off, none⟩) zs.length cap)) (hc : ∀ W', Below n₀ W W' → ∀ j (h : j < zs.length), W'.cell? ⟨b, off + j * 4, none⟩ = some (.int .i64 (zs[j]).s) ∧ W'.cell? ⟨b, off + j * 4 + 1, none⟩ = some (.int .i64 (zs[j]).t) ∧ W'.cell? ⟨b, off + j * 4 + 2, none⟩ = some (.int .i64 (zs[j]).r) ∧ W'.cell? ⟨b, off + j * 4 + 3, none⟩ = some (.int .i64 (zs[j]).v)) (h0 : J [] W) :
    CallsIn F n Try.prog 53 #[.func (.yield l) #[] #[], .pointer (some ⟨Bs, 0, none⟩)] W fun e W' => (∃ v, e = .returned v) ∧
      ((∃ ys, ys = bw zs zs.length ∧ J ys W') ∨ (∃ pre, (∃ k, k ≤ zs.length ∧ pre = bw zs k) ∧ Jx pre W')) := by
  have HC := Lib.hid hc
  have HBSK := Lib.hid (show ∀ W', Below n₀ W W' → W'.cell? ⟨Bs, 0, none⟩ = some (.slice (some ⟨b, off, none⟩) zs.length cap) from fun W' hW => (hW.cell (p := ⟨Bs, 0, none⟩) hBs0).trans hBs)
  clear hc
  refine callsIn_of_wp Try.func53 rfl hF ?_ hro
  simp only [Try.ntmps53, List.size_toArray, List.length_cons, List.length_nil, Nat.reduceAdd, Nat.reduceSub, Array.replicate_succ, Array.replicate_zero, List.push_toArray, List.append_toArray, List.nil_append, List.cons_append]
  gi_wp2
  gi_loopw [3] (fun i wr => ∃ m k : Nat, m + k = zs.length ∧ i = .int .i64 ((m : Int) - 1) ∧ J (bw zs k) wr ∧ Below n₀ W wr)
    (fun i _ => (intOf i + 1).toNat)
  case atStart => exact ⟨zs.length, 0, by omega, rfl, h0, Below.refl _ _⟩
  case round =>
    obtain ⟨m, k, hmk, rfl, hJs, hnx⟩ := hrel
    have HNX := Lib.hid hnx
    have HMK := Lib.hid hmk
    have hbs := HBSK.out wr hnx
    cases m with
    | zero =>
      obtain rfl : k = zs.length := by omega
      have e0 : (((0 : Nat) : Int) - 1) = -1 := rfl
      rw [e0]
      clear hmk hnx e0 hBs
      gi_wp2
      go_end0
      exact ⟨⟨_, rfl⟩, .inl ⟨_, rfl, hJs⟩⟩
    | succ m =>
      have e0 : (((m + 1 : Nat) : Int) - 1) = (m : Int) := by omega
      rw [e0]
      have hml : m < zs.length := by omega
      have hsucc := bw_succ zs k m (by omega)
      obtain ⟨x, hx⟩ : ∃ x, x = zs[m] := ⟨_, rfl⟩
      obtain ⟨c0, c1, c2, c3⟩ := HC.out wr hnx m hml
      rw [← hx] at hsucc c0 c1 c2 c3
      have HS := Lib.hid hsucc
      obtain ⟨fn, tmps, assign, body, hy, hR⟩ := hY _ ((m : Int), x) wr hJs (by unfold bw; rw [List.length_take, List.length_reverse, List.length_mapIdx]; omega)
      dsimp only [chV] at hy
      rw [← hsucc] at hR
      clear hmk hnx hsucc hx e0 hBs
      gi_wp2
      refine hR.mono ?_
      rintro e W3 (⟨rfl, hJ3, hk3⟩ | ⟨rfl, hJx3⟩)
      · gi_wp2
        go_roundw
        case rel => exact ⟨m, k + 1, by have := HMK.out; omega, by first | rfl | go_num, hJ3, HNX.out.trans hk3⟩
        case measure => simp [intOf]
      · gi_wp2
        refine bodyPost_ret (results_none rfl _ _ _) rfl ?_
        exact ⟨⟨_, rfl⟩, .inr ⟨_, ⟨k + 1, by have := HMK.out; omega, rfl⟩, hJx3⟩⟩
set_option maxRecDepth 100000 in
set_option maxHeartbeats 1000000 in
theorem backC1_nil_in (F : Fence) (n : Nat) (hF : F.fn 53) (hro : F.round = none) (l Bs : Nat) (c : Nat) (a : Option Addr) (J : List (Int × Ch) → World → Prop) (W : World) (hBs : W.cell? ⟨Bs, 0, none⟩ = some (.slice a 0 c)) (h0 : J [] W) :
    CallsIn F n Try.prog 53 #[.func (.yield l) #[] #[], .pointer (some ⟨Bs, 0, none⟩)] W fun e W' => (∃ v, e = .returned v) ∧ J [] W' := by
  refine callsIn_of_wp Try.func53 rfl hF ?_ hro
  simp only [Try.ntmps53, List.size_toArray, List.length_cons, List.length_nil, Nat.reduceAdd, Nat.reduceSub, Array.replicate_succ, Array.replicate_zero, List.push_toArray, List.append_toArray, List.nil_append, List.cons_append]
  gi_wp2
  gi_loopw [3] (fun i wr => i = .int .i64 (-1) ∧ J [] wr) (fun _ _ => 0)
  case atStart => exact ⟨rfl, h0⟩
  case round =>
    obtain ⟨rfl, hJs⟩ := hrel
    gi_wp2
    go_end0
    exact ⟨⟨_, rfl⟩, hJs⟩
set_option maxHeartbeats 1000000 in
theorem backC_in (F : Fence) (n : Nat) (hF : F.fn 35) (hro : F.round = none) (a : Option Addr) (len cap : Nat) (w : World) :
    CallsIn F n Try.prog 35 #[.slice a len cap] w fun e w' => e = .returned (.func (.func 53) #[] #[.pointer (some ⟨w.heap.size, 0, none⟩)]) ∧ w' = w.alloc (.cells #[.slice a len cap] 27) := by
  refine callsIn_of_wp Try.func35 rfl hF ?_ hro
  simp only [Try.ntmps35, List.size_toArray, List.length_cons, List.length_nil, Nat.reduceAdd, Nat.reduceSub, Array.replicate_succ, Array.replicate_zero, List.push_toArray, List.append_toArray, List.nil_append, List.cons_append]
  gi_wp2
  go_ret
  exact ⟨rfl, rfl⟩

set_option maxRecDepth 100000 in
set_option maxHeartbeats 2000000 in
theorem backI1_in (F : Fence) (n : Nat) (hF : F.fn 60) (hro : F.round = none) (hn : 1 ≤ n) (l Bs n₀ b off cap : Nat) (zs : List Iss) (hlen : zs.length ≤ 1000000) (hb : b < n₀) (J Jx : List (Int × Iss) → World → Prop)
    (hY : ∀ pre x W, J pre W → pre.length < zs.length → YieldAt F (n - 1) Try.prog l #[.int .i64 x.1, isV x.2] W fun e W' =>
      (e = .returned (.bool true) ∧ J (pre ++ [x]) W' ∧ Below n₀ W W') ∨ (e = .returned (.bool false) ∧ Jx (pre ++ [x]) W'))
    (hBs0 : Bs < n₀) (W : World) (hBs : W.cell? ⟨Bs, 0, none⟩ = some (.slice (some ⟨b, off, none⟩) zs.length cap)) (hc : ∀ W', Below n₀ W W' → ∀ j (h : j < zs.length), W'.cell? ⟨b, off + j * 3, none⟩ = some (.int .i64 (zs[j]).s) ∧ W'.cell? ⟨b, off + j * 3 + 1, none⟩ = some (.bool (zs[j]).ca) ∧ W'.cell? ⟨b, off + j * 3 + 2, none⟩ = some (.string (zs[j]).raw)) (h0 : J [] W) :
    CallsIn F n Try.prog 60 #[.func (.yield l) #[] #[], .pointer (some ⟨Bs, 0, none⟩)] W fun e W' => (∃ v, e = .returned v) ∧
      ((∃ ys, ys = bw zs zs.length ∧ J ys W') ∨ (∃ pre, (∃ k, k ≤ zs.length ∧ pre = bw zs k) ∧ Jx pre W')) := by
  have HC := Lib.hid hc
  have HBSK := Lib.hid (show ∀ W', Below n₀ W W' → W'.cell? ⟨Bs, 0, none⟩ = some (.slice (some ⟨b, off, none⟩) zs.length cap) from fun W' hW => (hW.cell (p := ⟨Bs, 0, none⟩) hBs0).trans hBs)
  clear hc
  refine callsIn_of_wp Try.func60 rfl hF ?_ hro
  simp only [Try.ntmps60, List.size_toArray, List.length_cons, List.length_nil, Nat.reduceAdd, Nat.reduceSub, Array.replicate_succ, Array.replicate_zero, List.push_toArray, List.append_toArray, List.nil_append, List.cons_append]
  gi_wp2
  gi_loopw [3] (fun i wr => ∃ m k : Nat, m + k = zs.length ∧ i = .int .i64 ((m : Int) - 1) ∧ J (bw zs k) wr ∧ Below n₀ W wr)
    (fun i _ => (intOf i + 1).toNat)
  case atStart => exact ⟨zs.length, 0, by omega, rfl, h0, Below.refl _ _⟩
  case round =>
    obtain ⟨m, k, hmk, rfl, hJs, hnx⟩ := hrel
    have HNX := Lib.hid hnx
    have HMK := Lib.hid hmk
    have hbs := HBSK.out wr hnx
    cases m with
    | zero =>
      obtain rfl : k = zs.length := by omega
      have e0 : (((0 : Nat) : Int) - 1) = -1 := rfl
      rw [e0]
      clear hmk hnx e0 hBs
      gi_wp2
      go_end0
      exact ⟨⟨_, rfl⟩, .inl ⟨_, rfl, hJs⟩⟩
    | succ m =>
      have e0 : (((m + 1 : Nat) : Int) - 1) = (m : Int) := by omega
      rw [e0]
      have hml : m < zs.length := by omega
      have hsucc := bw_succ zs k m (by omega)
      obtain ⟨x, hx⟩ : ∃ x, x = zs[m] := ⟨_, rfl⟩
      obtain ⟨c0, c1, c2⟩ := HC.out wr hnx m hml
      rw [← hx] at hsucc c0 c1 c2
      have HS := Lib.hid hsucc
      obtain ⟨fn, tmps, assign, body, hy, hR⟩ := hY _ ((m : Int), x) wr hJs (by unfold bw; rw [List.length_take, List.length_reverse, List.length_mapIdx]; omega)
      dsimp only [isV] at hy
      rw [← hsucc] at hR
      clear hmk hnx hsucc hx e0 hBs
      gi_wp2
      refine hR.mono ?_
      rintro e W3 (⟨rfl, hJ3, hk3⟩ | ⟨rfl, hJx3⟩)
      · gi_wp2
        go_roundw
        case rel => exact ⟨m, k + 1, by have := HMK.out; omega, by first | rfl | go_num, hJ3, HNX.out.trans hk3⟩
        case measure => simp [intOf]
      · gi_wp2
        refine bodyPost_ret (results_none rfl _ _ _) rfl ?_
        exact ⟨⟨_, rfl⟩, .inr ⟨_, ⟨k + 1, by have := HMK.out; omega, rfl⟩, hJx3⟩⟩
set_option maxRecDepth 100000 in
set_option maxHeartbeats 1000000 in
theorem backI1_nil_in (F : Fence) (n : Nat) (hF : F.fn 60) (hro : F.round = none) (l Bs : Nat) (c : Nat) (a : Option Addr) (J : List (Int × Iss) → World → Prop) (W : World) (hBs : W.cell? ⟨Bs, 0, none⟩ = some (.slice a 0 c)) (h0 : J [] W) :
    CallsIn F n Try.prog 60 #[.func (.yield l) #[] #[], .pointer (some ⟨Bs, 0, none⟩)] W fun e W' => (∃ v, e = .returned v) ∧ J [] W' := by
  refine callsIn_of_wp Try.func60 rfl hF ?_ hro
  simp only [Try.ntmps60, List.size_toArray, List.length_cons, List.length_nil, Nat.reduceAdd, Nat.reduceSub, Array.replicate_succ, Array.replicate_zero, List.push_toArray, List.append_toArray, List.nil_append, List.cons_append]
  gi_wp2
  gi_loopw [3] (fun i wr => i = .int .i64 (-1) ∧ J [] wr) (fun _ _ => 0)
  case atStart => exact ⟨rfl, h0⟩
  case round =>
    obtain ⟨rfl, hJs⟩ := hrel
    gi_wp2
    go_end0
    exact ⟨⟨_, rfl⟩, hJs⟩
set_option maxHeartbeats 1000000 in
theorem backI_in (F : Fence) (n : Nat) (hF : F.fn 44) (hro : F.round = none) (a : Option Addr) (len cap : Nat) (w : World) :
    CallsIn F n Try.prog 44 #[.slice a len cap] w fun e w' => e = .returned (.func (.func 60) #[] #[.pointer (some ⟨w.heap.size, 0, none⟩)]) ∧ w' = w.alloc (.cells #[.slice a len cap] 46) := by
  refine callsIn_of_wp Try.func44 rfl hF ?_ hro
  simp only [Try.ntmps44, List.size_toArray, List.length_cons, List.length_nil, Nat.reduceAdd, Nat.reduceSub, Array.replicate_succ, Array.replicate_zero, List.push_toArray, List.append_toArray, List.nil_append, List.cons_append]
  gi_wp2
  go_ret
  exact ⟨rfl, rfl⟩
end Go.Proofs.Ytpagoinnkknkfaa.Pb
