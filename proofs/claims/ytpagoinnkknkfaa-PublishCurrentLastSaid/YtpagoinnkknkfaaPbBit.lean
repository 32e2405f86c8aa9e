/-
  Backward at issued certificates, for a loop that writes to one block ahead of it; reason bits.
-/
import Derived.Test.YtpagoinnkknkfaaPbCur
namespace Go.Proofs.Ytpagoinnkknkfaa.Pb
open Go Go.RowKit Go.Shelf Go.Proofs.Ytpagoinnkknkfaa.Slc
set_option linter.unusedVariables false
set_option linter.unusedSimpArgs false
attribute [local go_sem] Oper.semAt_some

set_option maxRecDepth 100000 in
set_option maxHeartbeats 2000000 in
theorem backI2_in (F : Fence) (n : Nat) (hF : F.fn 60) (hro : F.round = none) (hn : 1 ≤ n) (l Bs b off cap : Nat) (zs : List Iss) (hlen : zs.length ≤ 1000000) (Kp : World → World → Prop) (hrefl : ∀ W, Kp W W) (htr : ∀ {A B C : World}, Kp A B → Kp B C → Kp A C) (J Jx : List (Int × Iss) → World → Prop)
    (hY : ∀ pre x W, J pre W → pre.length < zs.length → x.2 ∈ zs → YieldAt F (n - 1) Try.prog l #[.int .i64 x.1, isV x.2] W fun e W' =>
      (e = .returned (.bool true) ∧ J (pre ++ [x]) W' ∧ Kp W W') ∨ (e = .returned (.bool false) ∧ Jx (pre ++ [x]) W'))
    (W : World) (hBs : ∀ W', Kp W W' → W'.cell? ⟨Bs, 0, none⟩ = some (.slice (some ⟨b, off, none⟩) zs.length cap)) (hc : ∀ W', Kp W W' → ∀ j (h : j < zs.length), W'.cell? ⟨b, off + j * 3, none⟩ = some (.int .i64 (zs[j]).s) ∧ W'.cell? ⟨b, off + j * 3 + 1, none⟩ = some (.bool (zs[j]).ca) ∧ W'.cell? ⟨b, off + j * 3 + 2, none⟩ = some (.string (zs[j]).raw)) (h0 : J [] W) :
    CallsIn F n Try.prog 60 #[.func (.yield l) #[] #[], .pointer (some ⟨Bs, 0, none⟩)] W fun e W' => (∃ v, e = .returned v) ∧
      ((∃ ys, ys = bw zs zs.length ∧ J ys W') ∨ (∃ pre, (∃ k, k ≤ zs.length ∧ pre = bw zs k) ∧ Jx pre W')) := by
  have HC := Lib.hid hc
  have HBSK := Lib.hid hBs
  clear hc hBs
  have hBs := HBSK.out W (hrefl W)
  refine callsIn_of_wp Try.func60 rfl hF ?_ hro
  simp only [Try.ntmps60, List.size_toArray, List.length_cons, List.length_nil, Nat.reduceAdd, Nat.reduceSub, Array.replicate_succ, Array.replicate_zero, List.push_toArray, List.append_toArray, List.nil_append, List.cons_append]
  gi_wp2
  gi_loopw [3] (fun i wr => ∃ m k : Nat, m + k = zs.length ∧ i = .int .i64 ((m : Int) - 1) ∧ J (bw zs k) wr ∧ Kp W wr)
    (fun i _ => (intOf i + 1).toNat)
  case atStart => exact ⟨zs.length, 0, by omega, rfl, h0, hrefl _⟩
  case round =>
    obtain ⟨m, k, hmk, rfl, hJs, hnx⟩ := hrel
    have HNX := Lib.hid hnx
    have HMK := Lib.hid hmk
    have hbs := HBSK.out wr hnx
    cases m with
    | zero =>
      obtain rfl : k = zs.length := by omega
      have e0 : (((0 : Nat) : Int) - 1) = -1 := rfl
      rw [e0]
      clear hmk hnx e0 hBs
      gi_wp2
      go_end0
      exact ⟨⟨_, rfl⟩, .inl ⟨_, rfl, hJs⟩⟩
    | succ m =>
      have e0 : (((m + 1 : Nat) : Int) - 1) = (m : Int) := by omega
      rw [e0]
      have hml : m < zs.length := by omega
      have hsucc := bw_succ zs k m (by omega)
      obtain ⟨x, hx⟩ : ∃ x, x = zs[m] := ⟨_, rfl⟩
      obtain ⟨c0, c1, c2⟩ := HC.out wr hnx m hml
      rw [← hx] at hsucc c0 c1 c2
      have HS := Lib.hid hsucc
      obtain ⟨fn, tmps, assign, body, hy, hR⟩ := hY _ ((m : Int), x) wr hJs (by unfold bw; rw [List.length_take, List.length_reverse, List.length_mapIdx]; omega) (by rw [hx]; exact List.getElem_mem hml)
      dsimp only [isV] at hy
      rw [← hsucc] at hR
      clear hmk hnx hsucc hx e0 hBs
      gi_wp2
      refine hR.mono ?_
      rintro e W3 (⟨rfl, hJ3, hk3⟩ | ⟨rfl, hJx3⟩)
      · gi_wp2
        go_roundw
        case rel => exact ⟨m, k + 1, by have := HMK.out; omega, by first | rfl | go_num, hJ3, htr HNX.out hk3⟩
        case measure => simp [intOf]
      · gi_wp2
        refine bodyPost_ret (results_none rfl _ _ _) rfl ?_
        exact ⟨⟨_, rfl⟩, .inr ⟨_, ⟨k + 1, by have := HMK.out; omega, rfl⟩, hJx3⟩⟩
/-- all blocks below n but p stay -/
structure KB (n p : Nat) (W W' : World) : Prop where
  os : W'.os = W.os
  tape : W'.tape = W.tape
  output : W'.output = W.output
  size : W.heap.size ≤ W'.heap.size
  block : ∀ k, k < n → k ≠ p → W'.heap[k]? = W.heap[k]?
theorem KB.refl (n p : Nat) (W : World) : KB n p W W := ⟨rfl, rfl, rfl, Nat.le_refl _, fun _ _ _ => rfl⟩
theorem KB.trans {n p : Nat} {A B C : World} (h : KB n p A B) (k : KB n p B C) : KB n p A C := ⟨k.os.trans h.os, k.tape.trans h.tape, k.output.trans h.output, Nat.le_trans h.size k.size, fun i h1 h2 => (k.block i h1 h2).trans (h.block i h1 h2)⟩
theorem KB.of_below {n p : Nat} {A B : World} (h : Below n A B) : KB n p A B := ⟨h.os, h.tape, h.output, h.size, fun k hk _ => h.block k hk⟩
theorem KB.grown {n p : Nat} {A B : World} (h : A.grownBy B (some p)) (hn : n ≤ A.heap.size) : KB n p A B := ⟨h.os, h.tape, h.output, h.size, fun k hk hne => h.block k (by omega) (fun e => hne (by simpa using e))⟩
def bitR (r : Int) : Int := if 1 ≤ r ∧ r ≤ 6 then 2 ^ r.toNat else if r = 9 then 128 else if r = 10 then 256 else 0
theorem pbit_any (w : World) (r : Int) : Calls Try.prog 45 #[.int .i64 r] w fun e w' => e = .returned (.int .i64 (bitR r)) ∧ w = w' := by
  by_cases h : 1 ≤ r ∧ r ≤ 6
  · have hc : r = 1 ∨ r = 2 ∨ r = 3 ∨ r = 4 ∨ r = 5 ∨ r = 6 := by omega
    rcases hc with rfl | rfl | rfl | rfl | rfl | rfl
    all_goals
      clear h
      go_enter Try.func45, Try.ntmps45
      go_wp2
      go_ret
      exact ⟨rfl, rfl⟩
  · by_cases h9 : r = 9
    · subst h9
      clear h
      go_enter Try.func45, Try.ntmps45
      go_wp2
      go_ret
      exact ⟨rfl, rfl⟩
    by_cases h10 : r = 10
    · subst h10
      clear h h9
      go_enter Try.func45, Try.ntmps45
      go_wp2
      go_ret
      exact ⟨rfl, rfl⟩
    have hr : bitR r = 0 := by unfold bitR; rw [if_neg h, if_neg h9, if_neg h10]
    rw [hr]
    have t9 : (r == 9) = false := by simpa using h9
    have t10 : (r == 10) = false := by simpa using h10
    clear hr h9 h10
    by_cases h1 : 1 ≤ r
    · have t1 : decide (r ≥ 1) = true := decide_eq_true (by omega)
      have t6 : decide (r ≤ 6) = false := decide_eq_false (by omega)
      clear h h1
      go_enter Try.func45, Try.ntmps45
      go_wp2
      go_ret
      exact ⟨rfl, rfl⟩
    · have t1 : decide (r ≥ 1) = false := decide_eq_false (by omega)
      clear h h1
      go_enter Try.func45, Try.ntmps45
      go_wp2
      go_ret
      exact ⟨rfl, rfl⟩
theorem rbit_any (w : World) (r : Int) : Calls Try.prog 47 #[.int .i64 r] w fun e w' => e = .returned (.int .i64 (bitR r)) ∧ w = w' := by
  by_cases h : 1 ≤ r ∧ r ≤ 6
  · have hc : r = 1 ∨ r = 2 ∨ r = 3 ∨ r = 4 ∨ r = 5 ∨ r = 6 := by omega
    rcases hc with rfl | rfl | rfl | rfl | rfl | rfl
    all_goals
      clear h
      go_enter Try.func47, Try.ntmps47
      go_wp2
      go_ret
      exact ⟨rfl, rfl⟩
  · by_cases h9 : r = 9
    · subst h9
      clear h
      go_enter Try.func47, Try.ntmps47
      go_wp2
      go_ret
      exact ⟨rfl, rfl⟩
    by_cases h10 : r = 10
    · subst h10
      clear h h9
      go_enter Try.func47, Try.ntmps47
      go_wp2
      go_ret
      exact ⟨rfl, rfl⟩
    have hr : bitR r = 0 := by unfold bitR; rw [if_neg h, if_neg h9, if_neg h10]
    rw [hr]
    have t9 : (r == 9) = false := by simpa using h9
    have t10 : (r == 10) = false := by simpa using h10
    clear hr h9 h10
    by_cases h1 : 1 ≤ r
    · have t1 : decide (r ≥ 1) = true := decide_eq_true (by omega)
      have t6 : decide (r ≤ 6) = false := decide_eq_false (by omega)
      clear h h1
      go_enter Try.func47, Try.ntmps47
      go_wp2
      go_ret
      exact ⟨rfl, rfl⟩
    · have t1 : decide (r ≥ 1) = false := decide_eq_false (by omega)
      clear h h1
      go_enter Try.func47, Try.ntmps47
      go_wp2
      go_ret
      exact ⟨rfl, rfl⟩
end Go.Proofs.Ytpagoinnkknkfaa.Pb
