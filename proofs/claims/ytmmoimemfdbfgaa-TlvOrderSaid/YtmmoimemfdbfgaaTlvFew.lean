/-
  The contract of Few: at most so many strings, each at most so long.
-/
import Derived.Test.YtmmoimemfdbfgaaLawTlvBase
namespace Go.Proofs.Ytmmoimemfdbfgaa
open Go.RowKit
set_option linter.unusedSimpArgs false

def few (xs : List ByteArray) (n m : Nat) : Bool := decide (xs.length ≤ n) && xs.all (fun x => decide (x.size ≤ m))
theorem few_flat : ∀ (xs : List ByteArray) (m : Nat), (xs.all (fun x => decide (x.size ≤ m))) = true → (Tl.flat xs).length ≤ xs.length * m
  | [], m, _ => by simp [Tl.flat]
  | x :: xs, m, h => by
    simp only [List.all_cons, Bool.and_eq_true, decide_eq_true_eq] at h
    have ih := few_flat xs m h.2
    have e : (Tl.flat (x :: xs)).length = x.size + (Tl.flat xs).length := by simp [Tl.flat]
    rw [e, List.length_cons, Nat.succ_mul]; omega
theorem few_size {xs : List ByteArray} {n m : Nat} (h : few xs n m = true) : (Tl.flat xs).length ≤ n * m := by
  unfold few at h
  simp only [Bool.and_eq_true, decide_eq_true_eq] at h
  exact Nat.le_trans (few_flat xs m h.2) (Nat.mul_le_mul_right m h.1)

theorem few_any (v : Value) (xs : List ByteArray) (n' m' : Nat) (n m : Int) (en : n = n') (em : m = m') (w : World) (h : Strs w v xs) :
    Calls Try.prog 11 #[v, .int .i64 n, .int .i64 m] w fun e w' => e = .returned (.bool (few xs n' m')) ∧ w = w' := by
  cases h with
  | none a c =>
    have t0 : decide (n < 0) = false := by simp; omega
    clear en em
    go_enter Try.func11, Try.ntmps11
    go_wp2
    go_loop [15] (fun i => i = .int .i64 0) (fun i => 0)
    case atStart => rfl
    case round =>
      subst hrel
      go_wp2
      go_ret
      exact ⟨by simp [few], rfl⟩
  | some bk o c x xs hb hc hl h =>
    unfold maxLen at hl
    generalize hX : x :: xs = X at *
    by_cases hg : n' < X.length
    · have t0 : decide (n < (X.length : Int)) = true := by simp; omega
      have hF : few X n' m' = false := by unfold few; rw [decide_eq_false (by omega)]; rfl
      rw [hF]
      clear en em hg
      go_enter Try.func11, Try.ntmps11
      go_wp2
      go_ret
      exact ⟨rfl, rfl⟩
    · have t0 : decide (n < (X.length : Int)) = false := by simp; omega
      have hE := Lib.hid (show few X n' m' = X.all (fun x => decide (x.size ≤ m')) from by unfold few; rw [decide_eq_true (by omega)]; rfl)
      have EM := Lib.hid em
      have H := Lib.hid h
      clear hg hX en em h
      go_enter Try.func11, Try.ntmps11
      go_wp2
      go_loop [15] (fun i => ∃ k : Nat, k ≤ X.length ∧ i = .int .i64 k ∧ (X.take k).all (fun x => decide (x.size ≤ m')) = true) (fun i => X.length - (intOf i).toNat)
      case atStart => exact ⟨0, by omega, rfl, rfl⟩
      case round =>
        obtain ⟨k, hk, rfl, ha⟩ := hrel
        by_cases hlt : k < X.length
        · have hx := H.out k X[k] (by simp [hlt])
          have hsn : X.take (k + 1) = X.take k ++ [X[k]] := List.take_succ_eq_append_getElem hlt
          have em := EM.out
          by_cases hz : m' < X[k].size
          · have t1 : decide (m < (X[k].size : Int)) = true := by simp; omega
            have hF : few X n' m' = false := by
              rw [hE.out, List.all_eq_false]; exact ⟨X[k], List.getElem_mem _, by simp; omega⟩
            have HF := Lib.hid hF
            clear hF ha hsn hz em
            generalize X[k] = y at *
            go_wp2
            go_ret
            exact ⟨by rw [HF.out]; rfl, rfl⟩
          · have t1 : decide (m < (X[k].size : Int)) = false := by simp; omega
            have hA : (X.take (k + 1)).all (fun x => decide (x.size ≤ m')) = true := by rw [hsn, List.all_append, ha]; simp; omega
            have HA := Lib.hid hA
            clear hA ha hsn hz em
            generalize X[k] = y at *
            go_wp2
            go_round
            case rel => exact ⟨k + 1, by omega, by go_num, HA.out⟩
            case measure => simp [intOf]; omega
        · obtain rfl : k = X.length := by omega
          have hF : few X n' m' = true := by rw [hE.out]; rwa [List.take_length] at ha
          have HF := Lib.hid hF
          clear hF ha
          go_wp2
          go_ret
          exact ⟨by rw [HF.out]; rfl, rfl⟩

end Go.Proofs.Ytmmoimemfdbfgaa
