/-
  The contract of the definition's Read. (Written by wip/gen/gen_rread.py.)
-/
import Derived.Test.YtmmoimemfdbfgaaBytes
import Derived.Test.YtmmoimemfdbfgaaBits
import Derived.Test.YtmmoimemfdbfgaaTlvRd
import Derived.Lib.Hide
import Derived.Test.YtmmoimemfdbfgaaTail
import Derived.IntWalk
import Derived.BigRegion
namespace Go.Proofs.Ytmmoimemfdbfgaa
open Go.RowKit

def errV (c : Int) : Value := .tuple #[.agg #[.int .i64 0, .string ⟨#[]⟩, .string ⟨#[]⟩], .string ⟨#[]⟩, .int .i64 c]
def okV (b : ByteArray) (t a n : Nat) : Value := .tuple #[.agg #[.int .i64 t, .string (b.extract a (a + n)), .string (b.extract 0 (a + n))], .string (b.extract (a + n) b.size), .int .i64 0]
def resV (b : ByteArray) : Tl.Res → Value
  | .err c => errV c
  | .ok a n => okV b (Tl.byt b 0) a n

theorem idx (b : ByteArray) (k : Nat) (x : Int) (hx : x = k) (h : k < b.size) (w : World) : (Instr.index 9 (.string b) (.int .i64 x)).run Try.prog w = .ok (.int .u8 (Tl.byt b k : Nat)) w := by
  subst hx
  rw [← Tl.byt_get b k h]
  simp [Instr.index, run_underlying Try.underlying9, go_sem, h]
theorem idx' (b : ByteArray) (k n : Nat) (x y : Int) (hx : x = k) (h : k < b.size) (hn : Tl.byt b k = n) (hy : y = n) (w : World) : (Instr.index 9 (.string b) (.int .i64 x)).run Try.prog w = .ok (.int .u8 y) w := by
  subst hn hy; exact idx b k x hx h w
theorem sl_lh (b : ByteArray) (x y : Int) (m n : Nat) (hx : x = m) (hy : y = n) (h1 : m ≤ n) (h2 : n ≤ b.size) (w : World) :
    (Instr.slice 9 (.string b) (some (.int .i64 x)) (some (.int .i64 y)) none).run Try.prog w = .ok (.string (b.extract m n)) w := by
  subst hx hy; exact By.slice_lh b m n h1 h2 w
theorem sl_h (b : ByteArray) (y : Int) (n : Nat) (hy : y = n) (h2 : n ≤ b.size) (w : World) :
    (Instr.slice 9 (.string b) none (some (.int .i64 y)) none).run Try.prog w = .ok (.string (b.extract 0 n)) w := by
  subst hy; rw [run_slice_string_h (P := Try.prog) (ht := Try.underlying9) (h0 := by omega) (h2 := by omega)]; rfl
theorem sl_l (b : ByteArray) (x : Int) (m : Nat) (hx : x = m) (h2 : m ≤ b.size) (w : World) :
    (Instr.slice 9 (.string b) (some (.int .i64 x)) none none).run Try.prog w = .ok (.string (b.extract m b.size)) w := by
  subst hx; rw [run_slice_string_l (P := Try.prog) (ht := Try.underlying9) (h0 := by omega) (h1 := by omega)]; rfl

set_option maxRecDepth 10000 in
set_option linter.unusedSimpArgs false in
theorem rread_empty (b : ByteArray) (w : World) (h : b.size = 0) :
    Calls Try.prog 29 #[.string b] w fun e w' => e = .returned (errV 3) ∧ Below w.heap.size w w' := by
  have t0 : (((b.size : Int) : Int) == 0) = true := by rw [beq_iff_eq]; omega
  clear h
  go_enter Try.func29, Try.ntmps29
  go_wp2
  refine bodyPost_ret (v := errV 3) (by simp [results, Try.results29, go_sem, errV, okV]) rfl ⟨rfl, ?_⟩
  exact ((Below.refl w.heap.size w).alloc (Nat.le_refl _) _).alloc (by simp) _

set_option maxRecDepth 10000 in
set_option linter.unusedSimpArgs false in
theorem rread_tag (b : ByteArray) (w : World) (h1 : 0 < b.size) (h2 : Tl.byt b 0 % 32 = 31) :
    Calls Try.prog 29 #[.string b] w fun e w' => e = .returned (errV 5) ∧ Below w.heap.size w w' := by
  have x0 := idx b 0 0 rfl (by omega)
  have b0 := Tl.byt_lt b 0
  generalize Tl.byt b 0 = n0 at *
  have t0 : (((b.size : Int) : Int) == 0) = false := by rw [beq_eq_false_iff_ne]; omega
  have t1 : ((n0 : Int) % 32 == 31) = true := by rw [beq_iff_eq]; omega
  clear h2 h1
  go_enter Try.func29, Try.ntmps29
  go_wp2
  refine bodyPost_ret (v := errV 5) (by simp [results, Try.results29, go_sem, errV, okV]) rfl ⟨rfl, ?_⟩
  exact ((Below.refl w.heap.size w).alloc (Nat.le_refl _) _).alloc (by simp) _

set_option maxRecDepth 10000 in
set_option linter.unusedSimpArgs false in
theorem rread_one (b : ByteArray) (w : World) (h1 : b.size = 1) (h2 : Tl.byt b 0 % 32 ≠ 31) :
    Calls Try.prog 29 #[.string b] w fun e w' => e = .returned (errV 3) ∧ Below w.heap.size w w' := by
  have x0 := idx b 0 0 rfl (by omega)
  have b0 := Tl.byt_lt b 0
  generalize Tl.byt b 0 = n0 at *
  have t0 : (((b.size : Int) : Int) == 0) = false := by rw [beq_eq_false_iff_ne]; omega
  have t1 : ((n0 : Int) % 32 == 31) = false := by rw [beq_eq_false_iff_ne]; omega
  have t2 : (((b.size : Int) : Int) == 1) = true := by rw [beq_iff_eq]; omega
  clear h2 h1
  go_enter Try.func29, Try.ntmps29
  go_wp2
  refine bodyPost_ret (v := errV 3) (by simp [results, Try.results29, go_sem, errV, okV]) rfl ⟨rfl, ?_⟩
  exact ((Below.refl w.heap.size w).alloc (Nat.le_refl _) _).alloc (by simp) _

set_option maxRecDepth 10000 in
set_option linter.unusedSimpArgs false in
theorem rread_form (b : ByteArray) (w : World) (h1 : 2 ≤ b.size) (h2 : Tl.byt b 0 % 32 ≠ 31) (h3 : Tl.byt b 1 = 128 ∨ 131 < Tl.byt b 1) :
    Calls Try.prog 29 #[.string b] w fun e w' => e = .returned (errV 6) ∧ Below w.heap.size w w' := by
  have x0 := idx b 0 0 rfl (by omega)
  have b0 := Tl.byt_lt b 0
  have x1 := idx b 1 1 rfl (by omega)
  have b1 := Tl.byt_lt b 1
  generalize Tl.byt b 0 = n0 at *
  generalize Tl.byt b 1 = n1 at *
  have t0 : (((b.size : Int) : Int) == 0) = false := by rw [beq_eq_false_iff_ne]; omega
  have t1 : ((n0 : Int) % 32 == 31) = false := by rw [beq_eq_false_iff_ne]; omega
  have t2 : (((b.size : Int) : Int) == 1) = false := by rw [beq_eq_false_iff_ne]; omega
  have t3 : (((n1 : Int) == 128) || decide (131 < (n1 : Int))) = true := by simp; omega
  clear h2 h1
  rcases h3 with rfl | h3
  · clear t3
    go_enter Try.func29, Try.ntmps29
    go_wp2
    refine bodyPost_ret (v := errV 6) (by simp [results, Try.results29, go_sem, errV, okV]) rfl ⟨rfl, ?_⟩
    exact ((Below.refl w.heap.size w).alloc (Nat.le_refl _) _).alloc (by simp) _
  · have t4 : ((n1 : Int) == 128) = false := by rw [beq_eq_false_iff_ne]; omega
    have t5 : decide (131 < (n1 : Int)) = true := by simp; omega
    clear t3 h3
    go_enter Try.func29, Try.ntmps29
    go_wp2
    refine bodyPost_ret (v := errV 6) (by simp [results, Try.results29, go_sem, errV, okV]) rfl ⟨rfl, ?_⟩
    exact ((Below.refl w.heap.size w).alloc (Nat.le_refl _) _).alloc (by simp) _

set_option maxRecDepth 10000 in
set_option linter.unusedSimpArgs false in
theorem rread_short_cut (b : ByteArray) (w : World) (hs : b.size ≤ 1000000000) (h1 : 2 ≤ b.size) (h2 : Tl.byt b 0 % 32 ≠ 31) (h3 : Tl.byt b 1 < 128) (h4 : b.size < 2 + Tl.byt b 1) :
    Calls Try.prog 29 #[.string b] w fun e w' => e = .returned (errV 3) ∧ Below w.heap.size w w' := by
  have x0 := idx b 0 0 rfl (by omega)
  have b0 := Tl.byt_lt b 0
  have x1 := idx b 1 1 rfl (by omega)
  have b1 := Tl.byt_lt b 1
  generalize Tl.byt b 0 = n0 at *
  generalize Tl.byt b 1 = n1 at *
  have t0 : (((b.size : Int) : Int) == 0) = false := by rw [beq_eq_false_iff_ne]; omega
  have t1 : ((n0 : Int) % 32 == 31) = false := by rw [beq_eq_false_iff_ne]; omega
  have t2 : (((b.size : Int) : Int) == 1) = false := by rw [beq_eq_false_iff_ne]; omega
  have t3 : ((n1 : Int) == 128) = false := by rw [beq_eq_false_iff_ne]; omega
  have t4 : decide (131 < (n1 : Int)) = false := by simp; omega
  have t5 : decide (128 < (n1 : Int)) = false := by simp; omega
  have t6 : decide ((b.size : Int) - 2 < (n1 : Int)) = true := by simp; omega
  clear h2 h1 h3 h4
  go_enter Try.func29, Try.ntmps29
  go_wp2
  refine bodyPost_ret (v := errV 3) (by simp [results, Try.results29, go_sem, errV, okV]) rfl ⟨rfl, ?_⟩
  exact ((Below.refl w.heap.size w).alloc (Nat.le_refl _) _).alloc (by simp) _

set_option maxRecDepth 10000 in
set_option linter.unusedSimpArgs false in
theorem rread_short (b : ByteArray) (w : World) (hs : b.size ≤ 1000000000) (h1 : 2 ≤ b.size) (h2 : Tl.byt b 0 % 32 ≠ 31) (h3 : Tl.byt b 1 < 128) (h4 : 2 + Tl.byt b 1 ≤ b.size) :
    Calls Try.prog 29 #[.string b] w fun e w' => e = .returned (okV b (Tl.byt b 0) 2 (Tl.byt b 1)) ∧ Below w.heap.size w w' := by
  have x0 := idx b 0 0 rfl (by omega)
  have b0 := Tl.byt_lt b 0
  have x1 := idx b 1 1 rfl (by omega)
  have b1 := Tl.byt_lt b 1
  generalize Tl.byt b 0 = n0 at *
  generalize Tl.byt b 1 = n1 at *
  have t0 : (((b.size : Int) : Int) == 0) = false := by rw [beq_eq_false_iff_ne]; omega
  have t1 : ((n0 : Int) % 32 == 31) = false := by rw [beq_eq_false_iff_ne]; omega
  have t2 : (((b.size : Int) : Int) == 1) = false := by rw [beq_eq_false_iff_ne]; omega
  have t3 : ((n1 : Int) == 128) = false := by rw [beq_eq_false_iff_ne]; omega
  have t4 : decide (131 < (n1 : Int)) = false := by simp; omega
  have t5 : decide (128 < (n1 : Int)) = false := by simp; omega
  have t6 : decide ((b.size : Int) - 2 < (n1 : Int)) = false := by simp; omega
  have r0 := sl_lh b 2 (2 + (n1 : Int)) 2 (2 + n1) rfl (by omega) (by omega) (by omega)
  have r1 := sl_h b (2 + (n1 : Int)) (2 + n1) (by omega) (by omega)
  have r2 := sl_l b (2 + (n1 : Int)) (2 + n1) (by omega) (by omega)
  have g1 : IntKind.i64.wrap ((2 : Int) + n1) = (2 : Int) + n1 := IntWalk.i64_in _ (by omega)
  clear h2 h3 h1
  go_enter Try.func29, Try.ntmps29
  go_wp2_with fail
  go_region
  go_wp2
  refine bodyPost_ret (v := okV b n0 2 n1) (by simp [results, Try.results29, go_sem, errV, okV]) rfl ⟨rfl, ?_⟩
  exact (((Below.refl w.heap.size w).alloc (Nat.le_refl _) _).alloc (by simp) _).drew

set_option maxRecDepth 10000 in
set_option linter.unusedSimpArgs false in
theorem rread_long1_cut (b : ByteArray) (w : World) (hs : b.size ≤ 1000000000) (h1 : 2 ≤ b.size) (h2 : Tl.byt b 0 % 32 ≠ 31) (h3 : Tl.byt b 1 = 129) (h4 : b.size < 2 + 1) :
    Calls Try.prog 29 #[.string b] w fun e w' => e = .returned (errV 3) ∧ Below w.heap.size w w' := by
  have x0 := idx b 0 0 rfl (by omega)
  have b0 := Tl.byt_lt b 0
  have x1 := idx' b 1 129 1 129 rfl (by omega) h3 rfl
  generalize Tl.byt b 0 = n0 at *
  have t0 : (((b.size : Int) : Int) == 0) = false := by rw [beq_eq_false_iff_ne]; omega
  have t1 : ((n0 : Int) % 32 == 31) = false := by rw [beq_eq_false_iff_ne]; omega
  have t2 : (((b.size : Int) : Int) == 1) = false := by rw [beq_eq_false_iff_ne]; omega
  have t3 : decide ((b.size : Int) < 3) = true := by simp; omega
  clear h2 h1 h3 h4
  go_enter Try.func29, Try.ntmps29
  go_wp2
  refine bodyPost_ret (v := errV 3) (by simp [results, Try.results29, go_sem, errV, okV]) rfl ⟨rfl, ?_⟩
  exact ((Below.refl w.heap.size w).alloc (Nat.le_refl _) _).alloc (by simp) _

set_option maxRecDepth 10000 in
set_option linter.unusedSimpArgs false in
theorem rread_long1 (b : ByteArray) (w : World) (hs : b.size ≤ 1000000000) (h1 : 2 ≤ b.size) (h2 : Tl.byt b 0 % 32 ≠ 31) (h3 : Tl.byt b 1 = 129) (h4 : 2 + 1 ≤ b.size) :
    Calls Try.prog 29 #[.string b] w fun e w' => e = .returned (resV b (Tl.long b 1)) ∧ Below w.heap.size w w' := by
  have x0 := idx b 0 0 rfl (by omega)
  have b0 := Tl.byt_lt b 0
  have x1 := idx' b 1 129 1 129 rfl (by omega) h3 rfl
  have hV : resV b (Tl.long b 1) = if Tl.beN b 1 < 128 ∨ 131072 < Tl.beN b 1 then errV 6 else if b.size < 2 + 1 + Tl.beN b 1 then errV 3 else okV b (Tl.byt b 0) 3 (Tl.beN b 1) := by
    unfold Tl.long Tl.fin
    rw [if_neg (by omega), show Tl.least 1 = 128 from rfl]
    split
    · rfl
    · split <;> rfl
  generalize Tl.byt b 0 = n0 at *
  have t0 : (((b.size : Int) : Int) == 0) = false := by rw [beq_eq_false_iff_ne]; omega
  have t1 : ((n0 : Int) % 32 == 31) = false := by rw [beq_eq_false_iff_ne]; omega
  have t2 : (((b.size : Int) : Int) == 1) = false := by rw [beq_eq_false_iff_ne]; omega
  have t3 : decide ((b.size : Int) < 3) = false := by simp; omega
  have HI : ∀ j : Nat, j < 1 → ∀ wx, (Instr.index 9 (.string b) (.int .i64 ((2 : Int) + j))).run Try.prog wx = .ok (.int .u8 (Tl.byt b (2 + j) : Nat)) wx := fun j hj => idx b (2 + j) _ (by omega) (by omega)
  have HI' := Lib.hid HI
  clear h2 h3 HI
  go_enter Try.func29, Try.ntmps29
  go_wp2
  go_loop [6, 9] (fun n i => ∃ j : Nat, j ≤ 1 ∧ i = .int .i64 j ∧ n = .int .i64 (Tl.beN b j)) (fun _ i => 1 - (intOf i).toNat)
  case atStart => exact ⟨0, by omega, rfl, rfl⟩
  case round =>
    obtain ⟨j, hj, rfl, rfl⟩ := hrel
    by_cases hlt : j < 1
    · have xj := HI'.out j hlt
      have hb2 := Tl.beN_lt b j (by omega)
      have hst : ((Tl.beN b (j + 1) : Nat) : Int) = 256 * (Tl.beN b j : Int) + (Tl.byt b (2 + j) : Int) := by simp [Tl.beN]
      have HS := Lib.hid hst
      have bj := Tl.byt_lt b (2 + j)
      clear hst
      generalize Tl.byt b (2 + j) = m at *
      generalize Tl.beN b j = M at *
      go_wp2
      go_round
      case rel => exact ⟨j + 1, by omega, by go_num, by rw [HS.out]⟩
      case measure => simp [intOf]; omega
    · obtain rfl : j = 1 := by omega
      have hb2 := Tl.beN_lt b 1 (by omega)
      clear hlt hj
      generalize Tl.beN b 1 = M at *
      by_cases q1 : M < 128
      · have u1 : decide ((M : Int) < 128) = true := by simp; omega
        have HR := Lib.hid (hV.trans (if_pos (Or.inl q1)))
        clear hV h4 hs
        go_wp2
        refine bodyPost_ret (v := errV 6) (by simp [results, Try.results29, go_sem, errV, okV]) rfl ⟨?_, (((Below.refl w.heap.size w).alloc (Nat.le_refl _) _).alloc (by simp) _).alloc (by simp; omega) _⟩
        rw [HR.out]
      · by_cases q2 : 131072 < M
        · have u1 : decide ((M : Int) < 128) = false := by simp; omega
          have u2 : decide (131072 < (M : Int)) = true := by simp; omega
          have HR := Lib.hid (hV.trans (if_pos (Or.inr q2)))
          clear hV h4 hs
          go_wp2
          refine bodyPost_ret (v := errV 6) (by simp [results, Try.results29, go_sem, errV, okV]) rfl ⟨?_, (((Below.refl w.heap.size w).alloc (Nat.le_refl _) _).alloc (by simp) _).alloc (by simp; omega) _⟩
          rw [HR.out]
        · have u1 : decide ((M : Int) < 128) = false := by simp; omega
          have u2 : decide (131072 < (M : Int)) = false := by simp; omega
          have hV1 := hV.trans (if_neg (by omega))
          by_cases q3 : b.size < 2 + 1 + M
          · have u3 : decide ((b.size : Int) - 3 < (M : Int)) = true := by simp; omega
            have HR := Lib.hid (hV1.trans (if_pos q3))
            clear hV hV1 h4 q1 q2 q3
            go_wp2
            refine bodyPost_ret (v := errV 3) (by simp [results, Try.results29, go_sem, errV, okV]) rfl ⟨?_, (((Below.refl w.heap.size w).alloc (Nat.le_refl _) _).alloc (by simp) _).alloc (by simp; omega) _⟩
            rw [HR.out]
          · have u3 : decide ((b.size : Int) - 3 < (M : Int)) = false := by simp; omega
            have HR := Lib.hid (hV1.trans (if_neg q3))
            have r0 := sl_lh b 3 (3 + (M : Int)) 3 (3 + M) rfl (by omega) (by omega) (by omega)
            have r1 := sl_h b (3 + (M : Int)) (3 + M) (by omega) (by omega)
            have r2 := sl_l b (3 + (M : Int)) (3 + M) (by omega) (by omega)
            have g1 : IntKind.i64.wrap ((3 : Int) + M) = (3 : Int) + M := IntWalk.i64_in _ (by omega)
            clear hV hV1 h4 q1 q2
            go_wp2_with fail
            go_region
            go_wp2
            refine bodyPost_ret (v := okV b n0 3 M) (by simp [results, Try.results29, go_sem, errV, okV]) rfl ⟨?_, ((((Below.refl w.heap.size w).alloc (Nat.le_refl _) _).alloc (by simp) _).alloc (by simp; omega) _).drew⟩
            rw [HR.out]

set_option maxRecDepth 10000 in
set_option linter.unusedSimpArgs false in
theorem rread_long2_cut (b : ByteArray) (w : World) (hs : b.size ≤ 1000000000) (h1 : 2 ≤ b.size) (h2 : Tl.byt b 0 % 32 ≠ 31) (h3 : Tl.byt b 1 = 130) (h4 : b.size < 2 + 2) :
    Calls Try.prog 29 #[.string b] w fun e w' => e = .returned (errV 3) ∧ Below w.heap.size w w' := by
  have x0 := idx b 0 0 rfl (by omega)
  have b0 := Tl.byt_lt b 0
  have x1 := idx' b 1 130 1 130 rfl (by omega) h3 rfl
  generalize Tl.byt b 0 = n0 at *
  have t0 : (((b.size : Int) : Int) == 0) = false := by rw [beq_eq_false_iff_ne]; omega
  have t1 : ((n0 : Int) % 32 == 31) = false := by rw [beq_eq_false_iff_ne]; omega
  have t2 : (((b.size : Int) : Int) == 1) = false := by rw [beq_eq_false_iff_ne]; omega
  have t3 : decide ((b.size : Int) < 4) = true := by simp; omega
  clear h2 h1 h3 h4
  go_enter Try.func29, Try.ntmps29
  go_wp2
  refine bodyPost_ret (v := errV 3) (by simp [results, Try.results29, go_sem, errV, okV]) rfl ⟨rfl, ?_⟩
  exact ((Below.refl w.heap.size w).alloc (Nat.le_refl _) _).alloc (by simp) _

set_option maxRecDepth 10000 in
set_option linter.unusedSimpArgs false in
theorem rread_long2 (b : ByteArray) (w : World) (hs : b.size ≤ 1000000000) (h1 : 2 ≤ b.size) (h2 : Tl.byt b 0 % 32 ≠ 31) (h3 : Tl.byt b 1 = 130) (h4 : 2 + 2 ≤ b.size) :
    Calls Try.prog 29 #[.string b] w fun e w' => e = .returned (resV b (Tl.long b 2)) ∧ Below w.heap.size w w' := by
  have x0 := idx b 0 0 rfl (by omega)
  have b0 := Tl.byt_lt b 0
  have x1 := idx' b 1 130 1 130 rfl (by omega) h3 rfl
  have hV : resV b (Tl.long b 2) = if Tl.beN b 2 < 256 ∨ 131072 < Tl.beN b 2 then errV 6 else if b.size < 2 + 2 + Tl.beN b 2 then errV 3 else okV b (Tl.byt b 0) 4 (Tl.beN b 2) := by
    unfold Tl.long Tl.fin
    rw [if_neg (by omega), show Tl.least 2 = 256 from rfl]
    split
    · rfl
    · split <;> rfl
  generalize Tl.byt b 0 = n0 at *
  have t0 : (((b.size : Int) : Int) == 0) = false := by rw [beq_eq_false_iff_ne]; omega
  have t1 : ((n0 : Int) % 32 == 31) = false := by rw [beq_eq_false_iff_ne]; omega
  have t2 : (((b.size : Int) : Int) == 1) = false := by rw [beq_eq_false_iff_ne]; omega
  have t3 : decide ((b.size : Int) < 4) = false := by simp; omega
  have HI : ∀ j : Nat, j < 2 → ∀ wx, (Instr.index 9 (.string b) (.int .i64 ((2 : Int) + j))).run Try.prog wx = .ok (.int .u8 (Tl.byt b (2 + j) : Nat)) wx := fun j hj => idx b (2 + j) _ (by omega) (by omega)
  have HI' := Lib.hid HI
  clear h2 h3 HI
  go_enter Try.func29, Try.ntmps29
  go_wp2
  go_loop [6, 9] (fun n i => ∃ j : Nat, j ≤ 2 ∧ i = .int .i64 j ∧ n = .int .i64 (Tl.beN b j)) (fun _ i => 2 - (intOf i).toNat)
  case atStart => exact ⟨0, by omega, rfl, rfl⟩
  case round =>
    obtain ⟨j, hj, rfl, rfl⟩ := hrel
    by_cases hlt : j < 2
    · have xj := HI'.out j hlt
      have hb2 := Tl.beN_lt b j (by omega)
      have hst : ((Tl.beN b (j + 1) : Nat) : Int) = 256 * (Tl.beN b j : Int) + (Tl.byt b (2 + j) : Int) := by simp [Tl.beN]
      have HS := Lib.hid hst
      have bj := Tl.byt_lt b (2 + j)
      clear hst
      generalize Tl.byt b (2 + j) = m at *
      generalize Tl.beN b j = M at *
      go_wp2
      go_round
      case rel => exact ⟨j + 1, by omega, by go_num, by rw [HS.out]⟩
      case measure => simp [intOf]; omega
    · obtain rfl : j = 2 := by omega
      have hb2 := Tl.beN_lt b 2 (by omega)
      clear hlt hj
      generalize Tl.beN b 2 = M at *
      by_cases q1 : M < 256
      · have u1 : decide ((M : Int) < 256) = true := by simp; omega
        have HR := Lib.hid (hV.trans (if_pos (Or.inl q1)))
        clear hV h4 hs
        go_wp2
        refine bodyPost_ret (v := errV 6) (by simp [results, Try.results29, go_sem, errV, okV]) rfl ⟨?_, (((Below.refl w.heap.size w).alloc (Nat.le_refl _) _).alloc (by simp) _).alloc (by simp; omega) _⟩
        rw [HR.out]
      · by_cases q2 : 131072 < M
        · have u1 : decide ((M : Int) < 256) = false := by simp; omega
          have u2 : decide (131072 < (M : Int)) = true := by simp; omega
          have HR := Lib.hid (hV.trans (if_pos (Or.inr q2)))
          clear hV h4 hs
          go_wp2
          refine bodyPost_ret (v := errV 6) (by simp [results, Try.results29, go_sem, errV, okV]) rfl ⟨?_, (((Below.refl w.heap.size w).alloc (Nat.le_refl _) _).alloc (by simp) _).alloc (by simp; omega) _⟩
          rw [HR.out]
        · have u1 : decide ((M : Int) < 256) = false := by simp; omega
          have u2 : decide (131072 < (M : Int)) = false := by simp; omega
          have hV1 := hV.trans (if_neg (by omega))
          by_cases q3 : b.size < 2 + 2 + M
          · have u3 : decide ((b.size : Int) - 4 < (M : Int)) = true := by simp; omega
            have HR := Lib.hid (hV1.trans (if_pos q3))
            clear hV hV1 h4 q1 q2 q3
            go_wp2
            refine bodyPost_ret (v := errV 3) (by simp [results, Try.results29, go_sem, errV, okV]) rfl ⟨?_, (((Below.refl w.heap.size w).alloc (Nat.le_refl _) _).alloc (by simp) _).alloc (by simp; omega) _⟩
            rw [HR.out]
          · have u3 : decide ((b.size : Int) - 4 < (M : Int)) = false := by simp; omega
            have HR := Lib.hid (hV1.trans (if_neg q3))
            have r0 := sl_lh b 4 (4 + (M : Int)) 4 (4 + M) rfl (by omega) (by omega) (by omega)
            have r1 := sl_h b (4 + (M : Int)) (4 + M) (by omega) (by omega)
            have r2 := sl_l b (4 + (M : Int)) (4 + M) (by omega) (by omega)
            have g1 : IntKind.i64.wrap ((4 : Int) + M) = (4 : Int) + M := IntWalk.i64_in _ (by omega)
            clear hV hV1 h4 q1 q2
            go_wp2_with fail
            go_region
            go_wp2
            refine bodyPost_ret (v := okV b n0 4 M) (by simp [results, Try.results29, go_sem, errV, okV]) rfl ⟨?_, ((((Below.refl w.heap.size w).alloc (Nat.le_refl _) _).alloc (by simp) _).alloc (by simp; omega) _).drew⟩
            rw [HR.out]

set_option maxRecDepth 10000 in
set_option linter.unusedSimpArgs false in
theorem rread_long3_cut (b : ByteArray) (w : World) (hs : b.size ≤ 1000000000) (h1 : 2 ≤ b.size) (h2 : Tl.byt b 0 % 32 ≠ 31) (h3 : Tl.byt b 1 = 131) (h4 : b.size < 2 + 3) :
    Calls Try.prog 29 #[.string b] w fun e w' => e = .returned (errV 3) ∧ Below w.heap.size w w' := by
  have x0 := idx b 0 0 rfl (by omega)
  have b0 := Tl.byt_lt b 0
  have x1 := idx' b 1 131 1 131 rfl (by omega) h3 rfl
  generalize Tl.byt b 0 = n0 at *
  have t0 : (((b.size : Int) : Int) == 0) = false := by rw [beq_eq_false_iff_ne]; omega
  have t1 : ((n0 : Int) % 32 == 31) = false := by rw [beq_eq_false_iff_ne]; omega
  have t2 : (((b.size : Int) : Int) == 1) = false := by rw [beq_eq_false_iff_ne]; omega
  have t3 : decide ((b.size : Int) < 5) = true := by simp; omega
  clear h2 h1 h3 h4
  go_enter Try.func29, Try.ntmps29
  go_wp2
  refine bodyPost_ret (v := errV 3) (by simp [results, Try.results29, go_sem, errV, okV]) rfl ⟨rfl, ?_⟩
  exact ((Below.refl w.heap.size w).alloc (Nat.le_refl _) _).alloc (by simp) _

set_option maxRecDepth 10000 in
set_option linter.unusedSimpArgs false in
theorem rread_long3 (b : ByteArray) (w : World) (hs : b.size ≤ 1000000000) (h1 : 2 ≤ b.size) (h2 : Tl.byt b 0 % 32 ≠ 31) (h3 : Tl.byt b 1 = 131) (h4 : 2 + 3 ≤ b.size) :
    Calls Try.prog 29 #[.string b] w fun e w' => e = .returned (resV b (Tl.long b 3)) ∧ Below w.heap.size w w' := by
  have x0 := idx b 0 0 rfl (by omega)
  have b0 := Tl.byt_lt b 0
  have x1 := idx' b 1 131 1 131 rfl (by omega) h3 rfl
  have hV : resV b (Tl.long b 3) = if Tl.beN b 3 < 65536 ∨ 131072 < Tl.beN b 3 then errV 6 else if b.size < 2 + 3 + Tl.beN b 3 then errV 3 else okV b (Tl.byt b 0) 5 (Tl.beN b 3) := by
    unfold Tl.long Tl.fin
    rw [if_neg (by omega), show Tl.least 3 = 65536 from rfl]
    split
    · rfl
    · split <;> rfl
  generalize Tl.byt b 0 = n0 at *
  have t0 : (((b.size : Int) : Int) == 0) = false := by rw [beq_eq_false_iff_ne]; omega
  have t1 : ((n0 : Int) % 32 == 31) = false := by rw [beq_eq_false_iff_ne]; omega
  have t2 : (((b.size : Int) : Int) == 1) = false := by rw [beq_eq_false_iff_ne]; omega
  have t3 : decide ((b.size : Int) < 5) = false := by simp; omega
  have HI : ∀ j : Nat, j < 3 → ∀ wx, (Instr.index 9 (.string b) (.int .i64 ((2 : Int) + j))).run Try.prog wx = .ok (.int .u8 (Tl.byt b (2 + j) : Nat)) wx := fun j hj => idx b (2 + j) _ (by omega) (by omega)
  have HI' := Lib.hid HI
  clear h2 h3 HI
  go_enter Try.func29, Try.ntmps29
  go_wp2
  go_loop [6, 9] (fun n i => ∃ j : Nat, j ≤ 3 ∧ i = .int .i64 j ∧ n = .int .i64 (Tl.beN b j)) (fun _ i => 3 - (intOf i).toNat)
  case atStart => exact ⟨0, by omega, rfl, rfl⟩
  case round =>
    obtain ⟨j, hj, rfl, rfl⟩ := hrel
    by_cases hlt : j < 3
    · have xj := HI'.out j hlt
      have hb2 := Tl.beN_lt b j (by omega)
      have hst : ((Tl.beN b (j + 1) : Nat) : Int) = 256 * (Tl.beN b j : Int) + (Tl.byt b (2 + j) : Int) := by simp [Tl.beN]
      have HS := Lib.hid hst
      have bj := Tl.byt_lt b (2 + j)
      clear hst
      generalize Tl.byt b (2 + j) = m at *
      generalize Tl.beN b j = M at *
      go_wp2
      go_round
      case rel => exact ⟨j + 1, by omega, by go_num, by rw [HS.out]⟩
      case measure => simp [intOf]; omega
    · obtain rfl : j = 3 := by omega
      have hb2 := Tl.beN_lt b 3 (by omega)
      clear hlt hj
      generalize Tl.beN b 3 = M at *
      by_cases q1 : M < 65536
      · have u1 : decide ((M : Int) < 65536) = true := by simp; omega
        have HR := Lib.hid (hV.trans (if_pos (Or.inl q1)))
        clear hV h4 hs
        go_wp2
        refine bodyPost_ret (v := errV 6) (by simp [results, Try.results29, go_sem, errV, okV]) rfl ⟨?_, (((Below.refl w.heap.size w).alloc (Nat.le_refl _) _).alloc (by simp) _).alloc (by simp; omega) _⟩
        rw [HR.out]
      · by_cases q2 : 131072 < M
        · have u1 : decide ((M : Int) < 65536) = false := by simp; omega
          have u2 : decide (131072 < (M : Int)) = true := by simp; omega
          have HR := Lib.hid (hV.trans (if_pos (Or.inr q2)))
          clear hV h4 hs
          go_wp2
          refine bodyPost_ret (v := errV 6) (by simp [results, Try.results29, go_sem, errV, okV]) rfl ⟨?_, (((Below.refl w.heap.size w).alloc (Nat.le_refl _) _).alloc (by simp) _).alloc (by simp; omega) _⟩
          rw [HR.out]
        · have u1 : decide ((M : Int) < 65536) = false := by simp; omega
          have u2 : decide (131072 < (M : Int)) = false := by simp; omega
          have hV1 := hV.trans (if_neg (by omega))
          by_cases q3 : b.size < 2 + 3 + M
          · have u3 : decide ((b.size : Int) - 5 < (M : Int)) = true := by simp; omega
            have HR := Lib.hid (hV1.trans (if_pos q3))
            clear hV hV1 h4 q1 q2 q3
            go_wp2
            refine bodyPost_ret (v := errV 3) (by simp [results, Try.results29, go_sem, errV, okV]) rfl ⟨?_, (((Below.refl w.heap.size w).alloc (Nat.le_refl _) _).alloc (by simp) _).alloc (by simp; omega) _⟩
            rw [HR.out]
          · have u3 : decide ((b.size : Int) - 5 < (M : Int)) = false := by simp; omega
            have HR := Lib.hid (hV1.trans (if_neg q3))
            have r0 := sl_lh b 5 (5 + (M : Int)) 5 (5 + M) rfl (by omega) (by omega) (by omega)
            have r1 := sl_h b (5 + (M : Int)) (5 + M) (by omega) (by omega)
            have r2 := sl_l b (5 + (M : Int)) (5 + M) (by omega) (by omega)
            have g1 : IntKind.i64.wrap ((5 : Int) + M) = (5 : Int) + M := IntWalk.i64_in _ (by omega)
            clear hV hV1 h4 q1 q2
            go_wp2_with fail
            go_region
            go_wp2
            refine bodyPost_ret (v := okV b n0 5 M) (by simp [results, Try.results29, go_sem, errV, okV]) rfl ⟨?_, ((((Below.refl w.heap.size w).alloc (Nat.le_refl _) _).alloc (by simp) _).alloc (by simp; omega) _).drew⟩
            rw [HR.out]

theorem rread_any (b : ByteArray) (w : World) (hs : b.size ≤ 1000000000) :
    Calls Try.prog 29 #[.string b] w fun e w' => e = .returned (resV b (Tl.rd b)) ∧ Below w.heap.size w w' := by
  unfold Tl.rd
  by_cases h0 : b.size = 0
  · rw [if_pos h0]; exact rread_empty b w h0
  · rw [if_neg h0]
    by_cases h1 : Tl.byt b 0 % 32 = 31
    · rw [if_pos h1]; exact rread_tag b w (by omega) h1
    · rw [if_neg h1]
      by_cases h2 : b.size = 1
      · rw [if_pos h2]; exact rread_one b w h2 h1
      · rw [if_neg h2]
        by_cases h3 : Tl.byt b 1 = 128 ∨ 131 < Tl.byt b 1
        · rw [if_pos h3]; exact rread_form b w (by omega) h1 h3
        · rw [if_neg h3]
          by_cases h4 : Tl.byt b 1 < 128
          · rw [if_pos h4]; unfold Tl.fin
            by_cases h5 : b.size < 2 + Tl.byt b 1
            · rw [if_pos h5]; exact rread_short_cut b w hs (by omega) h1 h4 h5
            · rw [if_neg h5]; exact rread_short b w hs (by omega) h1 h4 (by omega)
          · rw [if_neg h4]
            have hk : Tl.byt b 1 = 129 ∨ Tl.byt b 1 = 130 ∨ Tl.byt b 1 = 131 := by omega
            rcases hk with e | e | e
            · rw [e]
              by_cases h5 : b.size < 2 + 1
              · have := rread_long1_cut b w hs (by omega) h1 e h5
                rw [show Tl.long b (129 - 128) = .err 3 from if_pos h5]; exact this
              · exact rread_long1 b w hs (by omega) h1 e (by omega)
            · rw [e]
              by_cases h5 : b.size < 2 + 2
              · have := rread_long2_cut b w hs (by omega) h1 e h5
                rw [show Tl.long b (130 - 128) = .err 3 from if_pos h5]; exact this
              · exact rread_long2 b w hs (by omega) h1 e (by omega)
            · rw [e]
              by_cases h5 : b.size < 2 + 3
              · have := rread_long3_cut b w hs (by omega) h1 e h5
                rw [show Tl.long b (131 - 128) = .err 3 from if_pos h5]; exact this
              · exact rread_long3 b w hs (by omega) h1 e (by omega)

end Go.Proofs.Ytmmoimemfdbfgaa
