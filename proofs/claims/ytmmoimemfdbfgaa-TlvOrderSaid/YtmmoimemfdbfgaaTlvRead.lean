/-
  The contract of tlv.Read. (Written by wip/gen/gen_read.py.)
-/
import Derived.Test.YtmmoimemfdbfgaaTlvConv
namespace Go.Proofs.Ytmmoimemfdbfgaa
open Go.RowKit

theorem ne_empty (b : ByteArray) (h : 0 < b.size) : b.toList.isEmpty = false := by
  rw [ByteArray.toList_eq]
  have : 0 < b.data.toList.length := by simpa using h
  cases hb : b.data.toList with
  | nil => rw [hb] at this; simp at this
  | cons _ _ => rfl
theorem is_empty (b : ByteArray) (h : b.size = 0) : b = (⟨#[]⟩ : ByteArray) := by
  have : b.data.size = 0 := h
  apply ByteArray.ext
  exact Array.eq_empty_of_size_eq_zero this

set_option maxRecDepth 10000 in
set_option linter.unusedSimpArgs false in
theorem read_empty (b : ByteArray) (w : World) (h : b.size = 0) :
    Calls Try.prog 16 #[.string b] w fun e w' => e = .returned (errV 3) ∧ Below w.heap.size w w' := by
  obtain rfl := is_empty b h
  clear h
  go_enter Try.func16, Try.ntmps16
  go_wp2
  refine bodyPost_ret (v := errV 3) (by simp [results, Try.results16, go_sem, errV, okV]) rfl ⟨rfl, ?_⟩
  exact ((Below.refl w.heap.size w).alloc (Nat.le_refl _) _).alloc (by simp) _

set_option maxRecDepth 10000 in
set_option linter.unusedSimpArgs false in
theorem read_tag (b : ByteArray) (w : World) (h1 : 0 < b.size) (h2 : Tl.byt b 0 % 32 = 31) :
    Calls Try.prog 16 #[.string b] w fun e w' => e = .returned (errV 5) ∧ Below w.heap.size w w' := by
  have x0 := idx b 0 0 rfl (by omega)
  have b0 := Tl.byt_lt b 0
  generalize Tl.byt b 0 = n0 at *
  have t0 := ne_empty b (by omega)
  have t1 : (bits .and .i64 (n0 : Int) 31 == 31) = true := by rw [and31 _ (by omega) (by omega)]; rw [beq_iff_eq]; omega
  clear h2 h1
  go_enter Try.func16, Try.ntmps16
  go_wp2
  refine bodyPost_ret (v := errV 5) (by simp [results, Try.results16, go_sem, errV, okV]) rfl ⟨rfl, ?_⟩
  exact ((Below.refl w.heap.size w).alloc (Nat.le_refl _) _).alloc (by simp) _

set_option maxRecDepth 10000 in
set_option linter.unusedSimpArgs false in
theorem read_one (b : ByteArray) (w : World) (h1 : b.size = 1) (h2 : Tl.byt b 0 % 32 ≠ 31) :
    Calls Try.prog 16 #[.string b] w fun e w' => e = .returned (errV 3) ∧ Below w.heap.size w w' := by
  have x0 := idx b 0 0 rfl (by omega)
  have b0 := Tl.byt_lt b 0
  generalize Tl.byt b 0 = n0 at *
  have t0 := ne_empty b (by omega)
  have t1 : (bits .and .i64 (n0 : Int) 31 == 31) = false := by rw [and31 _ (by omega) (by omega)]; rw [beq_eq_false_iff_ne]; omega
  have t2 : decide ((b.size : Int) < 2) = true := by simp; omega
  clear h2 h1
  go_enter Try.func16, Try.ntmps16
  go_wp2
  refine bodyPost_ret (v := errV 3) (by simp [results, Try.results16, go_sem, errV, okV]) rfl ⟨rfl, ?_⟩
  exact ((Below.refl w.heap.size w).alloc (Nat.le_refl _) _).alloc (by simp) _

set_option maxRecDepth 10000 in
set_option linter.unusedSimpArgs false in
theorem read_form (b : ByteArray) (w : World) (h1 : 2 ≤ b.size) (h2 : Tl.byt b 0 % 32 ≠ 31) (h3 : Tl.byt b 1 = 128 ∨ 131 < Tl.byt b 1) :
    Calls Try.prog 16 #[.string b] w fun e w' => e = .returned (errV 6) ∧ Below w.heap.size w w' := by
  have x0 := idx b 0 0 rfl (by omega)
  have b0 := Tl.byt_lt b 0
  have x1 := idx b 1 1 rfl (by omega)
  have b1 := Tl.byt_lt b 1
  generalize Tl.byt b 0 = n0 at *
  generalize Tl.byt b 1 = n1 at *
  have t0 := ne_empty b (by omega)
  have t1 : (bits .and .i64 (n0 : Int) 31 == 31) = false := by rw [and31 _ (by omega) (by omega)]; rw [beq_eq_false_iff_ne]; omega
  have t2 : decide ((b.size : Int) < 2) = false := by simp; omega
  clear h2 h1
  rcases h3 with rfl | h3
  · go_enter Try.func16, Try.ntmps16
    go_wp2
    refine bodyPost_ret (v := errV 6) (by simp [results, Try.results16, go_sem, errV, okV]) rfl ⟨rfl, ?_⟩
    exact ((Below.refl w.heap.size w).alloc (Nat.le_refl _) _).alloc (by simp) _
  · have t4 : ((n1 : Int) == 128) = false := by rw [beq_eq_false_iff_ne]; omega
    have t5 : decide (131 < (n1 : Int)) = true := by simp; omega
    clear h3
    go_enter Try.func16, Try.ntmps16
    go_wp2
    refine bodyPost_ret (v := errV 6) (by simp [results, Try.results16, go_sem, errV, okV]) rfl ⟨rfl, ?_⟩
    exact ((Below.refl w.heap.size w).alloc (Nat.le_refl _) _).alloc (by simp) _

set_option maxRecDepth 10000 in
set_option linter.unusedSimpArgs false in
theorem read_short_cut (b : ByteArray) (w : World) (hs : b.size ≤ 1000000000) (h1 : 2 ≤ b.size) (h2 : Tl.byt b 0 % 32 ≠ 31) (h3 : Tl.byt b 1 < 128) (h4 : b.size < 2 + Tl.byt b 1) :
    Calls Try.prog 16 #[.string b] w fun e w' => e = .returned (errV 3) ∧ Below w.heap.size w w' := by
  have x0 := idx b 0 0 rfl (by omega)
  have b0 := Tl.byt_lt b 0
  have x1 := idx b 1 1 rfl (by omega)
  have b1 := Tl.byt_lt b 1
  generalize Tl.byt b 0 = n0 at *
  generalize Tl.byt b 1 = n1 at *
  have t0 := ne_empty b (by omega)
  have t1 : (bits .and .i64 (n0 : Int) 31 == 31) = false := by rw [and31 _ (by omega) (by omega)]; rw [beq_eq_false_iff_ne]; omega
  have t2 : decide ((b.size : Int) < 2) = false := by simp; omega
  have t3 : ((n1 : Int) == 128) = false := by rw [beq_eq_false_iff_ne]; omega
  have t4 : decide (131 < (n1 : Int)) = false := by simp; omega
  have t5 : decide (128 < (n1 : Int)) = false := by simp; omega
  have t6 : decide ((b.size : Int) - 2 < (n1 : Int)) = true := by simp; omega
  clear h2 h1 h3 h4
  go_enter Try.func16, Try.ntmps16
  go_wp2
  refine bodyPost_ret (v := errV 3) (by simp [results, Try.results16, go_sem, errV, okV]) rfl ⟨rfl, ?_⟩
  exact ((Below.refl w.heap.size w).alloc (Nat.le_refl _) _).alloc (by simp) _

set_option maxRecDepth 10000 in
set_option linter.unusedSimpArgs false in
theorem read_short (b : ByteArray) (w : World) (hs : b.size ≤ 1000000000) (h1 : 2 ≤ b.size) (h2 : Tl.byt b 0 % 32 ≠ 31) (h3 : Tl.byt b 1 < 128) (h4 : 2 + Tl.byt b 1 ≤ b.size) :
    Calls Try.prog 16 #[.string b] w fun e w' => e = .returned (okV b (Tl.byt b 0) 2 (Tl.byt b 1)) ∧ Below w.heap.size w w' := by
  have x0 := idx b 0 0 rfl (by omega)
  have b0 := Tl.byt_lt b 0
  have x1 := idx b 1 1 rfl (by omega)
  have b1 := Tl.byt_lt b 1
  generalize Tl.byt b 0 = n0 at *
  generalize Tl.byt b 1 = n1 at *
  have t0 := ne_empty b (by omega)
  have t1 : (bits .and .i64 (n0 : Int) 31 == 31) = false := by rw [and31 _ (by omega) (by omega)]; rw [beq_eq_false_iff_ne]; omega
  have t2 : decide ((b.size : Int) < 2) = false := by simp; omega
  have t3 : ((n1 : Int) == 128) = false := by rw [beq_eq_false_iff_ne]; omega
  have t4 : decide (131 < (n1 : Int)) = false := by simp; omega
  have t5 : decide (128 < (n1 : Int)) = false := by simp; omega
  have t6 : decide ((b.size : Int) - 2 < (n1 : Int)) = false := by simp; omega
  have r0 := sl_lh b 2 (2 + (n1 : Int)) 2 (2 + n1) rfl (by omega) (by omega) (by omega)
  have r1 := sl_h b (2 + (n1 : Int)) (2 + n1) (by omega) (by omega)
  have r2 := sl_l b (2 + (n1 : Int)) (2 + n1) (by omega) (by omega)
  have g1 : IntKind.i64.wrap ((2 : Int) + n1) = (2 : Int) + n1 := IntWalk.i64_in _ (by omega)
  clear h2 h3 h1
  go_enter Try.func16, Try.ntmps16
  go_wp2_with fail
  go_region
  go_wp2
  refine bodyPost_ret (v := okV b n0 2 n1) (by simp [results, Try.results16, go_sem, errV, okV]) rfl ⟨rfl, ?_⟩
  exact (((Below.refl w.heap.size w).alloc (Nat.le_refl _) _).alloc (by simp) _).drew

set_option maxRecDepth 10000 in
set_option linter.unusedSimpArgs false in
theorem read_long1_cut (b : ByteArray) (w : World) (hs : b.size ≤ 1000000000) (h1 : 2 ≤ b.size) (h2 : Tl.byt b 0 % 32 ≠ 31) (h3 : Tl.byt b 1 = 129) (h4 : b.size < 2 + 1) :
    Calls Try.prog 16 #[.string b] w fun e w' => e = .returned (errV 3) ∧ Below w.heap.size w w' := by
  have x0 := idx b 0 0 rfl (by omega)
  have b0 := Tl.byt_lt b 0
  have x1 := idx' b 1 129 1 129 rfl (by omega) h3 rfl
  generalize Tl.byt b 0 = n0 at *
  have t0 := ne_empty b (by omega)
  have t1 : (bits .and .i64 (n0 : Int) 31 == 31) = false := by rw [and31 _ (by omega) (by omega)]; rw [beq_eq_false_iff_ne]; omega
  have t2 : decide ((b.size : Int) < 2) = false := by simp; omega
  have t3 : decide ((b.size : Int) < 3) = true := by simp; omega
  clear h2 h1 h3 h4
  go_enter Try.func16, Try.ntmps16
  go_wp2
  refine bodyPost_ret (v := errV 3) (by simp [results, Try.results16, go_sem, errV, okV]) rfl ⟨rfl, ?_⟩
  exact ((Below.refl w.heap.size w).alloc (Nat.le_refl _) _).alloc (by simp) _

set_option maxRecDepth 10000 in
set_option linter.unusedSimpArgs false in
theorem read_long1 (b : ByteArray) (w : World) (hs : b.size ≤ 1000000000) (h1 : 2 ≤ b.size) (h2 : Tl.byt b 0 % 32 ≠ 31) (h3 : Tl.byt b 1 = 129) (h4 : 2 + 1 ≤ b.size) :
    Calls Try.prog 16 #[.string b] w fun e w' => e = .returned (resV b (Tl.long b 1)) ∧ Below w.heap.size w w' := by
  have x0 := idx b 0 0 rfl (by omega)
  have b0 := Tl.byt_lt b 0
  have x1 := idx' b 1 129 1 129 rfl (by omega) h3 rfl
  have hV : resV b (Tl.long b 1) = if Tl.beN b 1 < 128 ∨ 131072 < Tl.beN b 1 then errV 6 else if b.size < 2 + 1 + Tl.beN b 1 then errV 3 else okV b (Tl.byt b 0) 3 (Tl.beN b 1) := by
    unfold Tl.long Tl.fin
    rw [if_neg (by omega), show Tl.least 1 = 128 from rfl]
    split
    · rfl
    · split <;> rfl
  generalize Tl.byt b 0 = n0 at *
  have t0 := ne_empty b (by omega)
  have t1 : (bits .and .i64 (n0 : Int) 31 == 31) = false := by rw [and31 _ (by omega) (by omega)]; rw [beq_eq_false_iff_ne]; omega
  have t2 : decide ((b.size : Int) < 2) = false := by simp; omega
  have t3 : decide ((b.size : Int) < 3) = false := by simp; omega
  have rs := sl_lh b 2 3 2 3 rfl rfl (by omega) (by omega)
  obtain ⟨W, cap, hk, hC, hB, c0, c1, c2, d0, d1, d2, hf⟩ := conv w b 1 h4
  have HC := Lib.hid hC
  unfold Z3 at hk
  clear h2 h3 hC
  go_enter Try.func16, Try.ntmps16
  go_wp2
  clear hk rs
  go_loop [7, 52] (fun n i => ∃ j : Nat, j ≤ 1 ∧ i = .int .i64 j ∧ n = .int .i64 (Tl.beN b j)) (fun _ i => 1 - (intOf i).toNat)
  case atStart => exact ⟨0, by omega, rfl, rfl⟩
  case round =>
    obtain ⟨j, hj, rfl, rfl⟩ := hrel
    by_cases hlt : j < 1
    · have xj := HC.out j hlt
      have hb2 := Tl.beN_lt b j (by omega)
      have hst : ((256 * Tl.beN b j + Tl.byt b (2 + j) : Nat) : Int) = ((Tl.beN b (j + 1) : Nat) : Int) := rfl
      have HS := Lib.hid hst
      have bj := Tl.byt_lt b (2 + j)
      clear hst hV
      generalize Tl.byt b (2 + j) = m at *
      generalize Tl.beN b j = M at *
      have hor := i64_or_byte M m (by omega) (by omega)
      go_wp2
      go_round
      case rel => exact ⟨j + 1, by omega, by go_num, by rw [← HS.out]; congr 1⟩
      case measure => simp [intOf]; omega
    · obtain rfl : j = 1 := by omega
      have hb2 := Tl.beN_lt b 1 (by omega)
      clear hlt hj
      generalize Tl.beN b 1 = M at *
      by_cases q1 : M < 128
      · have u1 : decide ((M : Int) < 128) = true := by simp; omega
        have HR := Lib.hid (hV.trans (if_pos (Or.inl q1)))
        clear hV h4 hs
        go_wp2_with fail
        go_at_call 28
        refine (least_1 _).mono ?_
        rintro e w2 ⟨rfl, rfl⟩
        go_wp2
        refine bodyPost_ret (v := errV 6) (by simp [results, Try.results16, go_sem, errV, okV, c0, c1, c2, d0, d1, d2]) rfl ⟨?_, ?_⟩
        · rw [HR.out]
        · exact below_own (below_own (below_own hB _ _) _ _) _ _
      · by_cases q2 : 131072 < M
        · have u1 : decide ((M : Int) < 128) = false := by simp; omega
          have u2 : decide (131072 < (M : Int)) = true := by simp; omega
          have HR := Lib.hid (hV.trans (if_pos (Or.inr q2)))
          clear hV h4 hs
          go_wp2_with fail
          go_at_call 28
          refine (least_1 _).mono ?_
          rintro e w2 ⟨rfl, rfl⟩
          go_wp2
          refine bodyPost_ret (v := errV 6) (by simp [results, Try.results16, go_sem, errV, okV, c0, c1, c2, d0, d1, d2]) rfl ⟨?_, ?_⟩
          · rw [HR.out]
          · exact below_own (below_own (below_own hB _ _) _ _) _ _
        · have u1 : decide ((M : Int) < 128) = false := by simp; omega
          have u2 : decide (131072 < (M : Int)) = false := by simp; omega
          have hV1 := hV.trans (if_neg (by omega))
          by_cases q3 : b.size < 2 + 1 + M
          · have u3 : decide ((b.size : Int) - 3 < (M : Int)) = true := by simp; omega
            have HR := Lib.hid (hV1.trans (if_pos q3))
            clear hV hV1 h4 q1 q2 q3
            go_wp2_with fail
            go_at_call 28
            refine (least_1 _).mono ?_
            rintro e w2 ⟨rfl, rfl⟩
            go_wp2
            refine bodyPost_ret (v := errV 3) (by simp [results, Try.results16, go_sem, errV, okV, c0, c1, c2, d0, d1, d2]) rfl ⟨?_, ?_⟩
            · rw [HR.out]
            · exact below_own (below_own (below_own hB _ _) _ _) _ _
          · have u3 : decide ((b.size : Int) - 3 < (M : Int)) = false := by simp; omega
            have HR := Lib.hid (hV1.trans (if_neg q3))
            have r0 := sl_lh b 3 (3 + (M : Int)) 3 (3 + M) rfl (by omega) (by omega) (by omega)
            have r1 := sl_h b (3 + (M : Int)) (3 + M) (by omega) (by omega)
            have r2 := sl_l b (3 + (M : Int)) (3 + M) (by omega) (by omega)
            have g1 : IntKind.i64.wrap ((3 : Int) + M) = (3 : Int) + M := IntWalk.i64_in _ (by omega)
            clear hV hV1 h4 q1 q2
            go_wp2_with fail
            go_at_call 28
            refine (least_1 _).mono ?_
            rintro e w2 ⟨rfl, rfl⟩
            go_wp2_with fail
            go_region
            go_wp2
            refine bodyPost_ret (v := okV b n0 3 M) (by simp [results, Try.results16, go_sem, errV, okV, c0, c1, c2, d0, d1, d2]) rfl ⟨?_, ?_⟩
            · rw [HR.out]
            · exact (below_own (below_own (below_own hB _ _) _ _) _ _).drew

set_option maxRecDepth 10000 in
set_option linter.unusedSimpArgs false in
theorem read_long2_cut (b : ByteArray) (w : World) (hs : b.size ≤ 1000000000) (h1 : 2 ≤ b.size) (h2 : Tl.byt b 0 % 32 ≠ 31) (h3 : Tl.byt b 1 = 130) (h4 : b.size < 2 + 2) :
    Calls Try.prog 16 #[.string b] w fun e w' => e = .returned (errV 3) ∧ Below w.heap.size w w' := by
  have x0 := idx b 0 0 rfl (by omega)
  have b0 := Tl.byt_lt b 0
  have x1 := idx' b 1 130 1 130 rfl (by omega) h3 rfl
  generalize Tl.byt b 0 = n0 at *
  have t0 := ne_empty b (by omega)
  have t1 : (bits .and .i64 (n0 : Int) 31 == 31) = false := by rw [and31 _ (by omega) (by omega)]; rw [beq_eq_false_iff_ne]; omega
  have t2 : decide ((b.size : Int) < 2) = false := by simp; omega
  have t3 : decide ((b.size : Int) < 4) = true := by simp; omega
  clear h2 h1 h3 h4
  go_enter Try.func16, Try.ntmps16
  go_wp2
  refine bodyPost_ret (v := errV 3) (by simp [results, Try.results16, go_sem, errV, okV]) rfl ⟨rfl, ?_⟩
  exact ((Below.refl w.heap.size w).alloc (Nat.le_refl _) _).alloc (by simp) _

set_option maxRecDepth 10000 in
set_option linter.unusedSimpArgs false in
theorem read_long2 (b : ByteArray) (w : World) (hs : b.size ≤ 1000000000) (h1 : 2 ≤ b.size) (h2 : Tl.byt b 0 % 32 ≠ 31) (h3 : Tl.byt b 1 = 130) (h4 : 2 + 2 ≤ b.size) :
    Calls Try.prog 16 #[.string b] w fun e w' => e = .returned (resV b (Tl.long b 2)) ∧ Below w.heap.size w w' := by
  have x0 := idx b 0 0 rfl (by omega)
  have b0 := Tl.byt_lt b 0
  have x1 := idx' b 1 130 1 130 rfl (by omega) h3 rfl
  have hV : resV b (Tl.long b 2) = if Tl.beN b 2 < 256 ∨ 131072 < Tl.beN b 2 then errV 6 else if b.size < 2 + 2 + Tl.beN b 2 then errV 3 else okV b (Tl.byt b 0) 4 (Tl.beN b 2) := by
    unfold Tl.long Tl.fin
    rw [if_neg (by omega), show Tl.least 2 = 256 from rfl]
    split
    · rfl
    · split <;> rfl
  generalize Tl.byt b 0 = n0 at *
  have t0 := ne_empty b (by omega)
  have t1 : (bits .and .i64 (n0 : Int) 31 == 31) = false := by rw [and31 _ (by omega) (by omega)]; rw [beq_eq_false_iff_ne]; omega
  have t2 : decide ((b.size : Int) < 2) = false := by simp; omega
  have t3 : decide ((b.size : Int) < 4) = false := by simp; omega
  have rs := sl_lh b 2 4 2 4 rfl rfl (by omega) (by omega)
  obtain ⟨W, cap, hk, hC, hB, c0, c1, c2, d0, d1, d2, hf⟩ := conv w b 2 h4
  have HC := Lib.hid hC
  unfold Z3 at hk
  clear h2 h3 hC
  go_enter Try.func16, Try.ntmps16
  go_wp2
  clear hk rs
  go_loop [7, 52] (fun n i => ∃ j : Nat, j ≤ 2 ∧ i = .int .i64 j ∧ n = .int .i64 (Tl.beN b j)) (fun _ i => 2 - (intOf i).toNat)
  case atStart => exact ⟨0, by omega, rfl, rfl⟩
  case round =>
    obtain ⟨j, hj, rfl, rfl⟩ := hrel
    by_cases hlt : j < 2
    · have xj := HC.out j hlt
      have hb2 := Tl.beN_lt b j (by omega)
      have hst : ((256 * Tl.beN b j + Tl.byt b (2 + j) : Nat) : Int) = ((Tl.beN b (j + 1) : Nat) : Int) := rfl
      have HS := Lib.hid hst
      have bj := Tl.byt_lt b (2 + j)
      clear hst hV
      generalize Tl.byt b (2 + j) = m at *
      generalize Tl.beN b j = M at *
      have hor := i64_or_byte M m (by omega) (by omega)
      go_wp2
      go_round
      case rel => exact ⟨j + 1, by omega, by go_num, by rw [← HS.out]; congr 1⟩
      case measure => simp [intOf]; omega
    · obtain rfl : j = 2 := by omega
      have hb2 := Tl.beN_lt b 2 (by omega)
      clear hlt hj
      generalize Tl.beN b 2 = M at *
      by_cases q1 : M < 256
      · have u1 : decide ((M : Int) < 256) = true := by simp; omega
        have HR := Lib.hid (hV.trans (if_pos (Or.inl q1)))
        clear hV h4 hs
        go_wp2_with fail
        go_at_call 28
        refine (least_2 _).mono ?_
        rintro e w2 ⟨rfl, rfl⟩
        go_wp2
        refine bodyPost_ret (v := errV 6) (by simp [results, Try.results16, go_sem, errV, okV, c0, c1, c2, d0, d1, d2]) rfl ⟨?_, ?_⟩
        · rw [HR.out]
        · exact below_own (below_own (below_own hB _ _) _ _) _ _
      · by_cases q2 : 131072 < M
        · have u1 : decide ((M : Int) < 256) = false := by simp; omega
          have u2 : decide (131072 < (M : Int)) = true := by simp; omega
          have HR := Lib.hid (hV.trans (if_pos (Or.inr q2)))
          clear hV h4 hs
          go_wp2_with fail
          go_at_call 28
          refine (least_2 _).mono ?_
          rintro e w2 ⟨rfl, rfl⟩
          go_wp2
          refine bodyPost_ret (v := errV 6) (by simp [results, Try.results16, go_sem, errV, okV, c0, c1, c2, d0, d1, d2]) rfl ⟨?_, ?_⟩
          · rw [HR.out]
          · exact below_own (below_own (below_own hB _ _) _ _) _ _
        · have u1 : decide ((M : Int) < 256) = false := by simp; omega
          have u2 : decide (131072 < (M : Int)) = false := by simp; omega
          have hV1 := hV.trans (if_neg (by omega))
          by_cases q3 : b.size < 2 + 2 + M
          · have u3 : decide ((b.size : Int) - 4 < (M : Int)) = true := by simp; omega
            have HR := Lib.hid (hV1.trans (if_pos q3))
            clear hV hV1 h4 q1 q2 q3
            go_wp2_with fail
            go_at_call 28
            refine (least_2 _).mono ?_
            rintro e w2 ⟨rfl, rfl⟩
            go_wp2
            refine bodyPost_ret (v := errV 3) (by simp [results, Try.results16, go_sem, errV, okV, c0, c1, c2, d0, d1, d2]) rfl ⟨?_, ?_⟩
            · rw [HR.out]
            · exact below_own (below_own (below_own hB _ _) _ _) _ _
          · have u3 : decide ((b.size : Int) - 4 < (M : Int)) = false := by simp; omega
            have HR := Lib.hid (hV1.trans (if_neg q3))
            have r0 := sl_lh b 4 (4 + (M : Int)) 4 (4 + M) rfl (by omega) (by omega) (by omega)
            have r1 := sl_h b (4 + (M : Int)) (4 + M) (by omega) (by omega)
            have r2 := sl_l b (4 + (M : Int)) (4 + M) (by omega) (by omega)
            have g1 : IntKind.i64.wrap ((4 : Int) + M) = (4 : Int) + M := IntWalk.i64_in _ (by omega)
            clear hV hV1 h4 q1 q2
            go_wp2_with fail
            go_at_call 28
            refine (least_2 _).mono ?_
            rintro e w2 ⟨rfl, rfl⟩
            go_wp2_with fail
            go_region
            go_wp2
            refine bodyPost_ret (v := okV b n0 4 M) (by simp [results, Try.results16, go_sem, errV, okV, c0, c1, c2, d0, d1, d2]) rfl ⟨?_, ?_⟩
            · rw [HR.out]
            · exact (below_own (below_own (below_own hB _ _) _ _) _ _).drew

set_option maxRecDepth 10000 in
set_option linter.unusedSimpArgs false in
theorem read_long3_cut (b : ByteArray) (w : World) (hs : b.size ≤ 1000000000) (h1 : 2 ≤ b.size) (h2 : Tl.byt b 0 % 32 ≠ 31) (h3 : Tl.byt b 1 = 131) (h4 : b.size < 2 + 3) :
    Calls Try.prog 16 #[.string b] w fun e w' => e = .returned (errV 3) ∧ Below w.heap.size w w' := by
  have x0 := idx b 0 0 rfl (by omega)
  have b0 := Tl.byt_lt b 0
  have x1 := idx' b 1 131 1 131 rfl (by omega) h3 rfl
  generalize Tl.byt b 0 = n0 at *
  have t0 := ne_empty b (by omega)
  have t1 : (bits .and .i64 (n0 : Int) 31 == 31) = false := by rw [and31 _ (by omega) (by omega)]; rw [beq_eq_false_iff_ne]; omega
  have t2 : decide ((b.size : Int) < 2) = false := by simp; omega
  have t3 : decide ((b.size : Int) < 5) = true := by simp; omega
  clear h2 h1 h3 h4
  go_enter Try.func16, Try.ntmps16
  go_wp2
  refine bodyPost_ret (v := errV 3) (by simp [results, Try.results16, go_sem, errV, okV]) rfl ⟨rfl, ?_⟩
  exact ((Below.refl w.heap.size w).alloc (Nat.le_refl _) _).alloc (by simp) _

set_option maxRecDepth 10000 in
set_option linter.unusedSimpArgs false in
theorem read_long3 (b : ByteArray) (w : World) (hs : b.size ≤ 1000000000) (h1 : 2 ≤ b.size) (h2 : Tl.byt b 0 % 32 ≠ 31) (h3 : Tl.byt b 1 = 131) (h4 : 2 + 3 ≤ b.size) :
    Calls Try.prog 16 #[.string b] w fun e w' => e = .returned (resV b (Tl.long b 3)) ∧ Below w.heap.size w w' := by
  have x0 := idx b 0 0 rfl (by omega)
  have b0 := Tl.byt_lt b 0
  have x1 := idx' b 1 131 1 131 rfl (by omega) h3 rfl
  have hV : resV b (Tl.long b 3) = if Tl.beN b 3 < 65536 ∨ 131072 < Tl.beN b 3 then errV 6 else if b.size < 2 + 3 + Tl.beN b 3 then errV 3 else okV b (Tl.byt b 0) 5 (Tl.beN b 3) := by
    unfold Tl.long Tl.fin
    rw [if_neg (by omega), show Tl.least 3 = 65536 from rfl]
    split
    · rfl
    · split <;> rfl
  generalize Tl.byt b 0 = n0 at *
  have t0 := ne_empty b (by omega)
  have t1 : (bits .and .i64 (n0 : Int) 31 == 31) = false := by rw [and31 _ (by omega) (by omega)]; rw [beq_eq_false_iff_ne]; omega
  have t2 : decide ((b.size : Int) < 2) = false := by simp; omega
  have t3 : decide ((b.size : Int) < 5) = false := by simp; omega
  have rs := sl_lh b 2 5 2 5 rfl rfl (by omega) (by omega)
  obtain ⟨W, cap, hk, hC, hB, c0, c1, c2, d0, d1, d2, hf⟩ := conv w b 3 h4
  have HC := Lib.hid hC
  unfold Z3 at hk
  clear h2 h3 hC
  go_enter Try.func16, Try.ntmps16
  go_wp2
  clear hk rs
  go_loop [7, 52] (fun n i => ∃ j : Nat, j ≤ 3 ∧ i = .int .i64 j ∧ n = .int .i64 (Tl.beN b j)) (fun _ i => 3 - (intOf i).toNat)
  case atStart => exact ⟨0, by omega, rfl, rfl⟩
  case round =>
    obtain ⟨j, hj, rfl, rfl⟩ := hrel
    by_cases hlt : j < 3
    · have xj := HC.out j hlt
      have hb2 := Tl.beN_lt b j (by omega)
      have hst : ((256 * Tl.beN b j + Tl.byt b (2 + j) : Nat) : Int) = ((Tl.beN b (j + 1) : Nat) : Int) := rfl
      have HS := Lib.hid hst
      have bj := Tl.byt_lt b (2 + j)
      clear hst hV
      generalize Tl.byt b (2 + j) = m at *
      generalize Tl.beN b j = M at *
      have hor := i64_or_byte M m (by omega) (by omega)
      go_wp2
      go_round
      case rel => exact ⟨j + 1, by omega, by go_num, by rw [← HS.out]; congr 1⟩
      case measure => simp [intOf]; omega
    · obtain rfl : j = 3 := by omega
      have hb2 := Tl.beN_lt b 3 (by omega)
      clear hlt hj
      generalize Tl.beN b 3 = M at *
      by_cases q1 : M < 65536
      · have u1 : decide ((M : Int) < 65536) = true := by simp; omega
        have HR := Lib.hid (hV.trans (if_pos (Or.inl q1)))
        clear hV h4 hs
        go_wp2_with fail
        go_at_call 28
        refine (least_3 _).mono ?_
        rintro e w2 ⟨rfl, rfl⟩
        go_wp2
        refine bodyPost_ret (v := errV 6) (by simp [results, Try.results16, go_sem, errV, okV, c0, c1, c2, d0, d1, d2]) rfl ⟨?_, ?_⟩
        · rw [HR.out]
        · exact below_own (below_own (below_own hB _ _) _ _) _ _
      · by_cases q2 : 131072 < M
        · have u1 : decide ((M : Int) < 65536) = false := by simp; omega
          have u2 : decide (131072 < (M : Int)) = true := by simp; omega
          have HR := Lib.hid (hV.trans (if_pos (Or.inr q2)))
          clear hV h4 hs
          go_wp2_with fail
          go_at_call 28
          refine (least_3 _).mono ?_
          rintro e w2 ⟨rfl, rfl⟩
          go_wp2
          refine bodyPost_ret (v := errV 6) (by simp [results, Try.results16, go_sem, errV, okV, c0, c1, c2, d0, d1, d2]) rfl ⟨?_, ?_⟩
          · rw [HR.out]
          · exact below_own (below_own (below_own hB _ _) _ _) _ _
        · have u1 : decide ((M : Int) < 65536) = false := by simp; omega
          have u2 : decide (131072 < (M : Int)) = false := by simp; omega
          have hV1 := hV.trans (if_neg (by omega))
          by_cases q3 : b.size < 2 + 3 + M
          · have u3 : decide ((b.size : Int) - 5 < (M : Int)) = true := by simp; omega
            have HR := Lib.hid (hV1.trans (if_pos q3))
            clear hV hV1 h4 q1 q2 q3
            go_wp2_with fail
            go_at_call 28
            refine (least_3 _).mono ?_
            rintro e w2 ⟨rfl, rfl⟩
            go_wp2
            refine bodyPost_ret (v := errV 3) (by simp [results, Try.results16, go_sem, errV, okV, c0, c1, c2, d0, d1, d2]) rfl ⟨?_, ?_⟩
            · rw [HR.out]
            · exact below_own (below_own (below_own hB _ _) _ _) _ _
          · have u3 : decide ((b.size : Int) - 5 < (M : Int)) = false := by simp; omega
            have HR := Lib.hid (hV1.trans (if_neg q3))
            have r0 := sl_lh b 5 (5 + (M : Int)) 5 (5 + M) rfl (by omega) (by omega) (by omega)
            have r1 := sl_h b (5 + (M : Int)) (5 + M) (by omega) (by omega)
            have r2 := sl_l b (5 + (M : Int)) (5 + M) (by omega) (by omega)
            have g1 : IntKind.i64.wrap ((5 : Int) + M) = (5 : Int) + M := IntWalk.i64_in _ (by omega)
            clear hV hV1 h4 q1 q2
            go_wp2_with fail
            go_at_call 28
            refine (least_3 _).mono ?_
            rintro e w2 ⟨rfl, rfl⟩
            go_wp2_with fail
            go_region
            go_wp2
            refine bodyPost_ret (v := okV b n0 5 M) (by simp [results, Try.results16, go_sem, errV, okV, c0, c1, c2, d0, d1, d2]) rfl ⟨?_, ?_⟩
            · rw [HR.out]
            · exact (below_own (below_own (below_own hB _ _) _ _) _ _).drew

theorem read_any (b : ByteArray) (w : World) (hs : b.size ≤ 1000000000) :
    Calls Try.prog 16 #[.string b] w fun e w' => e = .returned (resV b (Tl.rd b)) ∧ Below w.heap.size w w' := by
  unfold Tl.rd
  by_cases h0 : b.size = 0
  · rw [if_pos h0]; exact read_empty b w h0
  · rw [if_neg h0]
    by_cases h1 : Tl.byt b 0 % 32 = 31
    · rw [if_pos h1]; exact read_tag b w (by omega) h1
    · rw [if_neg h1]
      by_cases h2 : b.size = 1
      · rw [if_pos h2]; exact read_one b w h2 h1
      · rw [if_neg h2]
        by_cases h3 : Tl.byt b 1 = 128 ∨ 131 < Tl.byt b 1
        · rw [if_pos h3]; exact read_form b w (by omega) h1 h3
        · rw [if_neg h3]
          by_cases h4 : Tl.byt b 1 < 128
          · rw [if_pos h4]; unfold Tl.fin
            by_cases h5 : b.size < 2 + Tl.byt b 1
            · rw [if_pos h5]; exact read_short_cut b w hs (by omega) h1 h4 h5
            · rw [if_neg h5]; exact read_short b w hs (by omega) h1 h4 (by omega)
          · rw [if_neg h4]
            have hk : Tl.byt b 1 = 129 ∨ Tl.byt b 1 = 130 ∨ Tl.byt b 1 = 131 := by omega
            rcases hk with e | e | e
            · rw [e]
              by_cases h5 : b.size < 2 + 1
              · have := read_long1_cut b w hs (by omega) h1 e h5
                rw [show Tl.long b (129 - 128) = .err 3 from if_pos h5]; exact this
              · exact read_long1 b w hs (by omega) h1 e (by omega)
            · rw [e]
              by_cases h5 : b.size < 2 + 2
              · have := read_long2_cut b w hs (by omega) h1 e h5
                rw [show Tl.long b (130 - 128) = .err 3 from if_pos h5]; exact this
              · exact read_long2 b w hs (by omega) h1 e (by omega)
            · rw [e]
              by_cases h5 : b.size < 2 + 3
              · have := read_long3_cut b w hs (by omega) h1 e h5
                rw [show Tl.long b (131 - 128) = .err 3 from if_pos h5]; exact this
              · exact read_long3 b w hs (by omega) h1 e (by omega)

end Go.Proofs.Ytmmoimemfdbfgaa
