/-
  The law's text: some string, not a long one. (Written by wip/gen/gen_datetext.py.)
-/
import Derived.Test.YtmmoimemfdbfgaaDoorDateR
import Derived.Test.YtmmoimemfdbfgaaDoorTlvROne
import Derived.Test.YtmmoimemfdbfgaaDoorLawTextWalk
namespace Go.Proofs.YtmmoimemfdbfgaaDoor
open Go.RowKit
set_option linter.unusedSimpArgs false

theorem oneV_con (b : ByteArray) : ∃ (t : Int) (c r : ByteArray) (e : Int), oneV b (Tl.one b) = .tuple #[.agg #[.int .i64 t, .string c, .string r], .int .i64 e] ∧ c.size ≤ b.size := by
  cases h : Tl.one b with
  | err c => exact ⟨_, _, _, _, rfl, Nat.zero_le _⟩
  | ok a n => exact ⟨_, _, _, _, rfl, by simp [ByteArray.size_extract]; omega⟩
theorem one3_cells (t : Int) (c r : ByteArray) (w : World) : ∀ e : Ext (w.alloc (.cells #[.int .i64 t, .string c, .string r] 50)), e.out.cell? ⟨w.heap.size, 1, none⟩ = some (.string c) := fun e => by
  have hz : w.heap.size < (w.alloc (.cells #[.int .i64 t, .string c, .string r] 50)).heap.size := by simp
  rw [e.cell hz, World.cell?_alloc_at _ _ _ _ rfl]; rfl
def TextPost (w : World) (e : Ending) (w' : World) : Prop := ∃ z : ByteArray, e = .returned (.string z) ∧ z.size ≤ 300 ∧ Below w.heap.size w w'
/-- one byte of a text changed -/
structure Cut (T : ByteArray) (p c : Int) (X1 X2 D : ByteArray) (b : UInt8) : Prop where
  pos : 0 < T.size
  x1 : ∀ w, (Instr.slice 9 (.string T) none (some (.int .i64 (p % (T.size : Int)))) none).run Tryd.prog w = .ok (.string X1) w
  x2 : ∀ w, (Instr.slice 9 (.string T) (some (.int .i64 (p % (T.size : Int) + 1))) none none).run Tryd.prog w = .ok (.string X2) w
  x3 : ∀ w, (Instr.index 9 (.string ⟨#[48, 49, 50, 51, 52, 53, 54, 55, 56, 57, 90, 45]⟩) (.int .u8 (c % 12))).run Tryd.prog w = .ok (.int .u8 (b.toNat : Nat)) w
  q1 : IntKind.i64.wrap (p % (T.size : Int) + 1) = p % (T.size : Int) + 1
  a1 : ∀ w, (Op.stringOp .add X1 ⟨[b].toArray⟩).run Tryd.prog w = .ok (.string (X1 ++ ⟨[b].toArray⟩)) w
  a2 : ∀ w, (Op.stringOp .add (X1 ++ ⟨[b].toArray⟩) X2).run Tryd.prog w = .ok (.string D) w
  size : D.size ≤ 300
theorem cut_any (T : ByteArray) (p c : Int) (h0 : 0 < T.size) (h1 : T.size ≤ 102) : ∃ X1 X2 D b, Cut T p c X1 X2 D b := by
  have hp := Int.emod_nonneg p (b := (T.size : Int)) (by omega)
  have hp' := Int.emod_lt_of_pos p (b := (T.size : Int)) (by omega)
  obtain ⟨j, hj, hjl⟩ : ∃ j : Nat, p % (T.size : Int) = j ∧ j < T.size := ⟨(p % (T.size : Int)).toNat, by omega, by omega⟩
  obtain ⟨m, hm, hml⟩ : ∃ m : Nat, c % 12 = m ∧ m < 12 := ⟨(c % 12).toNat, by omega, by omega⟩
  have z1 : (T.extract 0 j).size = j := by rw [ByteArray.size_extract]; omega
  have z2 : (T.extract (j + 1) T.size).size = T.size - (j + 1) := by rw [ByteArray.size_extract]; omega
  have z3 : (⟨[((⟨#[48, 49, 50, 51, 52, 53, 54, 55, 56, 57, 90, 45]⟩ : ByteArray).data.toList.getD m 0)].toArray⟩ : ByteArray).size = 1 := rfl
  refine ⟨T.extract 0 j, T.extract (j + 1) T.size, _, _, ⟨h0, cut_h T _ j hj (by omega), cut_l T _ (j + 1) (by omega) (by omega), byte_u8 ⟨#[48, 49, 50, 51, 52, 53, 54, 55, 56, 57, 90, 45]⟩ m (c % 12) hm (by show m < 12; exact hml), IntWalk.i64_in _ (by omega),
    fun W => run_string_add_sum (P := Tryd.prog) W _ _ (by omega), fun W => run_string_add_sum (P := Tryd.prog) W _ _ (by rw [ByteArray.size_append]; omega), ?_⟩⟩
  rw [ByteArray.size_append, ByteArray.size_append]; omega

set_option maxHeartbeats 2000000 in
set_option maxRecDepth 20000 in
theorem text_any (t tag p c h : Int) (w : World) (hp0 : 0 ≤ p) (hp1 : p ≤ 255) (hc0 : 0 ≤ c) (hc1 : c ≤ 255) (hh0 : 0 ≤ h) (hh1 : h ≤ 255) :
    Calls Tryd.prog 15 #[.int .i64 t, .int .i64 tag, .int .u8 p, .int .u8 c, .int .u8 h] w (TextPost w) := by
  have hO := fun b w => rone_any b w
  go_enter Tryd.func15, Tryd.ntmps15
  go_wp2_with fail
  go_at_call 23
  refine (rencode_some t w).mono ?_
  rintro _ w1 ⟨x, r, rfl, hx, hB⟩
  obtain ⟨t2, s, r2, e2, ho, hs⟩ := oneV_con x
  have hO1 := fun W => hO x W (by omega)
  rw [ho] at hO1
  have hs1 : s.size ≤ 100 := by omega
  clear ho hs hO hx
  go_wp2_with fail
  go_at_call 28
  refine (hO1 _).mono ?_
  rintro _ w2 ⟨rfl, hb⟩
  have hB := hB.trans (hb.mono hB.size)
  have hB3 := hB.alloc hB.size (.cells #[.int .i64 t2, .string s, .string r2] 50)
  clear hb hO1 hB
  have hC := cut_any
  have hcl : ∀ k v, [Value.int .i64 t2, .string s, .string r2][k]? = some v → (w2.alloc (.cells #[.int .i64 t2, .string s, .string r2] 50)).cell? ⟨w2.heap.size, k, none⟩ = some v := fun k v hk => by
    rw [World.cell?_alloc_at _ _ _ _ rfl]; simpa using hk
  have hc1 := hcl 1 _ rfl
  clear hcl
  by_cases h24 : tag = 24 ∧ s.size = 13
  · have u1 : (tag == 24) = true := by rw [h24.1]; rfl
    have u2 : ((s.size : Int) == 13) = true := by rw [beq_iff_eq]; omega
    have a0 := fun W : World => run_string_add_sum (P := Tryd.prog) W ⟨#[49, 57]⟩ s (by show 2 + s.size ≤ _; omega)
    have z0 : (⟨#[49, 57]⟩ ++ s : ByteArray).size ≤ 102 := by rw [ByteArray.size_append]; show 2 + s.size ≤ 102; omega
    have g0 : ¬ 9223372036854775807 < 2 + s.size := by omega
    have z9 := ByteArray.size_append (a := ⟨#[49, 57]⟩) (b := s)
    change _ = 2 + s.size at z9
    generalize hS1 : (⟨#[49, 57]⟩ ++ s : ByteArray) = s1 at *
    have HS1 := Lib.hid hS1
    clear h24 hS1 z9
    by_cases hd : h % 3 = 0 ∧ 0 < s1.size
    · have v1 : (h % 3 == 0) = true := by rw [hd.1]; rfl
      have v2 : decide (0 < (s1.size : Int)) = true := by simp; omega
      have v3 : 0 < s1.size := hd.2
      obtain ⟨X1, X2, D, by1, hcut⟩ := hC s1 p c hd.2 (by omega)
      obtain ⟨-, x1, x2, x3, q1, a1, a2, hD⟩ := hcut
      have hcv := By.back_self (w2.alloc (.cells #[.int .i64 t2, .string s, .string r2] 50)).drew #[.int .u8 (by1.toNat : Nat)] [by1] (w2.heap.size + 1) 1 rfl (by simp) rfl (by omega)
      change (convert _ _ _).run _ ((w2.alloc (.cells #[.int .i64 t2, .string s, .string r2] 50)).alloc (.cells #[.int .u8 (by1.toNat : Nat)] 5)).drew = .ok _ ((w2.alloc (.cells #[.int .i64 t2, .string s, .string r2] 50)).alloc (.cells #[.int .u8 (by1.toNat : Nat)] 5)).drew at hcv
      generalize (⟨[by1].toArray⟩ : ByteArray) = C1 at *
      generalize X1 ++ C1 = X3 at *
      have hBr : Below w.heap.size w ((w2.alloc (.cells #[.int .i64 t2, .string s, .string r2] 50)).alloc (.cells #[.int .u8 (by1.toNat : Nat)] 5)).drew := (hB3.alloc hB3.size _).drew
      have hby := UInt8.toNat_lt by1
      clear hd hC
      go_wp2
      go_region
      all_goals
        go_wp2
        go_ret
        exact ⟨D, rfl, hD, hBr⟩
    · have hle : s1.size ≤ 300 := by omega
      clear hC
      by_cases h3 : h % 3 = 0
      · have v1 : (h % 3 == 0) = true := by rw [h3]; rfl
        have v4 : s1.size = 0 := by
          rcases Nat.eq_zero_or_pos s1.size with q | q
          · exact q
          · exact absurd ⟨h3, q⟩ hd
        have v2 : decide (0 < (s1.size : Int)) = false := decide_eq_false (by omega)
        have v3 : ¬ 0 < s1.size := by omega
        clear hd h3 v4
        go_wp2
        go_ret
        exact ⟨s1, rfl, hle, hB3⟩
      · have v1 : (h % 3 == 0) = false := by rw [beq_eq_false_iff_ne]; exact h3
        clear hd h3
        go_wp2
        go_ret
        exact ⟨s1, rfl, hle, hB3⟩
  · have n0 : True := trivial
    by_cases ht : tag = 24
    · have u1 : (tag == 24) = true := by rw [ht]; rfl
      have u2 : ((s.size : Int) == 13) = false := by rw [beq_eq_false_iff_ne]; omega
      clear h24 ht
      by_cases hd : h % 3 = 0 ∧ 0 < s.size
      · have v1 : (h % 3 == 0) = true := by rw [hd.1]; rfl
        have v2 : decide (0 < (s.size : Int)) = true := by simp; omega
        have v3 : 0 < s.size := hd.2
        obtain ⟨X1, X2, D, by1, hcut⟩ := hC s p c hd.2 (by omega)
        obtain ⟨-, x1, x2, x3, q1, a1, a2, hD⟩ := hcut
        have hcv := By.back_self (w2.alloc (.cells #[.int .i64 t2, .string s, .string r2] 50)).drew #[.int .u8 (by1.toNat : Nat)] [by1] (w2.heap.size + 1) 1 rfl (by simp) rfl (by omega)
        change (convert _ _ _).run _ ((w2.alloc (.cells #[.int .i64 t2, .string s, .string r2] 50)).alloc (.cells #[.int .u8 (by1.toNat : Nat)] 5)).drew = .ok _ ((w2.alloc (.cells #[.int .i64 t2, .string s, .string r2] 50)).alloc (.cells #[.int .u8 (by1.toNat : Nat)] 5)).drew at hcv
        generalize (⟨[by1].toArray⟩ : ByteArray) = C1 at *
        generalize X1 ++ C1 = X3 at *
        have hBr : Below w.heap.size w ((w2.alloc (.cells #[.int .i64 t2, .string s, .string r2] 50)).alloc (.cells #[.int .u8 (by1.toNat : Nat)] 5)).drew := (hB3.alloc hB3.size _).drew
        have hby := UInt8.toNat_lt by1
        clear hd hC
        go_wp2
        go_region
        all_goals
          go_wp2
          go_ret
          exact ⟨D, rfl, hD, hBr⟩
      · have hle : s.size ≤ 300 := by omega
        clear hC
        by_cases h3 : h % 3 = 0
        · have v1 : (h % 3 == 0) = true := by rw [h3]; rfl
          have v4 : s.size = 0 := by
            rcases Nat.eq_zero_or_pos s.size with q | q
            · exact q
            · exact absurd ⟨h3, q⟩ hd
          have v2 : decide (0 < (s.size : Int)) = false := decide_eq_false (by omega)
          have v3 : ¬ 0 < s.size := by omega
          clear hd h3 v4
          go_wp2
          go_ret
          exact ⟨s, rfl, hle, hB3⟩
        · have v1 : (h % 3 == 0) = false := by rw [beq_eq_false_iff_ne]; exact h3
          clear hd h3
          go_wp2
          go_ret
          exact ⟨s, rfl, hle, hB3⟩
    · have u1 : (tag == 24) = false := by rw [beq_eq_false_iff_ne]; exact ht
      clear h24 ht
      by_cases hd : h % 3 = 0 ∧ 0 < s.size
      · have v1 : (h % 3 == 0) = true := by rw [hd.1]; rfl
        have v2 : decide (0 < (s.size : Int)) = true := by simp; omega
        have v3 : 0 < s.size := hd.2
        obtain ⟨X1, X2, D, by1, hcut⟩ := hC s p c hd.2 (by omega)
        obtain ⟨-, x1, x2, x3, q1, a1, a2, hD⟩ := hcut
        have hcv := By.back_self (w2.alloc (.cells #[.int .i64 t2, .string s, .string r2] 50)).drew #[.int .u8 (by1.toNat : Nat)] [by1] (w2.heap.size + 1) 1 rfl (by simp) rfl (by omega)
        change (convert _ _ _).run _ ((w2.alloc (.cells #[.int .i64 t2, .string s, .string r2] 50)).alloc (.cells #[.int .u8 (by1.toNat : Nat)] 5)).drew = .ok _ ((w2.alloc (.cells #[.int .i64 t2, .string s, .string r2] 50)).alloc (.cells #[.int .u8 (by1.toNat : Nat)] 5)).drew at hcv
        generalize (⟨[by1].toArray⟩ : ByteArray) = C1 at *
        generalize X1 ++ C1 = X3 at *
        have hBr : Below w.heap.size w ((w2.alloc (.cells #[.int .i64 t2, .string s, .string r2] 50)).alloc (.cells #[.int .u8 (by1.toNat : Nat)] 5)).drew := (hB3.alloc hB3.size _).drew
        have hby := UInt8.toNat_lt by1
        clear hd hC
        go_wp2
        go_region
        all_goals
          go_wp2
          go_ret
          exact ⟨D, rfl, hD, hBr⟩
      · have hle : s.size ≤ 300 := by omega
        clear hC
        by_cases h3 : h % 3 = 0
        · have v1 : (h % 3 == 0) = true := by rw [h3]; rfl
          have v4 : s.size = 0 := by
            rcases Nat.eq_zero_or_pos s.size with q | q
            · exact q
            · exact absurd ⟨h3, q⟩ hd
          have v2 : decide (0 < (s.size : Int)) = false := decide_eq_false (by omega)
          have v3 : ¬ 0 < s.size := by omega
          clear hd h3 v4
          go_wp2
          go_ret
          exact ⟨s, rfl, hle, hB3⟩
        · have v1 : (h % 3 == 0) = false := by rw [beq_eq_false_iff_ne]; exact h3
          clear hd h3
          go_wp2
          go_ret
          exact ⟨s, rfl, hle, hB3⟩

end Go.Proofs.YtmmoimemfdbfgaaDoor
