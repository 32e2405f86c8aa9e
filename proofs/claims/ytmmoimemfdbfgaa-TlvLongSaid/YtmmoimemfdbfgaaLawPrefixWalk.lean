/-
  The walk of TlvPrefix: it returns true.
-/
import Derived.Test.YtmmoimemfdbfgaaLawTlvBase
import Derived.Test.YtmmoimemfdbfgaaTlvHdr
namespace Go.Proofs.Ytmmoimemfdbfgaa
open Go.RowKit
set_option linter.unusedSimpArgs false

theorem one_ok_iff {b : ByteArray} {a n : Nat} : Tl.one b = .ok a n ↔ Tl.Hdr b a n ∧ a + n = b.size := by
  unfold Tl.one
  constructor
  · intro h
    split at h
    · simp at h
    · rename_i a' n' h'
      have := Tl.rd_ok_iff.1 h'
      split at h
      · simp at h
      · simp only [Tl.Res.ok.injEq] at h
        obtain ⟨rfl, rfl⟩ := h
        exact ⟨this.1, by omega⟩
  · rintro ⟨h1, h2⟩
    rw [Tl.rd_ok_iff.2 ⟨h1, by omega⟩]
    simp only
    rw [if_neg (by omega)]
/-- no accepted encoding is a proper beginning of another one -/
theorem one_prefix {b : ByteArray} {m a n a' n' : Nat} (hm : m < b.size) (h : Tl.one b = .ok a n) (h' : Tl.one (b.extract 0 m) = .ok a' n') : False := by
  rw [one_ok_iff] at h h'
  have hs : (b.extract 0 m).size = m := by simp [ByteArray.size_extract]; omega
  have h2 := Tl.hdr_congr h'.1 (c := b) (fun k hk => (Tl.byt_take b m k (by omega) (by omega)).symm)
  have := Tl.hdr_fun h.1 h2
  omega

/-- the error that One returns -/
def Tl.codeOf : Tl.Res → Int
  | .err c => c
  | .ok _ _ => 0
theorem oneV_form (b : ByteArray) (r : Tl.Res) : ∃ t x y, oneV b r = .tuple #[.agg #[.int .i64 t, .string x, .string y], .int .i64 (Tl.codeOf r)] := by
  cases r with
  | err c => exact ⟨_, _, _, rfl⟩
  | ok a n => exact ⟨_, _, _, rfl⟩

theorem behind {a w w' : World} (h : Below a.heap.size a w) (h' : Below w.heap.size w w') : Below a.heap.size a w' := h.trans (h'.mono h.size)

theorem law_prefix (b : ByteArray) (k : Int) (w : World) (hk0 : 0 ≤ k) (hk1 : k ≤ 65535) :
    Calls Try.prog 6 #[.string b, .int .u16 k] w fun e w' => e = .returned (.bool true) ∧ Below w.heap.size w w' := by
  by_cases h0 : b.size = 0
  · have t0 : ((b.size : Int) == 0) = true := by rw [beq_iff_eq]; omega
    clear h0
    go_enter Try.func6, Try.ntmps6
    go_wp2_with fail
    go_at_call 12
    refine (awake_any _).mono ?_
    rintro e w1 ⟨rfl, hb1⟩
    go_wp2
    go_ret
    exact ⟨rfl, hb1⟩
  · have t0 : ((b.size : Int) == 0) = false := by rw [beq_eq_false_iff_ne]; omega
    by_cases h1 : 600 < b.size
    · have t1 : decide (600 < (b.size : Int)) = true := by simp; omega
      clear h0 h1
      go_enter Try.func6, Try.ntmps6
      go_wp2_with fail
      go_at_call 12
      refine (awake_any _).mono ?_
      rintro e w1 ⟨rfl, hb1⟩
      go_wp2
      go_ret
      exact ⟨rfl, hb1⟩
    · have t1 : decide (600 < (b.size : Int)) = false := by simp; omega
      obtain ⟨m, hm, hml⟩ : ∃ m : Nat, k.tmod (b.size : Int) = m ∧ m < b.size := by
        refine ⟨(k % b.size).toNat, ?_, ?_⟩
        · rw [Int.tmod_eq_emod_of_nonneg hk0]; have := Int.emod_nonneg k (show (b.size : Int) ≠ 0 by omega); omega
        · have := Int.emod_nonneg k (show (b.size : Int) ≠ 0 by omega); have := Int.emod_lt_of_pos k (show 0 < (b.size : Int) by omega); omega
      have hm2 : k % (b.size : Int) = m := by rw [← Int.tmod_eq_emod_of_nonneg hk0]; exact hm
      have rs := sl_h b (m : Int) m rfl (by omega)
      have hz : (b.size : Int) ≠ 0 := by omega
      have hO1 := fun W => one_any b W (by omega)
      have hO2 := fun W => one_any (b.extract 0 m) W (by simp [ByteArray.size_extract]; omega)
      obtain ⟨t, x, y, e1⟩ := oneV_form b (Tl.one b)
      obtain ⟨t', x', y', e2⟩ := oneV_form (b.extract 0 m) (Tl.one (b.extract 0 m))
      rw [e1] at hO1
      rw [e2] at hO2
      have hc : (Tl.codeOf (Tl.one b) != 0 || Tl.codeOf (Tl.one (b.extract 0 m)) != 0) = true := by
        cases p : Tl.one b with
        | err c => have := Tl.one_err p; simp [Tl.codeOf]; omega
        | ok a n =>
          cases q : Tl.one (b.extract 0 m) with
          | err c => have := Tl.one_err q; simp [Tl.codeOf]; omega
          | ok a' n' => exact (one_prefix hml p q).elim
      generalize Tl.codeOf (Tl.one b) = c1 at *
      generalize Tl.codeOf (Tl.one (b.extract 0 m)) = c2 at *
      clear e1 e2 h0 h1
      go_enter Try.func6, Try.ntmps6
      go_wp2_with fail
      go_at_call 15
      refine (hO1 _).mono ?_
      rintro e w1 ⟨rfl, hb1⟩
      clear hO1
      go_wp2_with fail
      go_at_call 15
      refine (hO2 _).mono ?_
      rintro e w2 ⟨rfl, hb2⟩
      have hB2 := behind (hb1.alloc hb1.size _) hb2
      clear hO2 hb1 hb2
      go_wp2_with fail
      go_at_call 12
      refine (awake_any _).mono ?_
      rintro e w3 ⟨rfl, hb3⟩
      have hB3 := behind (hB2.alloc hB2.size _) hb3
      clear hB2 hb3
      cases hq : (c1 != 0) with
      | true =>
        go_wp2
        go_ret
        exact ⟨rfl, hB3⟩
      | false =>
        have hq2 : (c2 != 0) = true := by simpa [hq] using hc
        go_wp2
        go_ret
        exact ⟨rfl, hB3⟩

end Go.Proofs.Ytmmoimemfdbfgaa
