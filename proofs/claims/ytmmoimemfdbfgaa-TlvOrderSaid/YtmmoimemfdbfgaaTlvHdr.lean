/-
  When Read accepts, and what it then returns depends on: in plain Lean.
-/
import Derived.Test.YtmmoimemfdbfgaaTlvRd
namespace Go.Proofs.Ytmmoimemfdbfgaa.Tl

/-- the first octets are a header: a octets, and n octets of contents -/
def Hdr (b : ByteArray) (a n : Nat) : Prop :=
  byt b 0 % 32 ≠ 31 ∧ ((byt b 1 < 128 ∧ a = 2 ∧ n = byt b 1) ∨ (byt b 1 = 129 ∧ a = 3 ∧ n = beN b 1 ∧ 128 ≤ n) ∨ (byt b 1 = 130 ∧ a = 4 ∧ n = beN b 2 ∧ 256 ≤ n) ∨ (byt b 1 = 131 ∧ a = 5 ∧ n = beN b 3 ∧ 65536 ≤ n)) ∧ n ≤ 131072
theorem long_ok {b : ByteArray} {k a n : Nat} : long b k = .ok a n ↔ a = 2 + k ∧ n = beN b k ∧ least k ≤ n ∧ n ≤ 131072 ∧ a + n ≤ b.size := by
  unfold long fin
  constructor
  · intro h
    repeat' split at h
    all_goals first | (simp only [Res.ok.injEq] at h; omega) | (simp at h)
  · rintro ⟨rfl, rfl, h1, h2, h3⟩
    rw [if_neg (by omega), if_neg (by omega), if_neg (by omega)]
theorem rd_ok_iff {b : ByteArray} {a n : Nat} : rd b = .ok a n ↔ Hdr b a n ∧ a + n ≤ b.size := by
  unfold rd Hdr
  have hb := byt_lt b 1
  constructor
  · intro h
    split at h; · simp at h
    split at h; · simp at h
    split at h; · simp at h
    split at h; · simp at h
    split at h
    · unfold fin at h
      split at h; · simp at h
      simp only [Res.ok.injEq] at h; omega
    · have hk : byt b 1 = 129 ∨ byt b 1 = 130 ∨ byt b 1 = 131 := by omega
      rw [long_ok] at h
      rcases hk with e | e | e <;> rw [e] at h <;> simp only [Nat.reduceSub, least] at h <;> omega
  · rintro ⟨⟨h0, h1, h2⟩, h3⟩
    rw [if_neg (by omega), if_neg h0, if_neg (by omega)]
    rcases h1 with ⟨e, rfl, rfl⟩ | ⟨e, rfl, rfl, h4⟩ | ⟨e, rfl, rfl, h4⟩ | ⟨e, rfl, rfl, h4⟩
    · rw [if_neg (by omega), if_pos e]; unfold fin; rw [if_neg (by omega)]
    all_goals (rw [if_neg (by omega), if_neg (by omega), long_ok, e]; exact ⟨rfl, rfl, h4, h2, h3⟩)

theorem hdr_congr {b c : ByteArray} {a n : Nat} (h : Hdr b a n) (he : ∀ k, k < a → byt c k = byt b k) : Hdr c a n := by
  unfold Hdr at *
  obtain ⟨h0, h1, h2⟩ := h
  have e0 := he 0 (by omega)
  have e1 := he 1 (by omega)
  rcases h1 with ⟨e, rfl, rfl⟩ | ⟨e, rfl, rfl, h4⟩ | ⟨e, rfl, rfl, h4⟩ | ⟨e, rfl, rfl, h4⟩
  · refine ⟨by omega, .inl (by omega), h2⟩
  · have e2 := he 2 (by omega)
    refine ⟨by omega, .inr (.inl ⟨by omega, rfl, ?_, h4⟩), h2⟩
    simp [beN, e2]
  · have e2 := he 2 (by omega)
    have e3 := he 3 (by omega)
    refine ⟨by omega, .inr (.inr (.inl ⟨by omega, rfl, ?_, h4⟩)), h2⟩
    simp [beN, e2, e3]
  · have e2 := he 2 (by omega)
    have e3 := he 3 (by omega)
    have e4 := he 4 (by omega)
    refine ⟨by omega, .inr (.inr (.inr ⟨by omega, rfl, ?_, h4⟩)), h2⟩
    simp [beN, e2, e3, e4]
theorem hdr_fun {b : ByteArray} {a n a' n' : Nat} (h : Hdr b a n) (h' : Hdr b a' n') : a = a' ∧ n = n' := by
  unfold Hdr at *
  omega
theorem byt_take (b : ByteArray) (m k : Nat) (h : k < m) (hm : m ≤ b.size) : byt (b.extract 0 m) k = byt b k := by
  rw [← byt_get _ k (by simp [ByteArray.size_extract]; omega), ← byt_get b k (by omega)]
  simp [ByteArray.getElem_extract]

end Go.Proofs.Ytmmoimemfdbfgaa.Tl
