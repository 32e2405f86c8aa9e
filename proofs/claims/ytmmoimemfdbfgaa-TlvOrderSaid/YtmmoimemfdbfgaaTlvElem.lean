/-
  What Wrap writes is what Read reads: in plain Lean.
-/
import Derived.Test.YtmmoimemfdbfgaaTlvHdr
import Derived.Test.YtmmoimemfdbfgaaTlvPlain
namespace Go.Proofs.Ytmmoimemfdbfgaa.Tl

theorem byt_mk (l : List UInt8) (k : Nat) : byt ⟨l.toArray⟩ k = (l.getD k 0).toNat := by simp [byt]
theorem b8_self (x : UInt8) : b8 x.toNat = x := by unfold b8; simp

theorem elem_hdr (t : Nat) (c r : List UInt8) (_ht : t < 256) (h31 : t % 32 ≠ 31) (hc : c.length ≤ 131072) :
    Hdr ⟨(elem t c ++ r).toArray⟩ (1 + (lenB c.length).length) c.length := by
  unfold Hdr elem
  simp only [byt_mk]
  have h4 : c.length < 128 ∨ (128 ≤ c.length ∧ c.length < 256) ∨ (256 ≤ c.length ∧ c.length < 65536) ∨ 65536 ≤ c.length := by omega
  rcases h4 with h | ⟨h, h'⟩ | ⟨h, h'⟩ | h
  · rw [lenB_1 _ h]
    refine ⟨by simp [b8_toNat]; omega, .inl ⟨?_, by simp, ?_⟩, hc⟩ <;> simp [b8_toNat] <;> omega
  · rw [lenB_2 _ h h']
    refine ⟨by simp [b8_toNat]; omega, .inr (.inl ⟨?_, by simp, ?_, h⟩), hc⟩ <;> simp [beN, byt_mk, b8_toNat] <;> omega
  · rw [lenB_3 _ h h']
    refine ⟨by simp [b8_toNat]; omega, .inr (.inr (.inl ⟨?_, by simp, ?_, h⟩)), hc⟩ <;> simp [beN, byt_mk, b8_toNat] <;> omega
  · rw [lenB_4 _ h]
    refine ⟨by simp [b8_toNat]; omega, .inr (.inr (.inr ⟨?_, by simp, ?_, h⟩)), hc⟩ <;> simp [beN, byt_mk, b8_toNat] <;> omega

theorem open2 : ∀ l : List UInt8, 2 ≤ l.length → ∃ x y r, l = x :: y :: r
  | x :: y :: r, _ => ⟨x, y, r, rfl⟩
  | [], h => by simp at h
  | [_], h => by simp at h
theorem open3 (l : List UInt8) (h : 3 ≤ l.length) : ∃ x y z r, l = x :: y :: z :: r := by
  obtain ⟨x, y, r, rfl⟩ := open2 l (by omega)
  match r, h with
  | z :: r, _ => exact ⟨x, y, z, r, rfl⟩
  | [], h => simp at h
theorem open4 (l : List UInt8) (h : 4 ≤ l.length) : ∃ x y z u r, l = x :: y :: z :: u :: r := by
  obtain ⟨x, y, r, rfl⟩ := open2 l (by omega)
  obtain ⟨z, u, r, rfl⟩ := open2 r (by simp at h; omega)
  exact ⟨x, y, z, u, r, rfl⟩
theorem open5 (l : List UInt8) (h : 5 ≤ l.length) : ∃ x y z u v r, l = x :: y :: z :: u :: v :: r := by
  obtain ⟨x, y, r, rfl⟩ := open2 l (by omega)
  obtain ⟨z, u, v, r, rfl⟩ := open3 r (by simp at h; omega)
  exact ⟨x, y, z, u, v, r, rfl⟩

theorem hdr_elem (l : List UInt8) (a n : Nat) (h : Hdr ⟨l.toArray⟩ a n) (hs : a + n = l.length) : elem (byt ⟨l.toArray⟩ 0) (l.drop a) = l := by
  unfold Hdr at h
  obtain ⟨-, h1, h2⟩ := h
  have hn : (l.drop a).length = n := by simp; omega
  unfold elem
  rw [hn]
  simp only [byt_mk, beN] at h1 ⊢
  rcases h1 with ⟨e, rfl, e2⟩ | ⟨e, rfl, e2, h4⟩ | ⟨e, rfl, e2, h4⟩ | ⟨e, rfl, e2, h4⟩
  · rw [lenB_1 _ (by omega)]
    obtain ⟨x0, x1, r, rfl⟩ := open2 l (by omega)
    simp at e2 ⊢; rw [e2, b8_self, b8_self]; simp
  · obtain ⟨x0, x1, x2, r, rfl⟩ := open3 l (by omega)
    · skip
      simp at e e2 ⊢
      have h2' := UInt8.toNat_lt x2
      rw [lenB_2 _ h4 (by omega), e2, b8_self, b8_self]
      have : x1 = 129 := UInt8.toNat_inj.1 e
      simp [this]
  · obtain ⟨x0, x1, x2, x3, r, rfl⟩ := open4 l (by omega)
    · skip
      simp at e e2 ⊢
      have h2' := UInt8.toNat_lt x2
      have h3' := UInt8.toNat_lt x3
      rw [lenB_3 _ h4 (by omega), b8_self]
      have : x1 = 130 := UInt8.toNat_inj.1 e
      have k1 : b8 (n / 256) = x2 := by rw [show n / 256 = x2.toNat by omega, b8_self]
      have k2 : b8 n = x3 := by apply UInt8.toNat_inj.1; rw [b8_toNat]; omega
      simp [this, k1, k2]
  · obtain ⟨x0, x1, x2, x3, x4, r, rfl⟩ := open5 l (by omega)
    · skip
      simp at e e2 ⊢
      have h2' := UInt8.toNat_lt x2
      have h3' := UInt8.toNat_lt x3
      have h4' := UInt8.toNat_lt x4
      rw [lenB_4 _ h4, b8_self]
      have : x1 = 131 := UInt8.toNat_inj.1 e
      have k1 : b8 (n / 65536) = x2 := by rw [show n / 65536 = x2.toNat by omega, b8_self]
      have k2 : b8 (n / 256) = x3 := by apply UInt8.toNat_inj.1; rw [b8_toNat]; omega
      have k3 : b8 n = x4 := by apply UInt8.toNat_inj.1; rw [b8_toNat]; omega
      simp [this, k1, k2, k3]

end Go.Proofs.Ytmmoimemfdbfgaa.Tl
