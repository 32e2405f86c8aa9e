/-
  An argument []string, opened.
-/
import Derived.Test.YtmmoimemfdbfgaaTlvRWrap
import Derived.OpenShut
import Derived.SliceStrings
import Derived.ProofKit
import Derived.Deep.Slices
namespace Go.Proofs.Ytmmoimemfdbfgaa
open Go.ChangeShapes Go.WideShapes Go.RowKit

theorem cells_string : Try.prog.cellsOf 9 = 1 := by kernel_rfl
theorem cell_lt {w : World} {a : Addr} {v : Value} (h : w.cell? a = some v) : a.block < w.heap.size := by
  rcases Nat.lt_or_ge a.block w.heap.size with h' | h'
  · exact h'
  · simp [World.cell?, Array.getElem?_eq_none h'] at h
theorem strs_open {H : Type} {enc : TypeId × Value → H} {W : World} {b0 : Nat} {r : Reach} {v : Value} {d : DataW H} {p : List MemPlace}
    (hv : Value.okWide Try.prog W r b0 22 v) (h : DataW.Trod enc Try.prog W 0 (fun _ => true) true 22 v d p) : ∃ xs, Strs W v xs := by
  obtain ⟨a0, len, cap, rfl⟩ := Go.WideShapes.okWide_slice Try.underlying22 hv
  obtain ⟨fuel, hf⟩ := h
  rcases open_strings Try.underlying22 Try.underlying9 cells_string hf with ⟨hcs, hx⟩ | ⟨a, len', cap', ss, hcs, _, hl, hm, hz, hx, hcell, _⟩
  · simp [Value.cells] at hcs
    obtain ⟨rfl, rfl, rfl⟩ := hcs
    exact ⟨[], .none _ _⟩
  · simp [Value.cells] at hcs
    obtain ⟨rfl, rfl, rfl⟩ := hcs
    simp only [if_true] at hz
    obtain ⟨bk, o, spot⟩ := a
    rcases Nat.eq_zero_or_pos len with h0 | h0
    · subst h0; exact ⟨[], .none _ _⟩
    · have hspot : spot = none := by simpa [Addr.add] using World.cell?_spot (hcell 0 (by omega))
      subst hspot
      have hb : bk < W.heap.size := cell_lt (hcell 0 (by omega))
      have hlen : (ss.take len).length = len := by simp; omega
      have hc : ∀ (j : Nat) y, (ss.take len)[j]? = some y → W.cell? ⟨bk, o + j, none⟩ = some (.string y) := by
        intro j y hj
        have hjl : j < len := by
          have := (List.getElem?_eq_some_iff.1 hj).1
          omega
        have hy : ss.getD j ByteArray.empty = y := by
          rw [List.getElem?_take_of_lt hjl] at hj
          simp [List.getD, hj]
        have := hcell j (by omega)
        rw [hy] at this
        rw [← this]
        congr 1
        unfold Addr.add; split
        · simp [*]
        · rfl
      refine ⟨ss.take len, ?_⟩
      generalize ss.take len = X at *
      cases X with
      | nil => simp at hlen; omega
      | cons x xs =>
        rw [← hlen]
        exact .some bk o cap x xs hb (by omega) (by omega) hc

end Go.Proofs.Ytmmoimemfdbfgaa
