/-
  An argument that is a slice of integers, opened.
-/
import Derived.Test.YtmagjdocondmhaaChecked
import Derived.OpenShut
import Derived.ProofKit
import Derived.ChangeSlices
import Derived.Laws.IdiomStrings
namespace Go.Proofs.Ytmagjdocondmhaa
open Go.ChangeShapes Go.WideShapes Go.RowKit

/-- a slice of integers -/
inductive Ints (w : World) (k : IntKind) : Value → List Int → Prop
  | none (a : Option Addr) (c : Nat) : Ints w k (.slice a 0 c) []
  | some (bk o c : Nat) (zs : List Int) (hb : bk < w.heap.size) (hl : 0 < zs.length) (hc : zs.length ≤ c) (hn : zs.length ≤ maxLen)
      (h : ∀ (j : Nat) y, zs[j]? = Option.some y → w.cell? ⟨bk, o + j, Option.none⟩ = Option.some (.int k y)) : Ints w k (.slice (Option.some ⟨bk, o, Option.none⟩) zs.length c) zs
set_option maxRecDepth 10000 in
theorem ints_open {H : Type} {enc : TypeId × Value → H} {W : World} {b0 : Nat} {r : Reach} {v : Value} {d : DataW H} {p : List MemPlace} {t e : TypeId} {k : IntKind}
    (ht : Try.prog.underlying t = some (.slice e)) (he : Try.prog.underlying e = some (.int k)) (hce : Try.prog.cellsOf e = 1)
    (hv : Value.okWide Try.prog W r b0 t v) (h : DataW.Trod enc Try.prog W 0 (fun _ => true) true t v d p) : ∃ zs, Ints W k v zs ∧ ∀ z ∈ zs, (Lit.int k z).wf = true := by
  obtain ⟨a0, len, cap, rfl⟩ := Go.WideShapes.okWide_slice ht hv
  obtain ⟨fuel, hf⟩ := h
  rcases open_ints ht he hce hf with ⟨hcs, hx⟩ | ⟨a, len', cap', zs, hcs, _, hl, hm, hz, hx, hcell, hwf⟩
  · simp [Value.cells] at hcs
    obtain ⟨rfl, rfl, rfl⟩ := hcs
    exact ⟨[], .none _ _, by simp⟩
  · simp [Value.cells] at hcs
    obtain ⟨rfl, rfl, rfl⟩ := hcs
    simp only [if_true] at hz
    obtain ⟨bk, o, spot⟩ := a
    rcases Nat.eq_zero_or_pos len with h0 | h0
    · subst h0; exact ⟨[], .none _ _, by simp⟩
    · have hspot : spot = none := by simpa [Addr.add] using World.cell?_spot (hcell 0 (by omega))
      subst hspot
      have hb : bk < W.heap.size := World.block_lt_of_cell? W _ (hcell 0 (by omega))
      have hlen : (zs.take len).length = len := by simp; omega
      have hc : ∀ (j : Nat) y, (zs.take len)[j]? = some y → W.cell? ⟨bk, o + j, none⟩ = some (.int k y) := by
        intro j y hj
        have hjl : j < len := by
          have := (List.getElem?_eq_some_iff.1 hj).1
          omega
        have hy : zs.getD j 0 = y := by
          rw [List.getElem?_take_of_lt hjl] at hj
          simp [List.getD, hj]
        have := hcell j (by omega)
        rw [hy] at this
        rw [← this]
        congr 1
        unfold Addr.add; split
        · simp [*]
        · rfl
      refine ⟨zs.take len, ?_, fun z hz' => hwf z (List.mem_of_mem_take hz')⟩
      generalize zs.take len = X at *
      rw [← hlen]
      exact .some bk o cap X hb (by omega) (by omega) (by omega) hc

/-- a slice of bytes as a string -/
theorem convert_ints {W : World} {v : Value} {zs : List Int} {src dst e : TypeId} (hs : Try.prog.underlying src = some (.slice e)) (he : Try.prog.underlying e = some (.int .u8)) (hd : Try.prog.underlying dst = some .string)
    (h : Ints W .u8 v zs) (hwf : ∀ z ∈ zs, 0 ≤ z ∧ z ≤ 255) (w : World) (hb : Below W.heap.size W w) :
    (convert src dst v).run Try.prog w = .ok (.string ⟨(zs.map fun z => UInt8.ofNat z.toNat).toArray⟩) w := by
  cases h with
  | none a c =>
    rw [run_convert_bytes_string w src dst e a 0 c hs he hd]
    cases a <;> rfl
  | some bk o c zs hbk hl hc hn h =>
    have := run_convert_bytes_back (P := Try.prog) w src dst e ⟨bk, o, none⟩ c (zs.map fun z => UInt8.ofNat z.toNat) hs he hd (fun j hj => by
      have hj' : j < zs.length := by simpa using hj
      have hcj := (hb.cell (p := ⟨bk, o + j, none⟩) hbk).trans (h j zs[j] (by simp [hj']))
      have ea : (⟨bk, o, none⟩ : Addr).add j = ⟨bk, o + j, none⟩ := by
        unfold Addr.add; split
        · simp [*]
        · rfl
      rw [ea, hcj]
      have hz := hwf zs[j] (List.getElem_mem _)
      simp
      omega)
    rw [List.length_map] at this
    exact this

end Go.Proofs.Ytmagjdocondmhaa
