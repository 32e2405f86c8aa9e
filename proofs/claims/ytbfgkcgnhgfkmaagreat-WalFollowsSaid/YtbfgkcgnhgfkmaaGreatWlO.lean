/-
  An argument []Call of the law, opened.
-/
import Derived.Test.YtbfgkcgnhgfkmaaGreatWlC
import Derived.Deep.Slices
import Derived.Deep.Fields
import Derived.ChangeSame
import Derived.OpenShut
import Derived.ProofKit
namespace Go.Proofs.YtbfgkcgnhgfkmaaGreat.Wl
open Go Go.ChangeShapes Go.WideShapes Go.RowKit Go.Deep Go.Proofs.YtbfgkcgnhgfkmaaGreat.Slc Go.Proofs.YtbfgkcgnhgfkmaaGreat.Hs
open Go.Proofs.YtbfgkcgnhgfkmaaGreat.Dk (ptr bstr bstr_size i64ok add_at')
set_option linter.unusedVariables false
set_option linter.unusedSimpArgs false
set_option maxRecDepth 10000

theorem wcalls_open {H : Type} {enc : TypeId × Value → H} {W : World} {b0 : Nat} {r : Reach} {v : Value} {d : DataW H} {p : List MemPlace}
    (hv : Value.okWide Tryz.prog W r b0 22 v) (h : DataW.Trod enc Tryz.prog W 0 (fun _ => true) true 22 v d p) :
    ∃ l : List WC, WArg W v l ∧ (∀ c ∈ l, c.In) ∧ l.length ≤ 9223372036854775807 := by
  obtain ⟨a0, len, cap, rfl⟩ := okWide_slice Tryz.underlying22 hv
  obtain ⟨fuel, hf⟩ := h
  rcases open_slice Tryz.underlying22 hf with ⟨hcs, hx⟩ | ⟨a, len', cap', m, n, D, Pl, hcs, _, hl, hm, hmm, hx, hi⟩
  · simp [Value.cells] at hcs
    obtain ⟨rfl, rfl, rfl⟩ := hcs
    exact ⟨[], ⟨none, 0, rfl, fun k hk => by simp at hk⟩, (fun c hc => by cases hc), by simp⟩
  · simp [Value.cells] at hcs
    obtain ⟨rfl, rfl, rfl⟩ := hcs
    simp only [if_true] at hmm
    subst hmm
    have hC : ∀ i : Fin len, ∃ c : WC, c.In ∧ W.cells? 0 (a.add (i.1 * 4)) 4 = some c.cells := by
      intro i
      obtain ⟨cs', hc, ht⟩ := hi i.1 (by omega)
      rw [wcells_call] at hc
      obtain ⟨c, hin, rfl⟩ := wcall_cells ht
      exact ⟨c, hin, hc⟩
    obtain ⟨g, hg⟩ := Classical.axiomOfChoice hC
    refine ⟨List.ofFn g, ⟨some a, m, by rw [List.length_ofFn], fun k hk => ?_⟩, fun c hc => ?_, ?_⟩
    · have hkl : k < len := by simpa using hk
      have hs := (hg ⟨k, hkl⟩).2
      obtain ⟨_, _, hcell⟩ := World.cells?_some hs
      obtain ⟨bk, o, spot⟩ := a
      have h0 := hcell 0 (by omega)
      have hspot : spot = none := by
        have h00 := (World.cells?_some (hg ⟨0, by omega⟩).2).2.2 0 (by omega)
        have := World.cell?_spot (h00.trans (show _ = some (Value.int .i64 (g ⟨0, by omega⟩).kind) from rfl))
        simpa [Addr.add] using this
      subst hspot
      have hb : bk < W.heap.size := by
        have h0' := h0
        rcases Nat.lt_or_ge bk W.heap.size with q | q
        · exact q
        · rw [add_at', add_at'] at h0'
          simp [World.cell?, Array.getElem?_eq_none q, WC.cells] at h0'
      refine ⟨bk, o, rfl, hb, fun j u hj => ?_⟩
      simp only [List.getElem_ofFn] at hj
      have hj8 : j < 4 := by have := (List.getElem?_eq_some_iff.1 hj).1; rwa [wcells_len] at this
      have := hcell j hj8
      rw [add_at', add_at', Nat.add_assoc] at this
      rw [this]; exact hj
    · rw [List.mem_ofFn] at hc
      obtain ⟨i, rfl⟩ := hc
      exact (hg i).1
    · simp only [List.length_ofFn]
      have : maxLen = 9223372036854775807 := by rfl
      omega
end Go.Proofs.YtbfgkcgnhgfkmaaGreat.Wl
