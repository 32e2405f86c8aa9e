/-
  A slice that the call owns, between append's words and the sort's words, at elements of z cells.
-/
import Derived.Test.YtmagjdocondmhaaStArr
import Derived.Test.YtmagjdocondmhaaSlc
import Derived.Shelf.SlSortCmp.KitK
namespace Go.Proofs.Ytmagjdocondmhaa.St
open Go Go.RowKit Go.Sort Go.Proofs.Ytmagjdocondmhaa.Slc
set_option linter.unusedVariables false
set_option linter.unusedSimpArgs false

section
variable {α : Type} [Inhabited α] {t : TypeId} {z : Nat} {enc : α → List Value}
theorem flatK_list (E : Enc z enc) (l : List α) : (flatK enc z l.toArray).toList = l.flatMap enc := by
  have hz := E.pos
  apply List.ext_getElem
  · rw [Array.length_toList, size_flatK, flat_len E, List.size_toArray]
  · intro i h1 h2
    have hi : i < l.length * z := by rw [← flat_len E]; exact h2
    have hq : i / z < l.length := Nat.div_lt_of_lt_mul (by rw [Nat.mul_comm]; exact hi)
    have hj : i % z < z := Nat.mod_lt _ hz
    have e : i = i / z * z + i % z := by rw [Nat.mul_comm]; exact (Nat.div_add_mod i z).symm
    have f := flat_at E l (i / z) (i % z) hq hj
    rw [← e] at f
    have g := get_flatK enc z l.toArray i (by simpa using hi)
    have hsz : i < (flatK enc z l.toArray).size := by simpa using hi
    rw [getElem!_pos _ i hsz] at g
    have hg : l.toArray[i / z]! = l[i / z] := by rw [getElem!_pos _ _ (by simpa using hq)]; simp
    rw [hg] at g
    have hlen : i % z < (enc l[i / z]).length := by rw [E.len]; exact hj
    rw [getElem!_pos (enc l[i / z]) (i % z) hlen] at g
    rw [List.getElem?_eq_getElem h2, List.getElem?_eq_getElem hlen] at f
    rw [Array.getElem_toList, g]
    exact (Option.some.inj f).symm
theorem holds_own (E : Enc z enc) {w : World} {B g n cap : Nat} {l : List α} (h : Own w B t z enc (.slice (some ⟨g, 0, none⟩) n cap) l) : HoldsK enc z w g 0 l.toArray := by
  intro i hi
  rw [size_flatK, List.size_toArray] at hi
  have hz := E.pos
  have hq : i / z < l.length := Nat.div_lt_of_lt_mul (by rw [Nat.mul_comm]; exact hi)
  have hj : i % z < z := Nat.mod_lt _ hz
  have e : i / z * z + i % z = i := by rw [Nat.mul_comm]; exact Nat.div_add_mod i z
  have g1 := get_flatK enc z l.toArray i (by simpa using hi)
  have hg : l.toArray[i / z]! = l[i / z] := by rw [getElem!_pos _ _ (by simpa using hq)]; simp
  rw [hg] at g1
  have hlen : i % z < (enc l[i / z]).length := by rw [E.len]; exact hj
  rw [getElem!_pos (enc l[i / z]) (i % z) hlen] at g1
  refine ⟨?_, ?_⟩
  · rw [g1]
    have := Own.cell E h (i / z) hq (i % z) hj _ (List.getElem?_eq_getElem hlen)
    rw [e] at this
    rw [Nat.zero_add]; exact this
  · rcases h.2 with ⟨h0, hn⟩ | ⟨g', cap', cur, hv, _, hb, _⟩
    · simp at h0
    · simp only [Value.slice.injEq, Option.some.injEq, Addr.mk.injEq] at hv
      obtain ⟨⟨rfl, -⟩, -⟩ := hv
      simp [World.frozen?, hb]
theorem own_sorted (E : Enc z enc) {w W : World} {B g n cap : Nat} {l : List α} {dk : Array α} (h : Own w B t z enc (.slice (some ⟨g, 0, none⟩) n cap) l) (hs : dk.size = l.length) (hS : SWK enc z w g 0 dk W) :
    Own W B t z enc (.slice (some ⟨g, 0, none⟩) n cap) dk.toList ∧ w.grownBy W (some g) := by
  obtain ⟨m, os, rfl⟩ := hS
  rcases h.2 with ⟨h0, hn⟩ | ⟨g', cap', cur, hv, hB, hb, hc, hm, hcs, ht⟩
  · simp at h0
  simp only [Value.slice.injEq, Option.some.injEq, Addr.mk.injEq] at hv
  obtain ⟨⟨rfl, -⟩, rfl, rfl⟩ := hv
  have hg : g < w.heap.size := lt_of_block hb
  obtain ⟨F, hF⟩ : ∃ F, F = flatK enc z dk := ⟨_, rfl⟩
  have hFs : F.size = l.length * z := by rw [hF, size_flatK, hs]
  have hdl : dk.toList.length = l.length := by rw [Array.length_toList]; exact hs
  have hFl : F.toList = dk.toList.flatMap enc := by rw [hF, ← flatK_list E]
  unfold sortWorldK putRowK
  rw [← hF]
  have hheap : (grow (putRow id (Sort.ahead w m) g 0 F) os).heap[g]? = some (.cells (putCells id 0 F cur) t (0, 0)) := by
    rw [heap_grow_old _ _ (by simpa using hg)]
    simp [putRow, mapBlock, Sort.ahead, Array.getElem?_modify, hb, onCells]
  refine ⟨⟨by rw [← hFl, hdl, ← hFs]; exact Array.length_toList, .inr ⟨g, cap, putCells id 0 F cur, by rw [hdl], hB, hheap, by rw [hdl]; exact hc, hm, by simp [putCells, hcs], ?_⟩⟩, ⟨rfl, rfl, rfl, by simp, fun k hk hne => ?_⟩⟩
  · rw [hdl, ← hFl]
    have hle : l.length * z ≤ cur.size := by rw [hcs]; exact Nat.mul_le_mul_right z hc
    apply List.ext_getElem?
    intro j
    by_cases hj : j < l.length * z
    · rw [List.getElem?_take_of_lt hj, Array.getElem?_toList, Array.getElem?_toList]
      have h1 : j < cur.size := by omega
      have h2 : j < F.size := by omega
      simp [putCells, h1, h2]
    · rw [List.getElem?_take_eq_none (by omega), List.getElem?_eq_none (by have : F.toList.length = F.size := Array.length_toList; omega)]
  · rw [heap_grow_old _ _ (by simpa using hk)]
    have : g ≠ k := fun e => hne (by rw [e])
    simp [putRow, mapBlock, Sort.ahead, Array.getElem?_modify, this]
end
end Go.Proofs.Ytmagjdocondmhaa.St
