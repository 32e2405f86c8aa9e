/-
  Slices of strings that the call itself owns.
-/
import Derived.Test.YtmmoimemfdbfgaaApp
import Derived.Test.YtmmoimemfdbfgaaTlvList
import Derived.Test.YtmmoimemfdbfgaaShelfSort
import Derived.Sort.OwnSorted
import Derived.Test.YtmmoimemfdbfgaaFactsB
namespace Go.Proofs.Ytmmoimemfdbfgaa
open Go Go.RowKit Go.Sort

structure OwnS (w : World) (B : Nat) (v : Value) (ss : List (List UInt8)) : Prop where
  row : w.ownsRow B 9 1 v ss.length (ss.map encStr)
  nil : ss = [] → v = .slice none 0 0
theorem OwnS.empty (w : World) (B : Nat) : OwnS w B (.slice none 0 0) [] := ⟨World.ownsRow_nil _ _ _ _, fun _ => rfl⟩
theorem info_str : (Try.prog.info? 9).map (fun i => (i.zero, i.size, i.bytes)) = some (some (.string ⟨#[]⟩), 1, 16) := by kernel_rfl
theorem OwnS.ext {W w : World} {B : Nat} {v : Value} {ss : List (List UInt8)} (h : OwnS W B v ss) (hb : Below W.heap.size W w) : OwnS w B v ss := ⟨ownsRow_ext h.row hb, h.nil⟩
theorem OwnS.form {w : World} {B : Nat} {v : Value} {ss : List (List UInt8)} (h : OwnS w B v ss) : (v = .slice none 0 0 ∧ ss = []) ∨ (∃ g c, v = .slice (some ⟨g, 0, none⟩) ss.length c ∧ 0 < ss.length ∧ B ≤ g ∧ g < w.heap.size ∧ ss.length ≤ c) := by
  cases hss : ss with
  | nil => exact .inl ⟨h.nil hss, rfl⟩
  | cons s ss' =>
    subst hss
    rcases h.row.2 with ⟨_, hn⟩ | ⟨g, cap, cur, hv, hb, hg, hc, _⟩
    · simp at hn
    · refine .inr ⟨g, cap, hv, by simp, hb, ?_, hc⟩
      rcases Nat.lt_or_ge g w.heap.size with q | q
      · exact q
      · rw [Array.getElem?_eq_none q] at hg; cases hg
theorem addr_add (g j : Nat) : (⟨g, 0, none⟩ : Addr).add j = ⟨g, j, none⟩ := by
  unfold Addr.add; split
  · simp [*]
  · simp
theorem OwnS.cell {w : World} {B g n c : Nat} {ss : List (List UInt8)} (h : OwnS w B (.slice (some ⟨g, 0, none⟩) n c) ss) (k : Nat) (hk : k < ss.length) : w.cell? ⟨g, k, none⟩ = some (.string ⟨(ss[k]).toArray⟩) := by
  have hc := World.ownsRow.cells h.row (g := g) rfl k (encStr ss[k]) (by rw [List.getElem?_map, List.getElem?_eq_getElem hk]; rfl)
  rw [← addr_add]; exact hc
theorem one_str {x : List UInt8} : (encStr x).oneCell' = true := rfl
theorem enc_one (ss : List (List UInt8)) : ∀ u ∈ ss.map encStr, u.oneCell' = true := by
  intro u hu
  obtain ⟨x, _, rfl⟩ := List.mem_map.1 hu
  rfl
/-- the whole slice, as a source -/
theorem OwnS.src {w : World} {B : Nat} {v : Value} {ss : List (List UInt8)} (h : OwnS w B v ss) : SrcV w 1 v ss.length (ss.map encStr) := by
  rcases h.form with ⟨rfl, rfl⟩ | ⟨g, c, rfl, hpos, _⟩
  · exact .nil
  · exact .ro _ _ _ _ (by simp) (World.ownsRow.cells h.row (g := g) rfl) (enc_one ss)
theorem size_str (W : World) : (sizeOf (Try.prog.elem 22)).run Try.prog W = .ok 1 W := by kernel_rfl
theorem under_strs : Try.prog.underlying 22 = some (.slice (Try.prog.elem 22)) := by kernel_rfl
theorem OwnS.upto {w : World} {B : Nat} {v : Value} {ss : List (List UInt8)} (h : OwnS w B v ss) (k : Nat) (hk : k ≤ ss.length) : ∃ u, (∀ W, (Instr.slice 22 v none (some (.int .i64 k)) none).run Try.prog W = .ok u W) ∧ SrcV w 1 u k ((ss.take k).map encStr) := by
  rcases h.form with ⟨rfl, rfl⟩ | ⟨g, c, rfl, hpos, _, _, hc⟩
  · obtain rfl : k = 0 := by simpa using hk
    refine ⟨.slice none 0 0, fun W => ?_, .nil⟩
    rw [run_slice_h W _ _ _ _ under_strs _ _ (by omega) (by omega)]
    simp [size_str, sliced, Result.andThen]
  · refine ⟨.slice (some ⟨g, 0, none⟩) k c, fun W => ?_, .ro _ _ _ _ (by simp; omega) ?_ (enc_one _)⟩
    · rw [run_slice_h W _ _ _ _ under_strs _ _ (by omega) (by omega)]
      simp [size_str, sliced, Result.andThen, addr_add]
    · intro j u hj
      refine World.ownsRow.cells h.row (g := g) rfl j u ?_
      rw [List.getElem?_map] at hj ⊢
      have hjk : j < k := by
        rcases Nat.lt_or_ge j k with q | q
        · exact q
        · rw [List.getElem?_take_eq_none q] at hj; simp at hj
      rwa [List.getElem?_take_of_lt hjk] at hj
theorem OwnS.rest {w : World} {B : Nat} {v : Value} {ss : List (List UInt8)} (h : OwnS w B v ss) (k : Nat) (hk : k ≤ ss.length) : ∃ u, (∀ W, (Instr.slice 22 v (some (.int .i64 k)) none none).run Try.prog W = .ok u W) ∧ SrcV w 1 u (ss.length - k) ((ss.drop k).map encStr) := by
  rcases h.form with ⟨rfl, rfl⟩ | ⟨g, c, rfl, hpos, _, _, hc⟩
  · obtain rfl : k = 0 := by simpa using hk
    refine ⟨.slice none 0 0, fun W => ?_, .nil⟩
    rw [run_slice_l W _ _ _ _ under_strs _ _ (by omega) (by simp)]
    simp [size_str, sliced, Result.andThen]
  · by_cases hck : c = k
    · refine ⟨.slice (some ⟨g, 0, none⟩) (ss.length - k) (c - k), fun W => ?_, .ro _ _ _ _ (by simp) ?_ (enc_one _)⟩
      · rw [run_slice_l W _ _ _ _ under_strs _ _ (by omega) (by omega)]
        simp [size_str, sliced, Result.andThen, hck]
      · intro j u hj
        rw [List.drop_eq_nil_of_le (by omega)] at hj; simp at hj
    · refine ⟨.slice (some ⟨g, k, none⟩) (ss.length - k) (c - k), fun W => ?_, .ro _ _ _ _ (by simp) ?_ (enc_one _)⟩
      · rw [run_slice_l W _ _ _ _ under_strs _ _ (by omega) (by omega)]
        simp [size_str, sliced, Result.andThen, hck, addr_add]
      · intro j u hj
        have e : (⟨g, k, none⟩ : Addr).add j = (⟨g, 0, none⟩ : Addr).add (k + j) := by
          rw [addr_add]; unfold Addr.add; split
          · simp [*]
          · rfl
        rw [e]
        refine World.ownsRow.cells h.row (g := g) rfl (k + j) u ?_
        rw [List.getElem?_map] at hj ⊢
        rwa [List.getElem?_drop] at hj
/-- one string, laid in a block of its own -/
theorem src_one {w : World} {g : Nat} {x : List UInt8} (h : w.heap[g]? = some (.cells #[.string ⟨x.toArray⟩] 9)) : SrcV w 1 (.slice (some ⟨g, 0, none⟩) 1 1) 1 ([x].map encStr) := by
  refine .ro _ _ _ _ rfl ?_ (enc_one _)
  intro j u hj
  rw [addr_add]
  cases j with
  | zero => simp at hj; subst hj; simp [World.cell?, h]
  | succ j => simp at hj
/-- behind an append -/
theorem OwnS.apd {w w' : World} {B : Nat} {v v' : Value} {ss ts : List (List UInt8)} {n m : Nat} (h : OwnS w B v ss) (hn : n = ss.length) (hm : m = ts.length) (ha : Apd w B 9 1 v n m (ss.map encStr) (ts.map encStr) v' w') : OwnS w' B v' (ss ++ ts) := by
  subst hn hm
  refine ⟨by rw [List.length_append, List.map_append]; exact ha.own, fun he => ?_⟩
  obtain ⟨h1, h2⟩ := List.append_eq_nil_iff.1 he
  exact ha.nil.2 ⟨h.nil h1, by rw [h2]; rfl⟩

theorem OwnS.apd' {w w' : World} {B : Nat} {v v' : Value} {ss ts : List (List UInt8)} {n m : Nat} {xs news : List Value} (h : OwnS w B v ss) (hx : xs = ss.map encStr) (hy : news = ts.map encStr) (hn : n = ss.length) (hm : m = ts.length) (ha : Apd w B 9 1 v n m xs news v' w') : OwnS w' B v' (ss ++ ts) := by
  subst hx hy; exact h.apd hn hm ha

/-- the sort -/
def sorted (ss : List (List UInt8)) : List (List UInt8) := ss.mergeSort fun x y => decide (x ≤ y)
theorem sorted_length (ss : List (List UInt8)) : (sorted ss).length = ss.length := by simp [sorted]
theorem sort_own (B : Nat) (v : Value) (ss : List (List UInt8)) (w : World) (h : OwnS w B v ss) (hl : ss.length ≤ 1000000) :
    Calls Try.prog 36 #[v] w fun e w' => e = .returned (.tuple #[]) ∧ OwnS w' B v (sorted ss) ∧ w.grownBy w' v.ownBlock := by
  rcases h.row.2 with ⟨rfl, hn⟩ | ⟨g, cap, cur, rfl, hb, hg, hc, hm, hcs, ht⟩
  · obtain rfl : ss = [] := List.eq_nil_of_length_eq_zero hn
    refine (Try.sort_Strings_none none 0 w).mono fun e w' ⟨he, hw⟩ => ?_
    subst hw
    refine ⟨he, ?_, ⟨rfl, rfl, rfl, Nat.le_refl _, fun _ _ _ => rfl⟩⟩
    have : sorted [] = [] := by simp [sorted]
    rw [this]; exact OwnS.empty _ _
  · have hlt : g < w.heap.size := by
      rcases Nat.lt_or_ge g w.heap.size with q | q
      · exact q
      · rw [Array.getElem?_eq_none q] at hg; cases hg
    refine (Try.sort_Strings g 0 cap ss w (holds_of_block hg (by simpa using ht)) hlt (by omega)).mono fun e w' ⟨he, n, os, hw⟩ => ?_
    subst hw
    refine ⟨he, ⟨?_, fun hs => ?_⟩, grownBy_sorted _⟩
    · rw [sorted_length]
      exact ownsRow_sorted (by simp) hb hg hc hm hcs
    · have : ss = [] := by have := sorted_length ss; rw [hs] at this; exact List.eq_nil_of_length_eq_zero this.symm
      exact h.nil this

end Go.Proofs.Ytmmoimemfdbfgaa
