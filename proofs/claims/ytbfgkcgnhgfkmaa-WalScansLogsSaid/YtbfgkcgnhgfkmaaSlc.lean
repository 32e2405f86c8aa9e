/-
  Slices of whatever elements, each of z cells: read (Rd), owned (Own).
-/
import Derived.Test.YtbfgkcgnhgfkmaaApp
import Derived.Laws.Slices
namespace Go.Proofs.Ytbfgkcgnhgfkmaa.Slc
open Go Go.RowKit
set_option linter.unusedVariables false

structure Enc {α : Type} (z : Nat) (enc : α → List Value) : Prop where
  len : ∀ x, (enc x).length = z
  one : ∀ x, ∀ u ∈ enc x, u.oneCell' = true
  pos : 0 < z

section
variable {α : Type} {P : Program} {t T : TypeId} {z : Nat} {enc : α → List Value}
theorem flat_len (E : Enc z enc) (l : List α) : (l.flatMap enc).length = l.length * z := by
  induction l with
  | nil => simp
  | cons x l ih => rw [List.flatMap_cons, List.length_append, ih, E.len, List.length_cons, Nat.succ_mul]; omega
theorem flat_at (E : Enc z enc) (l : List α) : ∀ (k j : Nat) (hk : k < l.length) (_ : j < z), (l.flatMap enc)[k * z + j]? = (enc l[k])[j]? := by
  induction l with
  | nil => intro k j hk; simp at hk
  | cons x l ih =>
    intro k j hk hj
    have hx := E.len x
    rw [List.flatMap_cons]
    cases k with
    | zero => rw [List.getElem?_append_left (by omega)]; simp
    | succ k =>
      have e : (k + 1) * z + j = z + (k * z + j) := by rw [Nat.succ_mul]; omega
      rw [e, List.getElem?_append_right (by omega), hx, Nat.add_sub_cancel_left, ih k j (by simpa using hk) hj]
      rfl
theorem flat_take (E : Enc z enc) : ∀ (l : List α) (k : Nat), (l.take k).flatMap enc = (l.flatMap enc).take (k * z)
  | [], k => by simp
  | x :: l, 0 => by simp
  | x :: l, k + 1 => by
    rw [List.take_succ_cons, List.flatMap_cons, List.flatMap_cons, flat_take E l k, Nat.succ_mul, Nat.add_comm, ← E.len x, List.take_length_add_append]
theorem flat_drop (E : Enc z enc) : ∀ (l : List α) (k : Nat), (l.drop k).flatMap enc = (l.flatMap enc).drop (k * z)
  | [], k => by simp
  | x :: l, 0 => by simp
  | x :: l, k + 1 => by
    rw [List.drop_succ_cons, List.flatMap_cons, flat_drop E l k, Nat.succ_mul, Nat.add_comm, ← E.len x, List.drop_length_add_append]
theorem one_mem (E : Enc z enc) (l : List α) : ∀ u ∈ l.flatMap enc, u.oneCell' = true := by
  intro u hu
  obtain ⟨x, _, hx⟩ := List.mem_flatMap.1 hu
  exact E.one x u hx

/-- a slice that can be read -/
def Rd (w : World) (enc : α → List Value) (v : Value) (l : List α) : Prop :=
  (v = .slice none 0 0 ∧ l = []) ∨ ∃ b o c, v = .slice (some ⟨b, o, none⟩) l.length c ∧ b < w.heap.size ∧ l.length ≤ c ∧ ∀ j u, (l.flatMap enc)[j]? = some u → w.cell? ⟨b, o + j, none⟩ = some u
theorem Rd.nil (w : World) : Rd w enc (.slice none 0 0) ([] : List α) := .inl ⟨rfl, rfl⟩
theorem Rd.keep {w w' : World} {v : Value} {l : List α} (h : Rd w enc v l) (hs : w.heap.size ≤ w'.heap.size) (hb : ∀ k, v.ownBlock = some k → k < w.heap.size → w'.heap[k]? = w.heap[k]?) : Rd w' enc v l := by
  rcases h with h | ⟨b, o, c, rfl, hlt, hc, hcell⟩
  · exact .inl h
  · refine .inr ⟨b, o, c, rfl, by omega, hc, fun j u hj => ?_⟩
    rw [← hcell j u hj]
    have := hb b rfl hlt
    unfold World.cell?
    rw [this]
theorem Rd.below {w w' : World} {v : Value} {l : List α} (h : Rd w enc v l) (hb : Below w.heap.size w w') : Rd w' enc v l := h.keep hb.size fun k _ hk => hb.block k hk
theorem Rd.lt {w : World} {v : Value} {l : List α} (h : Rd w enc v l) : ∀ k, v.ownBlock = some k → k < w.heap.size := by
  rcases h with ⟨rfl, _⟩ | ⟨b, o, c, rfl, hlt, _⟩
  · intro k hk; cases hk
  · intro k hk; cases hk; exact hlt
theorem Rd.form {w : World} {v : Value} {l : List α} (h : Rd w enc v l) : ∃ ad c, v = .slice ad l.length c ∧ l.length ≤ c := by
  rcases h with ⟨rfl, rfl⟩ | ⟨b, o, c, rfl, _, hc, _⟩
  · exact ⟨_, _, rfl, Nat.le_refl _⟩
  · exact ⟨_, _, rfl, hc⟩
theorem Rd.cells {w : World} {v : Value} {l : List α} (E : Enc z enc) (h : Rd w enc v l) (hp : 0 < l.length) : ∃ b o c, v = .slice (some ⟨b, o, none⟩) l.length c ∧ l.length ≤ c ∧ b < w.heap.size ∧
    ∀ W : World, (∀ k, v.ownBlock = some k → W.heap[k]? = w.heap[k]?) → ∀ k (hk : k < l.length) j u, j < z → (enc l[k])[j]? = some u → W.cell? ⟨b, o + (k * z + j), none⟩ = some u := by
  rcases h with ⟨_, rfl⟩ | ⟨b, o, c, rfl, hlt, hc, hcell⟩
  · simp at hp
  · refine ⟨b, o, c, rfl, hc, hlt, fun W hW k hk j u hj hu => ?_⟩
    have e := hW b rfl
    unfold World.cell?
    rw [e]
    exact hcell (k * z + j) u (by rw [flat_at E l k j hk hj]; exact hu)
theorem add_at (b o j : Nat) : (⟨b, o, none⟩ : Addr).add j = ⟨b, o + j, none⟩ := by
  unfold Addr.add; split
  · simp [*]
  · rfl
theorem Rd.src {w : World} {v : Value} {l : List α} (E : Enc z enc) (h : Rd w enc v l) : SrcV w z v l.length (l.flatMap enc) := by
  rcases h with ⟨rfl, rfl⟩ | ⟨b, o, c, rfl, hlt, hc, hcell⟩
  · exact .nil
  · exact .at _ _ _ _ (flat_len E l) (fun j u hj => by rw [add_at]; exact hcell j u hj) (one_mem E l)
theorem Rd.upto {w : World} {v : Value} {l : List α} (E : Enc z enc) (h : Rd w enc v l) (hT : P.underlying T = some (.slice (P.elem T))) (hz : ∀ W, (sizeOf (P.elem T)).run P W = .ok z W) (k : Nat) (hk : k ≤ l.length) :
    ∃ u, (∀ W, (Instr.slice T v none (some (.int .i64 k)) none).run P W = .ok u W) ∧ Rd w enc u (l.take k) := by
  rcases h with ⟨rfl, rfl⟩ | ⟨b, o, c, rfl, hlt, hc, hcell⟩
  · obtain rfl : k = 0 := by simpa using hk
    refine ⟨.slice none 0 0, fun W => ?_, .inl ⟨rfl, rfl⟩⟩
    rw [run_slice_h W _ _ _ _ hT _ _ (by omega) (by omega)]
    simp [hz, sliced, Result.andThen]
  · have e : (l.take k).length = k := by rw [List.length_take]; omega
    refine ⟨.slice (some ⟨b, o, none⟩) k c, fun W => ?_, .inr ⟨b, o, c, by rw [e], hlt, by omega, fun j u hj => ?_⟩⟩
    · rw [run_slice_h W _ _ _ _ hT _ _ (by omega) (by omega)]
      simp [hz, sliced, Result.andThen, add_at]
    · rw [flat_take E] at hj
      refine hcell j u ?_
      have hjk : j < k * z := by
        rcases Nat.lt_or_ge j (k * z) with q | q
        · exact q
        · rw [List.getElem?_take_eq_none q] at hj; cases hj
      rwa [List.getElem?_take_of_lt hjk] at hj
theorem Rd.rest {w : World} {v : Value} {l : List α} (E : Enc z enc) (h : Rd w enc v l) (hT : P.underlying T = some (.slice (P.elem T))) (hz : ∀ W, (sizeOf (P.elem T)).run P W = .ok z W) (k : Nat) (hk : k ≤ l.length) :
    ∃ u, (∀ W, (Instr.slice T v (some (.int .i64 k)) none none).run P W = .ok u W) ∧ Rd w enc u (l.drop k) := by
  rcases h with ⟨rfl, rfl⟩ | ⟨b, o, c, rfl, hlt, hc, hcell⟩
  · obtain rfl : k = 0 := by simpa using hk
    refine ⟨.slice none 0 0, fun W => ?_, .inl ⟨rfl, rfl⟩⟩
    rw [run_slice_l W _ _ _ _ hT _ _ (by omega) (by simp)]
    simp [hz, sliced, Result.andThen]
  · have e : (l.drop k).length = l.length - k := List.length_drop
    by_cases hck : c = k
    · have hnil : l.drop k = [] := List.drop_eq_nil_of_le (by omega)
      refine ⟨.slice (some ⟨b, o, none⟩) (l.length - k) (c - k), fun W => ?_, .inr ⟨b, o, c - k, by rw [e], hlt, by omega, fun j u hj => ?_⟩⟩
      · rw [run_slice_l W _ _ _ _ hT _ _ (by omega) (by omega)]
        simp [hz, sliced, Result.andThen, hck]
      · rw [hnil] at hj; simp at hj
    · refine ⟨.slice (some ⟨b, o + k * z, none⟩) (l.length - k) (c - k), fun W => ?_, .inr ⟨b, o + k * z, c - k, by rw [e], hlt, by omega, fun j u hj => ?_⟩⟩
      · rw [run_slice_l W _ _ _ _ hT _ _ (by omega) (by omega)]
        simp [hz, sliced, Result.andThen, hck, add_at]
      · rw [flat_drop E, List.getElem?_drop] at hj
        have := hcell _ u hj
        rwa [← Nat.add_assoc] at this

/-- a slice that the call owns -/
def Own (w : World) (B : Nat) (t : TypeId) (z : Nat) (enc : α → List Value) (v : Value) (l : List α) : Prop := w.ownsRow B t z v l.length (l.flatMap enc)
theorem Own.nil (w : World) (B : Nat) : Own w B t z enc (.slice none 0 0) ([] : List α) := World.ownsRow_nil _ _ _ _
theorem Own.mono {w : World} {B B' : Nat} {v : Value} {l : List α} (h : Own w B t z enc v l) (hB : B' ≤ B) : Own w B' t z enc v l := by
  refine ⟨h.1, ?_⟩
  rcases h.2 with hn | ⟨g, cap, cur, hv, hb, rest⟩
  · exact .inl hn
  · exact .inr ⟨g, cap, cur, hv, Nat.le_trans hB hb, rest⟩
theorem Own.rd {w : World} {B : Nat} {v : Value} {l : List α} (h : Own w B t z enc v l) : Rd w enc v l := by
  rcases h.2 with ⟨rfl, hn⟩ | ⟨g, cap, cur, rfl, hb, hg, hc, _⟩
  · exact .inl ⟨rfl, List.eq_nil_of_length_eq_zero hn⟩
  · have hlt : g < w.heap.size := by
      rcases Nat.lt_or_ge g w.heap.size with q | q
      · exact q
      · rw [Array.getElem?_eq_none q] at hg; cases hg
    refine .inr ⟨g, 0, cap, rfl, hlt, hc, fun j u hj => ?_⟩
    have := World.ownsRow.cells h (g := g) rfl j u hj
    rwa [add_at] at this
theorem Own.keep {w w' : World} {B : Nat} {v : Value} {l : List α} (h : Own w B t z enc v l) (hb : ∀ k, v.ownBlock = some k → k < w.heap.size → w'.heap[k]? = w.heap[k]?) : Own w' B t z enc v l := by
  refine ⟨h.1, ?_⟩
  rcases h.2 with hn | ⟨g, cap, cur, rfl, hB, hg, rest⟩
  · exact .inl hn
  · have hlt : g < w.heap.size := by
      rcases Nat.lt_or_ge g w.heap.size with q | q
      · exact q
      · rw [Array.getElem?_eq_none q] at hg; cases hg
    exact .inr ⟨g, cap, cur, rfl, hB, by rw [hb g rfl hlt]; exact hg, rest⟩
theorem Own.below {w w' : World} {B : Nat} {v : Value} {l : List α} (h : Own w B t z enc v l) (hb : Below w.heap.size w w') : Own w' B t z enc v l := h.keep fun k _ hk => hb.block k hk
theorem Own.lt {w : World} {B : Nat} {v : Value} {l : List α} (h : Own w B t z enc v l) : ∀ k, v.ownBlock = some k → B ≤ k ∧ k < w.heap.size := World.ownsRow.lt h
/-- behind an append -/
theorem Own.apd {w w' : World} {B : Nat} {v v' : Value} {l m : List α} {a b : Nat} {xs news : List Value} (h : Own w B t z enc v l) (hx : xs = l.flatMap enc) (hy : news = m.flatMap enc) (ha : a = l.length) (hb : b = m.length) (h' : Apd w B t z v a b xs news v' w') : Own w' B t z enc v' (l ++ m) := by
  subst hx hy ha hb
  unfold Own
  rw [List.length_append, List.flatMap_append]
  exact h'.own
end

end Go.Proofs.Ytbfgkcgnhgfkmaa.Slc
