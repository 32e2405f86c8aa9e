/-
  Plain facts for the stable sort above twenty elements: stretches that change places, the rotation, the binary searches, sorted chunks.
-/
import Derived.Test.YtmagjdocondmhaaStArr
namespace Go.Proofs.Ytmagjdocondmhaa.St
open Go.Sort
set_option linter.unusedVariables false
set_option linter.unusedSimpArgs false

section
variable {α : Type}
theorem size_list {dk : Array α} {l : List α} (h : dk.toList = l) : dk.size = l.length := by rw [← h, Array.length_toList]
/-- one exchange within two stretches that change places -/
theorem swp_step [Inhabited α] {dk : Array α} {P Y1 X2 M X1 Y2 Q : List α} {x y : α} (h : dk.toList = P ++ (Y1 ++ ((x :: X2) ++ (M ++ (X1 ++ ((y :: Y2) ++ Q)))))) {i j : Nat} (hi : i = P.length + Y1.length) (hj : j = P.length + Y1.length + (X2.length + 1) + M.length + X1.length) :
    (swp dk i j).toList = P ++ ((Y1 ++ [y]) ++ (X2 ++ (M ++ ((X1 ++ [x]) ++ (Y2 ++ Q))))) := by
  have h' : dk.toList = (P ++ Y1) ++ x :: ((X2 ++ (M ++ X1)) ++ y :: (Y2 ++ Q)) := by rw [h]; simp
  have := (swp_list h' (i := i) (j := j) (by rw [hi]; simp) (by rw [hj]; simp; omega)).1
  rw [this]; simp
theorem split_len {l : List α} {n : Nat} (h : n ≤ l.length) : ∃ a b, l = a ++ b ∧ a.length = n := ⟨l.take n, l.drop n, (List.take_append_drop n l).symm, by rw [List.length_take]; omega⟩
end

section
variable {α : Type} {lt : α → α → Bool}
theorem srt_at {l : List α} (h : Srt lt l) {i j : Nat} (hi : i < j) (hj : j < l.length) : lt l[j] (l[i]'(by omega)) = false := List.pairwise_iff_getElem.1 h i j (by omega) hj hi
theorem Srt.sub {l m r : List α} (h : Srt lt (l ++ (m ++ r))) : Srt lt m := (Srt.append.1 (Srt.append.1 h).2.1).1
/-- the place of one element among sorted ones behind it -/
structure Lows (lt : α → α → Bool) (x : α) (L : List α) (i j : Nat) : Prop where
  le : i ≤ j
  len : j ≤ L.length
  lo : ∀ k (hk : k < L.length), k < i → lt L[k] x = true
  hi : ∀ k (hk : k < L.length), j ≤ k → lt L[k] x = false
theorem Lows.start (x : α) (L : List α) : Lows lt x L 0 L.length := ⟨by omega, Nat.le_refl _, fun k _ h => by omega, fun k hk h => by omega⟩
theorem Lows.up (O : Ord lt) {x : α} {L : List α} (hs : Srt lt L) {i j h : Nat} (H : Lows lt x L i j) (h1 : i ≤ h) (h2 : h < j) (hh : lt (L[h]'(by have := H.len; omega)) x = true) : Lows lt x L (h + 1) j :=
  ⟨by omega, H.len, fun k hk hlt => by
    rcases Nat.lt_or_ge k h with q | q
    · exact O.lt_of (srt_at hs q (by have := H.len; omega)) hh
    · obtain rfl : k = h := by omega
      exact hh, H.hi⟩
theorem Lows.down (O : Ord lt) {x : α} {L : List α} (hs : Srt lt L) {i j h : Nat} (H : Lows lt x L i j) (h1 : i ≤ h) (h2 : h < j) (hh : lt (L[h]'(by have := H.len; omega)) x = false) : Lows lt x L i h :=
  ⟨h1, by have := H.len; omega, H.lo, fun k hk hle => by
    rcases Nat.lt_or_ge h k with q | q
    · exact O.co _ _ _ (srt_at hs q hk) hh
    · obtain rfl : k = h := by omega
      exact hh⟩
theorem Lows.done (O : Ord lt) {x : α} {L : List α} (hs : Srt lt L) {i : Nat} (H : Lows lt x L i i) : Srt lt (L.take i ++ (x :: L.drop i)) ∧ Stab lt (x :: L) (L.take i ++ (x :: L.drop i)) := by
  have hlo : ∀ y ∈ L.take i, lt y x = true := fun y hy => by
    obtain ⟨k, hk, rfl⟩ := List.mem_iff_getElem.1 hy
    rw [List.length_take] at hk
    rw [List.getElem_take]
    exact H.lo k (by omega) (by omega)
  have hhi : ∀ y ∈ L.drop i, lt y x = false := fun y hy => by
    obtain ⟨k, hk, rfl⟩ := List.mem_iff_getElem.1 hy
    rw [List.length_drop] at hk
    rw [List.getElem_drop]
    exact H.hi _ _ (by omega)
  have hs2 := Srt.append.1 ((List.take_append_drop i L).symm ▸ hs)
  constructor
  · refine Srt.append.2 ⟨hs2.1, List.pairwise_cons.2 ⟨fun y hy => hhi y hy, hs2.2.1⟩, fun y hy z hz => ?_⟩
    rcases List.mem_cons.1 hz with rfl | hz
    · exact O.asym (hlo y hy)
    · exact hs2.2.2 y hy z hz
  · have e1 : x :: L = [] ++ ([x] ++ L.take i) ++ L.drop i := by simp
    have e2 : L.take i ++ (x :: L.drop i) = [] ++ (L.take i ++ [x]) ++ L.drop i := by simp
    rw [e1, e2]
    exact (Stab.swap O fun u hu v hv => by rw [List.mem_singleton] at hu; subst hu; exact hlo v hv).mid _ _
/-- the place of one element among sorted ones ahead of it -/
structure Ups (lt : α → α → Bool) (x : α) (L : List α) (i j : Nat) : Prop where
  le : i ≤ j
  len : j ≤ L.length
  lo : ∀ k (hk : k < L.length), k < i → lt x L[k] = false
  hi : ∀ k (hk : k < L.length), j ≤ k → lt x L[k] = true
theorem Ups.start (x : α) (L : List α) : Ups lt x L 0 L.length := ⟨by omega, Nat.le_refl _, fun k _ h => by omega, fun k hk h => by omega⟩
theorem Ups.up (O : Ord lt) {x : α} {L : List α} (hs : Srt lt L) {i j h : Nat} (H : Ups lt x L i j) (h1 : i ≤ h) (h2 : h < j) (hh : lt x (L[h]'(by have := H.len; omega)) = false) : Ups lt x L (h + 1) j :=
  ⟨by omega, H.len, fun k hk hlt => by
    rcases Nat.lt_or_ge k h with q | q
    · exact O.co _ _ _ hh (srt_at hs q (by have := H.len; omega))
    · obtain rfl : k = h := by omega
      exact hh, H.hi⟩
theorem Ups.down (O : Ord lt) {x : α} {L : List α} (hs : Srt lt L) {i j h : Nat} (H : Ups lt x L i j) (h1 : i ≤ h) (h2 : h < j) (hh : lt x (L[h]'(by have := H.len; omega)) = true) : Ups lt x L i h :=
  ⟨h1, by have := H.len; omega, H.lo, fun k hk hle => by
    rcases Nat.lt_or_ge h k with q | q
    · cases r : lt x L[k] with
      | true => rfl
      | false => have := O.co _ _ _ r (srt_at hs q hk); rw [hh] at this; cases this
    · obtain rfl : k = h := by omega
      exact hh⟩
theorem Ups.done (O : Ord lt) {x : α} {L : List α} (hs : Srt lt L) {i : Nat} (H : Ups lt x L i i) : Srt lt (L.take i ++ (x :: L.drop i)) ∧ Stab lt (L ++ [x]) (L.take i ++ (x :: L.drop i)) := by
  have hlo : ∀ y ∈ L.take i, lt x y = false := fun y hy => by
    obtain ⟨k, hk, rfl⟩ := List.mem_iff_getElem.1 hy
    rw [List.length_take] at hk
    rw [List.getElem_take]
    exact H.lo k (by omega) (by omega)
  have hhi : ∀ y ∈ L.drop i, lt x y = true := fun y hy => by
    obtain ⟨k, hk, rfl⟩ := List.mem_iff_getElem.1 hy
    rw [List.length_drop] at hk
    rw [List.getElem_drop]
    exact H.hi _ _ (by omega)
  have hs2 := Srt.append.1 ((List.take_append_drop i L).symm ▸ hs)
  constructor
  · refine Srt.append.2 ⟨hs2.1, List.pairwise_cons.2 ⟨fun y hy => O.asym (hhi y hy), hs2.2.1⟩, fun y hy z hz => ?_⟩
    rcases List.mem_cons.1 hz with rfl | hz
    · exact hlo y hy
    · exact hs2.2.2 y hy z hz
  · have e1 : L ++ [x] = L.take i ++ (L.drop i ++ [x]) ++ [] := by
      rw [← List.append_assoc, List.take_append_drop, List.append_nil]
    have e2 : L.take i ++ (x :: L.drop i) = L.take i ++ ([x] ++ L.drop i) ++ [] := by simp
    rw [e1, e2]
    exact (Stab.swap O fun u hu v hv => by rw [List.mem_singleton] at hv; subst hv; exact hhi u hu).mid _ _
/-- the search of a merge: what is known at start and at r -/
structure Sym (lt : α → α → Bool) (L : List α) (m n lo hi s r : Nat) : Prop where
  le : s ≤ r
  ge : lo ≤ s
  les : r ≤ hi
  lows : lo < s → ∃ (h1 : n - s < L.length) (h2 : s - 1 < L.length), lt L[n - s] L[s - 1] = false
  ups : r < hi → ∃ (h1 : n - r - 1 < L.length) (h2 : r < L.length), lt L[n - r - 1] L[r] = true
/-- a list in chunks that are sorted -/
def Ch (lt : α → α → Bool) (bs : Nat) (l : List α) : Prop := ∀ i, Srt lt ((l.drop (i * bs)).take bs)
theorem Ch.all {bs : Nat} {l : List α} (h : Ch lt bs l) (hb : l.length ≤ bs) : Srt lt l := by
  have := h 0
  rw [Nat.zero_mul, List.drop_zero, List.take_of_length_le hb] at this
  exact this
end
end Go.Proofs.Ytmagjdocondmhaa.St
