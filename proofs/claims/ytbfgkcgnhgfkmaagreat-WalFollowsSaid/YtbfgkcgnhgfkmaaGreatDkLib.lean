/-
  Insertion that seeks its place from the end.
-/
/-
  maps.Clone at the disk's maps; slices.Sorted(maps.Keys(m)).
-/
import Derived.Test.YtbfgkcgnhgfkmaaGreatTlvIns
import Derived.Test.YtbfgkcgnhgfkmaaGreatShelf
import Derived.Test.YtbfgkcgnhgfkmaaGreatDkOpsB
namespace Go.Proofs.YtbfgkcgnhgfkmaaGreat.Ins

def backTo (x : B) (s : List B) : Nat → Nat
  | 0 => 0
  | k + 1 => if le (s.getD k []) x then k + 1 else backTo x s k
theorem sorted_ge {x : B} {s : List B} (h : s.Pairwise fun a b => le a b = true) (i : Nat) (hi : i < s.length) (hp : place x s ≤ i) : le s[i] x = false := by
  have hpl : place x s < s.length := by omega
  have h0 := place_at x s hpl
  cases q : le s[i] x
  · rfl
  · by_cases e : place x s = i
    · subst e; rw [h0] at q; cases q
    · have := List.pairwise_iff_getElem.1 h _ _ hpl hi (by omega)
      rw [le_trans _ _ _ this q] at h0; cases h0
theorem backTo_eq {x : B} {s : List B} (h : s.Pairwise fun a b => le a b = true) : ∀ k, k ≤ s.length → place x s ≤ k → backTo x s k = place x s
  | 0, _, hp => by rw [backTo]; omega
  | k + 1, hk, hp => by
    have hg : s.getD k [] = s[k] := by rw [List.getD_eq_getElem?_getD, List.getElem?_eq_getElem (by omega)]; rfl
    rw [backTo, hg]
    by_cases e : place x s = k + 1
    · rw [place_lt x s k (by omega)]; simp [e]
    · rw [sorted_ge h k (by omega) (by omega)]
      simpa using backTo_eq h k (by omega) (by omega)
theorem isort_sorted (l : List B) : (isort l).Pairwise fun a b => le a b = true := (isort_inv l [] List.Pairwise.nil).1
theorem backTo_isort (x : B) (l : List B) : backTo x (isort l) (isort l).length = place x (isort l) := backTo_eq (isort_sorted l) _ (Nat.le_refl _) (place_le _ _)

end Go.Proofs.YtbfgkcgnhgfkmaaGreat.Ins

namespace Go.Proofs.YtbfgkcgnhgfkmaaGreat.Dk
open Go Go.Maps Go.RowKit Go.Sort Go.Shelf Go.Proofs.YtbfgkcgnhgfkmaaGreat.Slc
set_option linter.unusedVariables false
set_option linter.unusedSimpArgs false

/-- a copy of a map -/
theorem clone_any (w : World) (F : Nat → Prop) (v : Value) (l : Fs) (h : MapV w F v l) :
    Calls Tryz.prog 56 #[v] w fun e w' => ∃ u, e = .returned u ∧ MapV w' (fun k => w.heap.size ≤ k ∧ k < w'.heap.size) u l ∧ Below w.heap.size w w' := by
  rcases h with ⟨rfl, rfl⟩ | ⟨b, rfl, _, D, hown, hm⟩
  · refine (AnyW.maps_Clone_nil Tryz.cloneM w).mono fun e w' ⟨he, hw⟩ => ?_
    subst hw
    exact ⟨_, he, .inl ⟨rfl, rfl⟩, Below.refl _ _⟩
  · refine (AnyW.maps_Clone_owns Tryz.cloneM 9 _ b _ D w hown).mono fun e w' ⟨he, h1, h2, h3⟩ => ?_
    exact ⟨_, he, .inr ⟨_, rfl, ⟨Nat.le_refl _, h1.lt⟩, D, h1, hm⟩, h3⟩

def encS (d : B) : List Value := [.string (bstr d)]
theorem encS_ok : Enc 1 encS := ⟨fun c => rfl, fun c u hu => by
  simp only [encS, List.mem_singleton] at hu
  subst hu; rfl, by omega⟩
theorem flat_encS (l : List B) : l.flatMap encS = l.map encStr := by
  induction l with
  | nil => rfl
  | cons x l ih => simp [encS, List.flatMap_cons, ih, encStr, bstr]
def sorted (l : Fs) : List B := Ins.isort (names l)

theorem sorts75 (m : Nat) : AnyZ.SortsIn Tryz.prog Tryz.sorted32_ren Fence.wide m :=
  ⟨fun blk off cap ss W hH hblk hsz => callsIn_wide.2 (AnyM.slices_Sort_string Tryz.sort60 blk off cap ss W hH hblk hsz),
   fun p cap W => callsIn_wide.2 (AnyM.slices_Sort_string_none Tryz.sort60 p cap W)⟩
theorem keys_any (mb : Option Nat) (W : World) : Calls Tryz.prog 33 #[.map mb] W fun e w' => e = .returned (.func (.func 61) #[] #[.pointer (some ⟨W.heap.size, 0, none⟩)]) ∧ w' = W.alloc (.cells #[.map mb] 57) :=
  (callsIn_wide (n := 5)).1 (AnyZ.keys_in Tryz.keys33 Fence.wide 5 trivial rfl mb W)

set_option maxHeartbeats 1000000 in
theorem sorted_some (b : Nat) (l : Fs) (w : World) (ho : OwnM w Tryz.prog 9 b l) (hl : l.length ≤ 1000) (hn : (names l).Nodup) :
    Calls Tryz.prog 32 #[.func (.func 61) #[] #[.pointer (some ⟨w.heap.size, 0, none⟩)]] (w.alloc (.cells #[.map (some b)] 57)) fun e w' => ∃ v, e = .returned v ∧
      Own w' (w.heap.size + 1) 9 1 encS v (sorted l) ∧ Below w.heap.size w w' := by
  obtain ⟨D0, hown, hm⟩ := ho
  have hbl := hown.lt
  have hmax : Maps.size D0 ≤ maxLen := by rw [hm.size]; unfold maxLen; omega
  have hbytes : Maps.size D0 * 16 ≤ 140737488355328 := by rw [hm.size]; omega
  have hsz : (w.alloc (.cells #[.map (some b)] 57)).heap.size = w.heap.size + 1 := by simp
  have hseq : SeqGives Fence.wide 2 Tryz.prog 61 #[.pointer (some ⟨w.heap.size, 0, none⟩)] encStr (fun ss => ss.Perm (strKeys D0)) (Maps.size D0) (w.alloc (.cells #[.map (some b)] 57)) :=
    AnyZ.keys_gives (ρ := Tryz.keys33_ren) { Tryz.keys33 with } Fence.wide _ trivial rfl (by omega) w.heap.size b l.length D0 _ (by simp) (by simp) (by
      obtain ⟨es, clock, hb, Ft, hs, hD⟩ := hown
      exact ⟨es, clock, (Below.heap_alloc _ _ b hbl).trans hb, Ft, hs, hD⟩)
  have hgo := AnyZ.sorted_in Tryz.sorted32 Fence.wide 5 trivial trivial trivial trivial rfl (by omega) (sorts75 _) (enters_of Tryz.func60 (by kernel_rfl) rfl) 61 #[.pointer (some ⟨w.heap.size, 0, none⟩)] trivial (enters_of Tryz.func61 (by kernel_rfl) rfl) _ _ hmax hbytes _ hseq
  refine ((callsIn_wide (n := 5)).1 hgo).mono ?_
  rintro e w' ⟨v, ss, rfl, hp, hrow, hnil, hb⟩
  have hk : (names l).Perm (strKeys D0) := by
    refine Collected.perm (left := fun _ => false) ⟨hn, fun x => ?_⟩ hown (string_keyed und_str) und_str fun _ => rfl
    rw [hm.has_, get_mem]; simp
  have hs : ss.mergeSort (fun x y => decide (x ≤ y)) = sorted l := by
    unfold sorted
    rw [Ins.isort_eq]
    exact mergeSort_of_perm (hp.trans hk.symm)
  refine ⟨v, rfl, ?_, ((Below.refl w.heap.size w).alloc (Nat.le_refl _) _).trans (hb.mono (by rw [hsz]; omega))⟩
  unfold Own
  have hlen : ss.length = (sorted l).length := by rw [← hs]; simp
  rw [flat_encS, ← hs, ← hsz]
  rw [hs, ← hlen, ← hs]
  exact hrow
set_option maxHeartbeats 1000000 in
theorem sorted_nil (w : World) :
    Calls Tryz.prog 32 #[.func (.func 61) #[] #[.pointer (some ⟨w.heap.size, 0, none⟩)]] (w.alloc (.cells #[.map none] 57)) fun e w' => ∃ v, e = .returned v ∧
      Own w' (w.heap.size + 1) 9 1 encS v (sorted []) ∧ Below w.heap.size w w' := by
  have hsz : (w.alloc (.cells #[.map none] 57)).heap.size = w.heap.size + 1 := by simp
  have hseq : SeqGives Fence.wide 2 Tryz.prog 61 #[.pointer (some ⟨w.heap.size, 0, none⟩)] encStr (fun ss : List (List UInt8) => ss = []) 0 (w.alloc (.cells #[.map none] 57)) :=
    AnyZ.keys_gives_nil (ρ := Tryz.keys33_ren) { Tryz.keys33 with } Fence.wide _ trivial rfl w.heap.size _ (by simp) (by simp)
  have hgo := AnyZ.sorted_in Tryz.sorted32 Fence.wide 5 trivial trivial trivial trivial rfl (by omega) (sorts75 _) (enters_of Tryz.func60 (by kernel_rfl) rfl) 61 #[.pointer (some ⟨w.heap.size, 0, none⟩)] trivial (enters_of Tryz.func61 (by kernel_rfl) rfl) _ 0 (Nat.zero_le _) (by omega) _ hseq
  refine ((callsIn_wide (n := 5)).1 hgo).mono ?_
  rintro e w' ⟨v, ss, rfl, rfl, hrow, hnil, hb⟩
  refine ⟨v, rfl, ?_, ((Below.refl w.heap.size w).alloc (Nat.le_refl _) _).trans (hb.mono (by rw [hsz]; omega))⟩
  rw [hnil.2 rfl]
  exact Own.nil _ _

end Go.Proofs.YtbfgkcgnhgfkmaaGreat.Dk
