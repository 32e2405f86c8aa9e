/-
  Copy of the reference's disk. (Written by wip/gen/gen_rcopy.py.)
-/
import Derived.Test.YtbfgkcgnhgfkmaaGreatDkRAdd
import Derived.Test.YtbfgkcgnhgfkmaaGreatFactsB
namespace Go.Proofs.YtbfgkcgnhgfkmaaGreat.Dk
open Go Go.Maps Go.RowKit Go.Proofs.YtbfgkcgnhgfkmaaGreat.Slc
set_option linter.unusedVariables false
set_option linter.unusedSimpArgs false

def RcF (W : World) (g : Nat) (fv ov : Value) (s : St) : Nat → Value → World → Prop
  | 0, v, _ => v = ptr g
  | 1, v, _ => v = ptr g
  | 2, v, _ => v = .pointer (some ⟨g, 0, none⟩)
  | 3, v, _ => v = .int .i64 s.cap
  | 4, v, w => ∃ g0, v = .slice (some ⟨g0, 0, none⟩) 0 0 ∧ w.heap[g0]? = some (.cells #[] 75 (0, 0)) ∧ W.heap.size ≤ g0
  | 5, v, _ => v = ptr g
  | 6, v, _ => v = ptr g
  | 7, v, _ => v = .pointer (some ⟨g, 1, none⟩)
  | 8, v, _ => v = fv
  | 9, v, w => Own w W.heap.size 75 2 encF v s.dur
  | 10, v, w => ∃ g0, v = .slice (some ⟨g0, 0, none⟩) 0 0 ∧ w.heap[g0]? = some (.cells #[] 92 (0, 0)) ∧ W.heap.size ≤ g0
  | 11, v, _ => v = ptr g
  | 12, v, _ => v = ptr g
  | 13, v, _ => v = .pointer (some ⟨g, 2, none⟩)
  | 14, v, _ => v = ov
  | 15, v, w => Own w W.heap.size 92 3 encO v s.ops
  | 16, v, _ => v = ptr g
  | 17, v, _ => v = ptr g
  | 18, v, _ => v = .pointer (some ⟨g, 3, none⟩)
  | 19, v, _ => v = .int .i64 s.left
  | 20, v, _ => v = ptr g
  | 21, v, _ => v = ptr g
  | 22, v, _ => v = .pointer (some ⟨g, 4, none⟩)
  | 23, v, _ => v = .bool s.off
  | _, _, _ => True
theorem RcF.stable (W : World) (g : Nat) (fv ov : Value) (s : St) (i : Nat) (v : Value) (w w' : World) (h : RcF W g fv ov s i v w) (hb : Below w.heap.size w w') : RcF W g fv ov s i v w' := by
  match i with
  | 0 | 1 | 2 | 3 | 5 | 6 | 7 | 8 | 11 | 12 | 13 | 14 | 16 | 17 | 18 | 19 | 20 | 21 | 22 | 23 => exact h
  | 4 => obtain ⟨g, h1, h2, h3⟩ := h; exact ⟨g, h1, (hb.block g (lt_of_block h2)).trans h2, h3⟩
  | 10 => obtain ⟨g, h1, h2, h3⟩ := h; exact ⟨g, h1, (hb.block g (lt_of_block h2)).trans h2, h3⟩
  | 9 => exact Own.below (t := 75) h hb
  | 15 => exact Own.below (t := 92) h hb
  | _ + 24 => exact trivial

theorem own_types {w : World} {u v : Value} {l : Fs} {o : List Ch} {b : Nat} (h : Own w 0 75 2 encF u l) (h' : Own w 0 92 3 encO v o) (hu : u.ownBlock = some b) (hv : v.ownBlock = some b) : False := by
  rcases h.2 with ⟨rfl, _⟩ | ⟨g1, c1, k1, rfl, _, hg1, _⟩
  · cases hu
  · rcases h'.2 with ⟨rfl, _⟩ | ⟨g2, c2, k2, rfl, _, hg2, _⟩
    · cases hv
    · cases hu; cases hv
      rw [hg1] at hg2
      simp at hg2
/-- behind Copy -/
theorem next_rcopy {w w1 w' : World} {g c : Nat} {s : St} {F R : Nat → Prop} {u v : Value} (h : RepR w g s F R) (hb : Below w.heap.size w w1) (hu : Own w1 w.heap.size 75 2 encF u s.dur) (hv : Own w1 w.heap.size 92 3 encO v s.ops)
    (hc : c = w1.heap.size) (h' : w' = w1.alloc (rblk s.cap u v s.left s.off)) : NextR w w' c s (fun _ => False) (fun _ => False) ∧ Below w.heap.size w w' := by
  subst hc h'
  have hs := hb.size
  have hB : Below w1.heap.size w1 (w1.alloc (rblk s.cap u v s.left s.off)) := (Below.refl _ _).alloc (Nat.le_refl _) _
  have hB' := hb.trans (hB.mono hs)
  refine ⟨⟨fun k => k = w1.heap.size ∨ v.ownBlock = some k, fun k => u.ownBlock = some k, ⟨h.ok, ⟨u, v, heap_alloc_new _ _, (hu.below hB).rd, fun k q => q, (hv.below hB).mono (Nat.zero_le _), fun k q => .inr q⟩, .inl rfl, ?_, ?_, ?_⟩, ?_, ?_, Fr.below hB'⟩, hB'⟩
  · rintro k (rfl | q)
    · simp
    · have := (hv.lt k q).2; simp; omega
  · intro k q; have := (hu.lt k q).2; simp; omega
  · rintro k (rfl | q) z
    · have := (hu.lt _ z).2; omega
    · exact own_types (hu.mono (Nat.zero_le _)) (hv.mono (Nat.zero_le _)) z q
  · rintro k (rfl | q)
    · exact .inr hs
    · exact .inr (hv.lt k q).1
  · intro k q; exact .inr (hu.lt k q).1

end Go.Proofs.YtbfgkcgnhgfkmaaGreat.Dk
