/-
  The law's do. (Written by wip/gen/gen_do.py.)
-/
/-
  The law's do. (Written by wip/gen/gen_do.py.)
-/
/-
  The law's do. (Written by wip/gen/gen_do.py.)
-/
/-
  The law's do. (Written by wip/gen/gen_do.py.)
-/
import Derived.Test.YtbfgkcgnhgfkmaaGreatDkDo
import Derived.Test.YtbfgkcgnhgfkmaaGreatFactsB
namespace Go.Proofs.YtbfgkcgnhgfkmaaGreat.Dk
open Go Go.Maps Go.RowKit Go.Proofs.YtbfgkcgnhgfkmaaGreat.Slc
set_option linter.unusedVariables false
set_option linter.unusedSimpArgs false

/-- the facts of the region that appends to both -/
def DoF (d r b : Nat) (N D : ByteArray) (es et : Int) : Nat → (Nat → Value) → World → Prop
  | 0, x, _ => x 0 = ptr d
  | 1, x, _ => x 1 = .string N
  | 2, x, _ => x 2 = .pointer (some ⟨b, 6, none⟩)
  | 3, x, _ => x 3 = .string D
  | 4, x, _ => x 4 = .int .i64 es
  | 5, x, _ => x 5 = ptr r
  | 6, x, _ => x 6 = .string N
  | 7, x, _ => x 7 = .pointer (some ⟨b, 6, none⟩)
  | 8, x, _ => x 8 = .string D
  | 9, x, _ => x 9 = .int .i64 et
  | _, _, _ => True
theorem DoF.loc {d r b : Nat} {N D : ByteArray} {es et : Int} {j : Nat} {x y : Nat → Value} {w : World} (e : x j = y j) (h : DoF d r b N D es et j x w) : DoF d r b N D es et j y w := by
  match j with
  | 0 | 1 | 2 | 3 | 4 | 5 | 6 | 7 | 8 | 9 => exact e.symm.trans h
  | _ + 10 => trivial
theorem DoF.world {d r b : Nat} {N D : ByteArray} {es et : Int} {j : Nat} {x : Nat → Value} {w : World} (h : DoF d r b N D es et j x w) (w' : World) : DoF d r b N D es et j x w' := by
  match j with
  | 0 | 1 | 2 | 3 | 4 | 5 | 6 | 7 | 8 | 9 => exact h
  | _ + 10 => trivial
/-- the worlds of that region -/
def DoC (wx : World) (d r : Nat) (s' t' : St) (F R G Q : Nat → Prop) (dd : Nat → Bool) (w : World) : Prop :=
  if dd 9 = true then (if dd 4 = true then Both wx w d r s' t' F R G Q else False) else if dd 4 = true then NextP wx w d s' F R else Below wx.heap.size wx w
theorem DoC.step {wx : World} {d r : Nat} {s' t' : St} {F R G Q : Nat → Prop} {dd : Nat → Bool} {i : Nat} {w w' : World} (h : DoC wx d r s' t' F R G Q dd w) (hi : i ≠ 4 ∧ i ≠ 9) (hb : Below w.heap.size w w') : DoC wx d r s' t' F R G Q (mark dd i) w' := by
  have e4 : mark dd i 4 = dd 4 := by unfold mark; rw [if_neg (Ne.symm hi.1)]
  have e9 : mark dd i 9 = dd 9 := by unfold mark; rw [if_neg (Ne.symm hi.2)]
  unfold DoC at h ⊢
  rw [e4, e9]
  split
  · rename_i q
    rw [if_pos q] at h
    split
    · rename_i q2; rw [if_pos q2] at h; exact h.below hb
    · rename_i q2; rw [if_neg q2] at h; exact h
  · rename_i q
    rw [if_neg q] at h
    split
    · rename_i q2; rw [if_pos q2] at h; exact h.below hb
    · rename_i q2; rw [if_neg q2] at h; exact h.trans (hb.mono h.size)
theorem DoC.zero {wx : World} {d r : Nat} {s' t' : St} {F R G Q : Nat → Prop} {dd : Nat → Bool} {w : World} (h : DoC wx d r s' t' F R G Q dd w) (h4 : dd 4 = false) (h9 : dd 9 = false) : Below wx.heap.size wx w := by
  unfold DoC at h
  rwa [h9, if_neg (by simp), h4, if_neg (by simp)] at h
theorem DoC.mid {wx : World} {d r : Nat} {s' t' : St} {F R G Q : Nat → Prop} {dd : Nat → Bool} {w : World} (h : DoC wx d r s' t' F R G Q dd w) (h9 : dd 9 = false) (h4 : dd 4 = true) : NextP wx w d s' F R := by
  unfold DoC at h
  rwa [h9, if_neg (by simp), h4, if_pos rfl] at h
theorem DoC.fin {wx : World} {d r : Nat} {s' t' : St} {F R G Q : Nat → Prop} {dd : Nat → Bool} {w : World} (h : DoC wx d r s' t' F R G Q dd w) (h9 : dd 9 = true) (h4 : dd 4 = true) : Both wx w d r s' t' F R G Q := by
  unfold DoC at h
  rwa [h9, if_pos rfl, h4, if_pos rfl] at h
theorem DoC.one {wx : World} {d r : Nat} {s' t' : St} {F R G Q : Nat → Prop} {dd : Nat → Bool} {w w' : World} (h : DoC wx d r s' t' F R G Q dd w) (h4 : dd 4 = false) (hg : NextP w w' d s' F R) : DoC wx d r s' t' F R G Q (mark dd 4) w' := by
  have e4 : mark dd 4 4 = true := by simp [mark]
  have e9 : mark dd 4 9 = dd 9 := by simp [mark]
  unfold DoC at h ⊢
  rw [e4, e9, if_pos rfl]
  rw [h4] at h
  split
  · rename_i q
    rw [if_pos q, if_neg (by simp)] at h
    exact h.elim
  · rename_i q
    rw [if_neg q, if_neg (by simp)] at h
    rw [if_pos rfl]
    exact NextP.of_below h hg
theorem DoC.two {wx : World} {d r : Nat} {s' t t' : St} {F R G Q : Nat → Prop} {dd : Nat → Bool} {w w' : World} (h : DoC wx d r s' t' F R G Q dd w) (hR : RepR wx r t G Q) (hA : Apart F R G Q) (h9 : dd 9 = false) (h4 : dd 4 = true) (hg : NextR w w' r t' G Q) : DoC wx d r s' t' F R G Q (mark dd 9) w' := by
  have hm := h.mid h9 h4
  have e4 : mark dd 9 4 = dd 4 := by simp [mark]
  have e9 : mark dd 9 9 = true := by simp [mark]
  unfold DoC
  rw [e4, e9, if_pos rfl, h4, if_pos rfl]
  exact both_of hR hA hm hg
theorem doC_block {wx : World} {d r : Nat} {s' t' : St} {F R G Q : Nat → Prop} {dd : Nat → Bool} {w : World} (h : DoC wx d r s' t' F R G Q dd w) {b : Nat} (hb : b < wx.heap.size) (hF : ¬ F b) (hG : ¬ G b) : w.heap[b]? = wx.heap[b]? := by
  unfold DoC at h
  split at h
  · split at h
    · obtain ⟨_, _, _, _, _, _, _, _, _, _, _, hf⟩ := h
      exact hf.block b hb fun z => z.elim hF hG
    · exact h.elim
  · split at h
    · obtain ⟨_, _, _, _, _, hf⟩ := h
      exact hf.block b hb hF
    · exact h.block b hb

end Go.Proofs.YtbfgkcgnhgfkmaaGreat.Dk

namespace Go.Proofs.YtbfgkcgnhgfkmaaGreat.Dk
open Go Go.Maps Go.RowKit Go.Proofs.YtbfgkcgnhgfkmaaGreat.Slc
set_option linter.unusedVariables false
set_option linter.unusedSimpArgs false

end Go.Proofs.YtbfgkcgnhgfkmaaGreat.Dk

namespace Go.Proofs.YtbfgkcgnhgfkmaaGreat.Dk
open Go Go.Maps Go.RowKit Go.Proofs.YtbfgkcgnhgfkmaaGreat.Slc
set_option linter.unusedVariables false
set_option linter.unusedSimpArgs false

end Go.Proofs.YtbfgkcgnhgfkmaaGreat.Dk

namespace Go.Proofs.YtbfgkcgnhgfkmaaGreat.Dk
open Go Go.Maps Go.RowKit Go.Proofs.YtbfgkcgnhgfkmaaGreat.Slc
set_option linter.unusedVariables false
set_option linter.unusedSimpArgs false

end Go.Proofs.YtbfgkcgnhgfkmaaGreat.Dk
