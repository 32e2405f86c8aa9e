/-
  What the laws of layer 2 have in common: the examples of the chapter.
-/
import Derived.Test.YtmmoimemfdbfgaaTlvOne
namespace Go.Proofs.Ytmmoimemfdbfgaa
open Go.RowKit
set_option linter.unusedSimpArgs false

def B5 : ByteArray := ⟨#[4, 129, 2, 97, 98]⟩
theorem rd_b5 : Tl.rd B5 = .err 6 := by kernel_rfl
def AB : Obj := .cells #[.string ⟨#[97]⟩, .string ⟨#[98]⟩] 9
theorem ab_strs (w : World) : Strs (w.alloc AB) (.slice (some ⟨w.heap.size, 0, none⟩) 2 2) [⟨#[97]⟩, ⟨#[98]⟩] := by
  refine Strs.some w.heap.size 0 2 ⟨#[97]⟩ [⟨#[98]⟩] (by simp) (by simp) (by unfold maxLen; simp) ?_
  intro j y hj
  unfold AB
  rw [World.cell?_alloc_at _ _ _ _ rfl, Nat.zero_add]
  match j, hj with
  | 0, hj => simp at hj; subst hj; rfl
  | 1, hj => simp at hj; subst hj; rfl
theorem wrap_ab : wrapR 4 (Tl.flat [⟨#[97]⟩, ⟨#[98]⟩]) = .tuple #[.string ⟨#[4, 2, 97, 98]⟩, .int .i64 0] := by
  rw [wrapR, if_neg (by omega), wrapV, if_neg (by decide)]; rfl

theorem awake_any (w : World) : Calls Try.prog 12 #[] w fun e w' => e = .returned (.bool true) ∧ Below w.heap.size w w' := by
  have hw := wrap_any 4 _ _ _ (ab_strs w) (by decide) (by decide)
  rw [wrap_ab] at hw
  have hr := fun W => read_any B5 W (by decide)
  rw [rd_b5] at hr
  unfold AB at hw
  unfold B5 resV errV at hr
  go_enter Try.func12, Try.ntmps12
  go_wp2_with fail
  go_at_call 13
  refine hw.mono ?_
  rintro e w1 ⟨rfl, hb1⟩
  obtain ⟨e1, rfl⟩ := (Ext.self (w.alloc AB)).next hb1
  clear hb1 hw
  go_wp2_with fail
  go_at_call 16
  refine (hr _).mono ?_
  rintro e w2 ⟨rfl, hb2⟩
  obtain ⟨e2, rfl⟩ := e1.next hb2
  clear hb2 hr
  have hB : Below w.heap.size w e2.out := ((Below.refl _ _).alloc (Nat.le_refl _) AB).trans (e2.bel.mono (by simp))
  go_wp2
  go_ret
  exact ⟨rfl, hB.alloc hB.size _⟩

end Go.Proofs.Ytmmoimemfdbfgaa
