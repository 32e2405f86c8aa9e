/-
  The contracts of Order.
-/
import Derived.Test.YtmmoimemfdbfgaaStrOwn
import Derived.Test.YtmmoimemfdbfgaaTlvIns
import Derived.WalkLawsBesides
import Derived.BigQuiet
namespace Go.Proofs.Ytmmoimemfdbfgaa
open Go Go.RowKit Go.Sort
set_option linter.unusedSimpArgs false

theorem grown_low {B : Nat} {a w w' : World} {v : Value} {t : TypeId} {z n : Nat} {l : List Value} (h : Below B a w) (hg : w.grownBy w' v.ownBlock) (ho : w.ownsRow B t z v n l) (hB : B ≤ w.heap.size) : Below B a w' :=
  h.grown hg hB fun k hk => (ho.lt k hk).1
def flatL (ss : List (List UInt8)) : List UInt8 := ss.flatten
theorem flat_map (ss : List (List UInt8)) : Tl.flat (ss.map fun s => ⟨s.toArray⟩) = flatL ss := by
  induction ss with
  | nil => rfl
  | cons s ss ih => simpa [Tl.flat, flatL] using ih
/-- Join of an owned slice -/
theorem join_own (B : Nat) (v : Value) (ss : List (List UInt8)) (w : World) (h : OwnS w B v ss) (hl : ss.length ≤ 1000000) (hf : (flatL ss).length ≤ 1000000) :
    Calls Try.prog 27 #[v, .string ⟨#[]⟩] w fun e w' => e = .returned (.string ⟨(flatL ss).toArray⟩) ∧ Below w.heap.size w w' := by
  rcases h.form with ⟨rfl, rfl⟩ | ⟨g, c, rfl, hpos, hB, hlt, hc⟩
  · exact (Try.strings_Join_none none 0 ⟨#[]⟩ w).mono fun e w' ⟨he, hw⟩ => ⟨he, by subst hw; exact Below.refl _ _⟩
  · have hk := Try.strings_Join g 0 c (ss.map fun s => ⟨s.toArray⟩) ⟨#[]⟩ w (fun j x hj => by
        rw [List.getElem?_map] at hj
        cases hs : ss[j]? with
        | none => rw [hs] at hj; cases hj
        | some s =>
          rw [hs] at hj; cases hj
          obtain ⟨hjl, rfl⟩ := List.getElem?_eq_some_iff.1 hs
          rw [Nat.zero_add]; exact h.cell j hjl) hlt (by simp; omega) (by simpa using hc) (by show (Lib.join _ []).length ≤ _; rw [join_empty, flat_map]; omega)
    have e0 : Lib.join ((ss.map fun s => (⟨s.toArray⟩ : ByteArray)).map (·.data.toList)) (⟨#[]⟩ : ByteArray).data.toList = flatL ss := by show Lib.join _ [] = _; rw [join_empty, flat_map]
    rw [e0, List.length_map] at hk
    exact hk

set_option maxHeartbeats 400000 in
theorem order_any (B : Nat) (v : Value) (ss : List (List UInt8)) (w : World) (h : OwnS w B v ss) (hl : ss.length ≤ 1000) (hf : (flatL (sorted ss)).length ≤ 1000000) :
    Calls Try.prog 22 #[v] w fun e w' => e = .returned (.string ⟨(flatL (sorted ss)).toArray⟩) ∧ Below w.heap.size w w' := by
  obtain ⟨i0, hi, hz0, hz1, hz2⟩ := info_parts info_str
  have hsrc := h.src
  have hL := Lib.hid (sorted_length ss)
  obtain ⟨ad, n, cap, hv⟩ : ∃ ad n cap, v = .slice ad n cap := by rcases h.form with ⟨rfl, _⟩ | ⟨g, c, rfl, _⟩ <;> exact ⟨_, _, _, rfl⟩
  subst hv
  go_enter Try.func22, Try.ntmps22
  go_wp2_with (at_builtin; refine wpList_append_any rfl _ _ _ rfl w.heap.size 9 i0 _ 1 16 Try.underlying22 hi hz0 hz1 hz2 rfl (by decide) _ 0 [] rfl (World.ownsRow_nil _ _ _ _) _ ss.length (ss.map encStr) rfl hsrc ?c1 ?c2 (Nat.le_refl _) ?_)
  case c1 => unfold maxLen; omega
  case c2 => omega
  intro v' w1 ha
  have ho := (OwnS.empty w w.heap.size).apd rfl rfl ha
  have hB := grown_low (Below.refl w.heap.size w) ha.grown (World.ownsRow_nil w w.heap.size 9 1) (Nat.le_refl _)
  rw [List.nil_append] at ho
  clear ha
  go_wp2_with fail
  go_at_call 36
  refine (sort_own _ _ ss _ ho (by omega)).mono ?_
  rintro e w2 ⟨rfl, ho2, hg2⟩
  have hB2 := grown_low hB hg2 ho.row hB.size
  clear ho hB hg2
  go_wp2_with fail
  go_at_call 27
  refine (join_own _ _ (sorted ss) _ ho2 (by rw [hL.out]; omega) hf).mono ?_
  rintro e w3 ⟨rfl, hb3⟩
  have hB3 := hB2.trans (hb3.mono hB2.size)
  clear hb3 ho2 hB2
  go_wp2
  go_ret
  exact ⟨rfl, hB3⟩

end Go.Proofs.Ytmmoimemfdbfgaa
