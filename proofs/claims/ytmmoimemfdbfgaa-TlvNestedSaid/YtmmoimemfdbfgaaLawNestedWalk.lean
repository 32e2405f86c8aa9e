/-
  The walk of TlvNested: it returns true.
-/
import Derived.Test.YtmmoimemfdbfgaaLawReadWalk
import Derived.Test.YtmmoimemfdbfgaaDamage
namespace Go.Proofs.Ytmmoimemfdbfgaa
open Go.RowKit
set_option linter.unusedSimpArgs false

theorem three_strs (w : World) (x y z : ByteArray) : Strs (w.alloc (.cells #[.string x, .string y, .string z] 9)) (.slice (some ⟨w.heap.size, 0, none⟩) 3 3) [x, y, z] := by
  refine Strs.some w.heap.size 0 3 x [y, z] (by simp) (by simp) (by unfold maxLen; simp) ?_
  intro j u hj
  rw [World.cell?_alloc_at _ _ _ _ rfl, Nat.zero_add]
  match j, hj with
  | 0, hj => simp at hj; subst hj; rfl
  | 1, hj => simp at hj; subst hj; rfl
  | 2, hj => simp at hj; subst hj; rfl
theorem wrap_three (x y : ByteArray) (hx : x.size ≤ 4) (hy : y.size ≤ 1000) : ∃ s : ByteArray, s.size ≤ y.size + 20 ∧ ∀ (w : World) (g : Nat) (_ : w.heap.size = g),
    Calls Try.prog 13 #[.int .i64 48, .slice (some ⟨g, 0, none⟩) 3 3] (w.alloc (.cells #[.string x, .string y, .string x] 9)) fun e w' => e = .returned (.tuple #[.string s, .int .i64 0]) ∧ Below (w.alloc (.cells #[.string x, .string y, .string x] 9)).heap.size (w.alloc (.cells #[.string x, .string y, .string x] 9)) w' := by
  have hf : Tl.flat [x, y, x] = x.data.toList ++ (y.data.toList ++ x.data.toList) := by simp [Tl.flat]
  have hl : (Tl.flat [x, y, x]).length = x.size + (y.size + x.size) := by rw [hf]; simp
  refine ⟨⟨(Tl.elem 48 (Tl.flat [x, y, x])).toArray⟩, ?_, fun w g hg => ?_⟩
  · rw [mk_size]
    have h1 := Tl.lenB_length (Tl.flat [x, y, x]).length
    rw [Tl.elem, List.length_cons, List.length_append]; omega
  · subst hg
    have := wrap_any 48 _ _ _ (three_strs w x y x) (by simp) (by omega)
    have hv : wrapR 48 (Tl.flat [x, y, x]) = .tuple #[.string ⟨(Tl.elem 48 (Tl.flat [x, y, x])).toArray⟩, .int .i64 0] := by rw [wrapR, if_neg (by omega), wrapV, if_neg (by omega)]; rfl
    rw [hv] at this
    exact this
def NestRel (w : World) (m : Int) (s i : Value) (wr : World) : Prop :=
  ∃ (k : Nat) (b : ByteArray), (k : Int) ≤ m ∧ i = .int .i64 k ∧ s = .string b ∧ b.size ≤ 3 + 20 * k ∧ Below w.heap.size w wr

set_option maxHeartbeats 1000000 in
theorem law_nested (n : Int) (v : Value) (zs : List Int) (q : Int) (w : World) (hv : Ints w .i64 v zs) (hn0 : 0 ≤ n) (hn1 : n ≤ 255) (hq0 : 0 ≤ q) (hq1 : q ≤ 255) :
    Calls Try.prog 9 #[.int .u8 n, v, .int .u8 q] w fun e w' => e = .returned (.bool true) ∧ Below w.heap.size w w' := by
  have hm : 0 ≤ n % 20 ∧ n % 20 ≤ 19 := by omega
  have hA := awake_any
  have hC := check_any
  have hCr := rcheck_any
  have hS := same_any
  have hw := wrap_three
  have hNew := fun W => new_any w v zs W hv
  have hDam := damage_any w v zs
  obtain ⟨ad, cap, len, rfl⟩ : ∃ ad cap len, v = .slice ad len cap := by cases hv <;> exact ⟨_, _, _, rfl⟩
  clear hv
  by_cases h3 : q % 3 = 1
  all_goals
    have t0 := Lib.hid h3
    first | (have t1 : (q % 3 == 1) = true := by (rw [beq_iff_eq]; exact h3)) | (have t1 : (q % 3 == 1) = false := by (rw [beq_eq_false_iff_ne]; exact h3))
    clear h3
    go_enter Try.func9, Try.ntmps9
    go_wp2
    go_loopw [7, 8] (fun s i wr => NestRel w (n % 20) s i wr) (fun _ i _ => (n % 20).toNat - (intOf i).toNat)
    case atStart => exact ⟨0, _, by omega, rfl, rfl, by decide, Below.refl _ _⟩
    case round =>
      obtain ⟨k, b, hk, rfl, rfl, hb, hB⟩ := hrel
      by_cases hlt : (k : Int) < n % 20
      · by_cases h5 : q % 5 = (k : Int) % 5
        · have t5 : (q % 5 == (k : Int) % 5) = true := by rw [beq_iff_eq]; exact h5
          obtain ⟨s, hs, hW⟩ := hw ⟨#[5, 0]⟩ b (by decide) (by omega)
          clear hw h5 hA hC hCr hS hNew hDam
          go_wp2_with fail
          go_at_call 13
          refine (hW _ _ ?hg1).mono ?_
          case hg1 => rfl
          rintro _ w1 ⟨rfl, hb1⟩
          have hB := hB.alloc hB.size (.cells #[.string ⟨#[5, 0]⟩, .string b, .string ⟨#[5, 0]⟩] 9)
          have hB := hB.trans (hb1.mono hB.size)
          clear hb1 hW
          go_wp2
          go_roundw
          case rel => exact ⟨k + 1, s, by omega, by go_num, rfl, by omega, hB⟩
          case measure => simp [intOf]; omega
        · have t5 : (q % 5 == (k : Int) % 5) = false := by rw [beq_eq_false_iff_ne]; exact h5
          obtain ⟨s, hs, hW⟩ := hw ⟨#[]⟩ b (by decide) (by omega)
          clear hw h5 hA hC hCr hS hNew hDam
          go_wp2_with fail
          go_at_call 13
          refine (hW _ _ ?hg2).mono ?_
          case hg2 => rfl
          rintro _ w1 ⟨rfl, hb1⟩
          have hB := hB.alloc hB.size (.cells #[.string ⟨#[]⟩, .string b, .string ⟨#[]⟩] 9)
          have hB := hB.trans (hb1.mono hB.size)
          clear hb1 hW
          go_wp2
          go_roundw
          case rel => exact ⟨k + 1, s, by omega, by go_num, rfl, by omega, hB⟩
          case measure => simp [intOf]; omega
      · have hb9 : b.size ≤ 1000 := by omega
        clear hw hb
        go_wp2_with fail
        go_at_call 12
        refine (hA _).mono ?_
        rintro _ w1 ⟨rfl, hb⟩
        have hB := hB.trans (hb.mono hB.size)
        clear hb hA
        go_wp2_with fail
        go_at_call 18
        refine (hC b _ (by omega)).mono ?_
        rintro _ w2 ⟨rfl, hb⟩
        have hB := hB.trans (hb.mono hB.size)
        clear hb hC
        go_wp2_with fail
        go_at_call 19
        refine (hCr b _ (by omega)).mono ?_
        rintro _ w3 ⟨rfl, hb⟩
        have hB := hB.trans (hb.mono hB.size)
        clear hb hCr
        generalize Tl.check b = R at *
        go_wp2_with fail
        go_at_call 21
        refine (hNew _ hB).mono ?_
        rintro _ w4 ⟨rfl, hb, hD⟩
        have hg := hB.size
        have hB := hB.trans (hb.mono hB.size)
        clear hb hNew
        go_wp2_with fail
        go_at_call 20
        refine (hDam _ _ b hD (by omega)).mono ?_
        rintro _ w5 ⟨s, rfl, hs, hD', hG⟩
        have hB := hB.grown hG hB.size (fun j hj => by cases hj; exact hg)
        clear hG hD' hD hDam hg
        go_wp2_with fail
        go_at_call 17
        refine (hS s _ (by omega)).mono ?_
        rintro _ w6 ⟨rfl, hb⟩
        have hB := hB.trans (hb.mono hB.size)
        clear hb hS
        go_wp2
        go_ret
        exact ⟨rfl, hB⟩

end Go.Proofs.Ytmmoimemfdbfgaa
