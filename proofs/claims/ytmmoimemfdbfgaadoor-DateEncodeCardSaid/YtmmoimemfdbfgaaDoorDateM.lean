/-
  Decode and DecodeTime return the same, at every argument. The examples of the chapter. near.
-/
import Derived.Test.YtmmoimemfdbfgaaDoorDateL
namespace Go.Proofs.YtmmoimemfdbfgaaDoor
open Go.RowKit

theorem num_nn (l : List UInt8) : 0 ≤ Dig.num l ↔ l.all Dig.isd = true := by
  unfold Dig.num
  split
  · rename_i h
    have := Dig.fold_bd l 0 (by omega) h
    simp only [h, iff_true]
    unfold Dig.val; omega
  · rename_i h
    simp only [h]
    constructor
    · intro h'; omega
    · intro h'; cases h'

theorem ext_list (c : ByteArray) (a b : Nat) : (c.extract a b).data.toList = (c.data.toList.drop a).take (b - a) := by
  rw [ByteArray.data_extract, Array.toList_extract, List.extract_eq_take_drop]

theorem all_digits (c : ByteArray) (n : Nat) (h0 : 0 ≤ yr c n) (h1 : 0 ≤ prs c n 0) (h2 : 0 ≤ prs c n 2) (h3 : 0 ≤ prs c n 4) (h4 : 0 ≤ prs c n 6) (h5 : 0 ≤ prs c n 8) : 0 ≤ yr c (n + 10) := by
  unfold yr prs at *
  rw [num_nn, ext_list] at *
  simp only [Nat.sub_zero, List.drop_zero, Nat.add_zero, show ∀ k, n + k + 2 - (n + k) = 2 from fun k => by omega, show n + 2 - n = 2 by omega] at *
  rw [List.take_add, List.all_append, h0, show (10 : Nat) = 2 + (2 + (2 + (2 + 2))) from rfl, List.take_add, List.all_append, h1, List.drop_drop,
    List.take_add, List.all_append, h2, List.drop_drop, List.take_add, List.all_append, List.drop_drop,
    show n + 2 + 2 = n + 4 by omega, h3, List.take_add, List.all_append, h4, List.drop_drop, show n + 4 + 2 = n + 6 by omega, show n + 6 + 2 = n + 8 by omega, h5]
  rfl

theorem prefix_digits (c : ByteArray) (n m : Nat) (h : 0 ≤ yr c (n + m)) : 0 ≤ yr c n := by
  unfold yr at *
  rw [num_nn, ext_list] at *
  simp only [Nat.sub_zero, List.drop_zero] at *
  rw [List.take_add, List.all_append, Bool.and_eq_true] at h
  exact h.1

theorem res_bad (c : ByteArray) (n : Nat) (y : Int) (h0 : 0 ≤ yr c n) (h : yr c (n + 10) < 0) : dresV c n y = 0 ∧ dresE c n y = 12 := by
  have hv : ¬ Cal.Vld y (prs c n 0) (prs c n 2) (prs c n 4) (prs c n 6) (prs c n 8) := by
    intro v
    have := all_digits c n h0 (by have := v.m1; omega) (by have := v.d1; omega) v.h1 v.n1 v.s1
    omega
  unfold dresV dresE secV secE
  rw [if_neg hv, if_neg hv]
  exact ⟨rfl, rfl⟩

/-- what Decode and DecodeTime both return -/
def Both (tag : Int) (c : ByteArray) (v e : Int) : Prop :=
  (∀ w, Tab w → Calls Tryd.prog 16 #[.int .i64 tag, .string c] w fun r w' => r = .returned (.tuple #[.int .i64 v, .int .i64 e]) ∧ Below w.heap.size w w') ∧
  (∀ w, Calls Tryd.prog 17 #[.int .i64 tag, .string c] w fun r w' => r = .returned (.tuple #[.int .i64 v, .int .i64 e]) ∧ Below w.heap.size w w')
theorem same_below {P : Program} {f : FuncId} {args : Array Value} {w : World} {v : Value} (h : Calls P f args w fun r w' => r = .returned v ∧ w = w') :
    Calls P f args w fun r w' => r = .returned v ∧ Below w.heap.size w w' := h.mono fun _ _ ⟨a, b⟩ => ⟨a, b ▸ Below.refl _ _⟩

theorem both23 (c : ByteArray) : ∃ v e, Both 23 c v e := by
  by_cases h : 13 = c.size
  · by_cases hz : c[12]'(by omega) = 90
    · rcases (by omega : yr c 2 < 0 ∨ 0 ≤ yr c 2) with hy | hy
      · have ha : yr c 12 < 0 := by
          rcases (by omega : yr c 12 < 0 ∨ 0 ≤ yr c 12) with q | q
          · exact q
          · have := prefix_digits c 2 10 q; omega
        exact ⟨0, 12, fun w _ => decode23_y c w h hz hy, fun w => same_below (rdecode23_dig c w h hz ha)⟩
      · rcases (by omega : yr c 12 < 0 ∨ 0 ≤ yr c 12) with ha | ha
        · refine ⟨0, 12, fun w ht => ?_, fun w => same_below (rdecode23_dig c w h hz ha)⟩
          rcases (by omega : yr c 2 < 50 ∨ 50 ≤ yr c 2) with q | q
          · have := decode23_lo c w ht h hz hy q
            rw [(res_bad c 2 _ hy ha).1, (res_bad c 2 _ hy ha).2] at this
            exact this
          · have := decode23_hi c w ht h hz q
            rw [(res_bad c 2 _ hy ha).1, (res_bad c 2 _ hy ha).2] at this
            exact this
        · rcases (by omega : yr c 2 < 50 ∨ 50 ≤ yr c 2) with q | q
          · exact ⟨_, _, fun w ht => decode23_lo c w ht h hz hy q, fun w => rdecode23_lo c w h hz ha q⟩
          · exact ⟨_, _, fun w ht => decode23_hi c w ht h hz q, fun w => rdecode23_hi c w h hz ha q⟩
    · exact ⟨0, 12, fun w _ => same_below (decode23_z c w h hz), fun w => same_below (rdecode23_z c w h hz)⟩
  · exact ⟨0, 12, fun w _ => same_below (decode23_size c w (fun e => h e.symm)), fun w => same_below (rdecode23_size c w (fun e => h e.symm))⟩

theorem both24 (c : ByteArray) : ∃ v e, Both 24 c v e := by
  by_cases h : 15 = c.size
  · by_cases hz : c[14]'(by omega) = 90
    · rcases (by omega : yr c 4 < 0 ∨ 0 ≤ yr c 4) with hy | hy
      · have ha : yr c 14 < 0 := by
          rcases (by omega : yr c 14 < 0 ∨ 0 ≤ yr c 14) with q | q
          · exact q
          · have := prefix_digits c 4 10 q; omega
        exact ⟨0, 12, fun w _ => decode24_y c w h hz hy, fun w => same_below (rdecode24_dig c w h hz ha)⟩
      · rcases (by omega : yr c 14 < 0 ∨ 0 ≤ yr c 14) with ha | ha
        · refine ⟨0, 12, fun w ht => ?_, fun w => same_below (rdecode24_dig c w h hz ha)⟩
          rcases (by omega : yr c 4 < 2050 ∨ 2050 ≤ yr c 4) with q | q
          · exact decode24_low c w h hz hy q
          · have := decode24_hi c w ht h hz q
            rw [(res_bad c 4 _ hy ha).1, (res_bad c 4 _ hy ha).2] at this
            exact this
        · rcases (by omega : yr c 4 < 2050 ∨ 2050 ≤ yr c 4) with q | q
          · exact ⟨0, 12, fun w _ => decode24_low c w h hz hy q, fun w => same_below (rdecode24_low c w h hz ha q)⟩
          · exact ⟨_, _, fun w ht => decode24_hi c w ht h hz q, fun w => rdecode24_hi c w h hz ha q⟩
    · exact ⟨0, 12, fun w _ => same_below (decode24_z c w h hz), fun w => same_below (rdecode24_z c w h hz)⟩
  · exact ⟨0, 12, fun w _ => same_below (decode24_size c w (fun e => h e.symm)), fun w => same_below (rdecode24_size c w (fun e => h e.symm))⟩

theorem both_any (tag : Int) (c : ByteArray) : ∃ v e, Both tag c v e := by
  by_cases h1 : tag = 23
  · subst h1; exact both23 c
  · by_cases h2 : tag = 24
    · subst h2; exact both24 c
    · exact ⟨0, 5, fun w _ => same_below (decode_tag tag c w h1 h2), fun w => same_below (rdecode_tag tag c w h1 h2)⟩

end Go.Proofs.YtmmoimemfdbfgaaDoor
