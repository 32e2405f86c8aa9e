/-
  When a text of nineteen bytes is the text of the date that its digits spell: in plain Lean.
-/
import Derived.Test.YtmmoimemfdbfgaaDoorDateO
namespace Go.Proofs.YtmmoimemfdbfgaaDoor
open Go.RowKit

theorem Dig.dg_eq (c : UInt8) (x : Int) (h : Dig.isd c = true) (hx : x = (c.toNat : Int) - 48) : Dig.dg x = c := by
  have h' := (Dig.isd_iff c).1 h
  apply UInt8.toNat_inj.1
  have := Dig.dg_toNat x (by omega) (by omega)
  omega
theorem Dig.low_num2 (a b : UInt8) (ha : Dig.isd a = true) (hb : Dig.isd b = true) : Dig.low 2 (Dig.num [a, b]) = [a, b] := by
  have ha' := (Dig.isd_iff a).1 ha
  have hb' := (Dig.isd_iff b).1 hb
  have e : Dig.num [a, b] = 10 * ((a.toNat : Int) - 48) + ((b.toNat : Int) - 48) := by simp [Dig.num, ha, hb, Dig.val]
  rw [e]
  simp only [Dig.low]
  rw [Dig.dg_eq a _ ha (by omega), Dig.dg_eq b _ hb (by omega)]
theorem Dig.low_num4 (a b c d : UInt8) (ha : Dig.isd a = true) (hb : Dig.isd b = true) (hc : Dig.isd c = true) (hd : Dig.isd d = true) : Dig.low 4 (Dig.num [a, b, c, d]) = [a, b, c, d] := by
  have ha' := (Dig.isd_iff a).1 ha
  have hb' := (Dig.isd_iff b).1 hb
  have hc' := (Dig.isd_iff c).1 hc
  have hd' := (Dig.isd_iff d).1 hd
  have e : Dig.num [a, b, c, d] = 1000 * ((a.toNat : Int) - 48) + 100 * ((b.toNat : Int) - 48) + 10 * ((c.toNat : Int) - 48) + ((d.toNat : Int) - 48) := by simp [Dig.num, ha, hb, hc, hd, Dig.val]; omega
  rw [e]
  simp only [Dig.low]
  rw [Dig.dg_eq a _ ha (by omega), Dig.dg_eq b _ hb (by omega), Dig.dg_eq c _ hc (by omega), Dig.dg_eq d _ hd (by omega)]

/-- the bytes between the fields are as they should be -/
def Seps (c : ByteArray) : Prop := ∀ k, k < 5 → c.data.toList.getD (4 + 3 * k) 0 = Dig.sep k

theorem nineteen (l : List UInt8) (h : l.length = 19) : l = [l.getD 0 0, l.getD 1 0, l.getD 2 0, l.getD 3 0, l.getD 4 0, l.getD 5 0, l.getD 6 0, l.getD 7 0, l.getD 8 0, l.getD 9 0, l.getD 10 0, l.getD 11 0, l.getD 12 0, l.getD 13 0, l.getD 14 0, l.getD 15 0, l.getD 16 0, l.getD 17 0, l.getD 18 0] := by
  apply List.ext_getElem
  · simpa using h
  · intro i h1 h2
    have hi : i = 0 ∨ i = 1 ∨ i = 2 ∨ i = 3 ∨ i = 4 ∨ i = 5 ∨ i = 6 ∨ i = 7 ∨ i = 8 ∨ i = 9 ∨ i = 10 ∨ i = 11 ∨ i = 12 ∨ i = 13 ∨ i = 14 ∨ i = 15 ∨ i = 16 ∨ i = 17 ∨ i = 18 := by omega
    rcases hi with rfl | rfl | rfl | rfl | rfl | rfl | rfl | rfl | rfl | rfl | rfl | rfl | rfl | rfl | rfl | rfl | rfl | rfl | rfl <;> simp [h]

theorem txt_seps (c : ByteArray) (h : c.size = 19) (hv : PV c) : (⟨(pTxt c).toArray⟩ : ByteArray) = c ↔ Seps c := by
  have hl : c.data.toList.length = 19 := by simpa using h
  have e := nineteen c.data.toList hl
  generalize c.data.toList.getD 0 0 = x0 at e
  generalize c.data.toList.getD 1 0 = x1 at e
  generalize c.data.toList.getD 2 0 = x2 at e
  generalize c.data.toList.getD 3 0 = x3 at e
  generalize c.data.toList.getD 4 0 = x4 at e
  generalize c.data.toList.getD 5 0 = x5 at e
  generalize c.data.toList.getD 6 0 = x6 at e
  generalize c.data.toList.getD 7 0 = x7 at e
  generalize c.data.toList.getD 8 0 = x8 at e
  generalize c.data.toList.getD 9 0 = x9 at e
  generalize c.data.toList.getD 10 0 = x10 at e
  generalize c.data.toList.getD 11 0 = x11 at e
  generalize c.data.toList.getD 12 0 = x12 at e
  generalize c.data.toList.getD 13 0 = x13 at e
  generalize c.data.toList.getD 14 0 = x14 at e
  generalize c.data.toList.getD 15 0 = x15 at e
  generalize c.data.toList.getD 16 0 = x16 at e
  generalize c.data.toList.getD 17 0 = x17 at e
  generalize c.data.toList.getD 18 0 = x18 at e
  have ey : yr c 4 = Dig.num [x0, x1, x2, x3] := by unfold yr; rw [ext_list, e]; rfl
  have e5 : pr c 5 = Dig.num [x5, x6] := by unfold pr; rw [ext_list, e]; rfl
  have e8 : pr c 8 = Dig.num [x8, x9] := by unfold pr; rw [ext_list, e]; rfl
  have e11 : pr c 11 = Dig.num [x11, x12] := by unfold pr; rw [ext_list, e]; rfl
  have e14 : pr c 14 = Dig.num [x14, x15] := by unfold pr; rw [ext_list, e]; rfl
  have e17 : pr c 17 = Dig.num [x17, x18] := by unfold pr; rw [ext_list, e]; rfl
  unfold PV at hv
  have hy : 0 ≤ Dig.num [x0, x1, x2, x3] := by rw [← ey]; have := hv.y1; omega
  have h5 : 0 ≤ Dig.num [x5, x6] := by rw [← e5]; have := hv.m1; omega
  have h8 : 0 ≤ Dig.num [x8, x9] := by rw [← e8]; have := hv.d1; omega
  have h11 : 0 ≤ Dig.num [x11, x12] := by rw [← e11]; exact hv.h1
  have h14 : 0 ≤ Dig.num [x14, x15] := by rw [← e14]; exact hv.n1
  have h17 : 0 ≤ Dig.num [x17, x18] := by rw [← e17]; exact hv.s1
  rw [num_nn] at hy h5 h8 h11 h14 h17
  simp only [List.all_cons, List.all_nil, Bool.and_true, Bool.and_eq_true] at hy h5 h8 h11 h14 h17
  have ht : pTxt c = [x0, x1, x2, x3, 45, x5, x6, 45, x8, x9, 32, x11, x12, 58, x14, x15, 58, x17, x18] := by
    unfold pTxt
    rw [ey, e5, e8, e11, e14, e17]
    simp only [Dig.txt, Dig.sep, Dig.fld]
    rw [Dig.low_num4 x0 x1 x2 x3 hy.1 hy.2.1 hy.2.2.1 hy.2.2.2, Dig.low_num2 x5 x6 h5.1 h5.2, Dig.low_num2 x8 x9 h8.1 h8.2, Dig.low_num2 x11 x12 h11.1 h11.2, Dig.low_num2 x14 x15 h14.1 h14.2, Dig.low_num2 x17 x18 h17.1 h17.2]
    rfl
  rw [ht]
  constructor
  · intro q
    have q' : [x0, x1, x2, x3, 45, x5, x6, 45, x8, x9, 32, x11, x12, 58, x14, x15, 58, x17, x18] = c.data.toList := congrArg (fun b : ByteArray => b.data.toList) q
    intro k hk
    rw [← q']
    have : k = 0 ∨ k = 1 ∨ k = 2 ∨ k = 3 ∨ k = 4 := by omega
    rcases this with rfl | rfl | rfl | rfl | rfl <;> rfl
  · intro q
    have q0 := q 0 (by omega)
    have q1 := q 1 (by omega)
    have q2 := q 2 (by omega)
    have q3 := q 3 (by omega)
    have q4 := q 4 (by omega)
    rw [e] at q0 q1 q2 q3 q4
    simp only [Dig.sep, Nat.reduceMul, Nat.reduceAdd, List.getD_cons_succ, List.getD_cons_zero] at q0 q1 q2 q3 q4
    subst q0 q1 q2 q3 q4
    apply ByteArray.ext
    apply Array.toList_inj.1
    exact e.symm

end Go.Proofs.YtmmoimemfdbfgaaDoor
