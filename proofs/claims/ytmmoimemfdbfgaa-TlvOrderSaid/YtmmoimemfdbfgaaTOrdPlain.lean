/-
  TlvOrder: what List makes of ordered elements. In plain Lean.
-/
import Derived.Test.YtmmoimemfdbfgaaTlvElem
import Derived.Test.YtmmoimemfdbfgaaTlvROrd
import Derived.Test.YtmmoimemfdbfgaaTlvAsc
namespace Go.Proofs.Ytmmoimemfdbfgaa
open Go Go.RowKit Go.Sort
set_option linter.unusedSimpArgs false

namespace TO
theorem mk_extract (l : List UInt8) (i j : Nat) : (⟨l.toArray⟩ : ByteArray).extract i j = ⟨((l.drop i).take (j - i)).toArray⟩ := by
  apply ByteArray.ext
  simp [ByteArray.data_extract, List.extract_eq_take_drop]
theorem mk_self (b : ByteArray) : (⟨b.data.toList.toArray⟩ : ByteArray) = b := by apply ByteArray.ext; simp
theorem mk_cat (l : List UInt8) (b : ByteArray) : (⟨l.toArray⟩ : ByteArray) ++ b = ⟨(l ++ b.data.toList).toArray⟩ := by
  apply ByteArray.ext; simp
theorem size_mk (l : List UInt8) : (⟨l.toArray⟩ : ByteArray).size = l.length := by show l.toArray.size = _; simp
/-- what Wrap wrote is read back -/
theorem read_back (t : Nat) (c b : ByteArray) (ht : t < 256) (h31 : t % 32 ≠ 31) (hc : c.size ≤ 131072) :
    resV (⟨(Tl.elem t c.data.toList).toArray⟩ ++ b) (Tl.rd (⟨(Tl.elem t c.data.toList).toArray⟩ ++ b)) = .tuple #[.agg #[.int .i64 t, .string c, .string ⟨(Tl.elem t c.data.toList).toArray⟩], .string b, .int .i64 0] := by
  rw [mk_cat]
  have hl : c.data.toList.length = c.size := by simp
  have hE : (Tl.elem t c.data.toList).length = 1 + (Tl.lenB c.data.toList.length).length + c.data.toList.length := by simp [Tl.elem]; omega
  have hsz : (⟨(Tl.elem t c.data.toList ++ b.data.toList).toArray⟩ : ByteArray).size = (Tl.elem t c.data.toList).length + b.size := by rw [size_mk]; simp
  rw [Tl.rd_ok_iff.2 ⟨Tl.elem_hdr t c.data.toList b.data.toList ht h31 (by omega), by rw [hsz]; omega⟩]
  have d1 : (Tl.elem t c.data.toList).drop (1 + (Tl.lenB c.data.toList.length).length) = c.data.toList := by
    unfold Tl.elem; rw [Nat.add_comm]; simp
  have e1 : (⟨(Tl.elem t c.data.toList ++ b.data.toList).toArray⟩ : ByteArray).extract (1 + (Tl.lenB c.data.toList.length).length) (1 + (Tl.lenB c.data.toList.length).length + c.data.toList.length) = c := by
    have h1 : 1 + (Tl.lenB c.data.toList.length).length ≤ (Tl.elem t c.data.toList).length := by omega
    rw [mk_extract, List.drop_append_of_le_length h1, d1, Nat.add_sub_cancel_left, List.take_left' rfl, mk_self]
  have e2 : (⟨(Tl.elem t c.data.toList ++ b.data.toList).toArray⟩ : ByteArray).extract 0 (1 + (Tl.lenB c.data.toList.length).length + c.data.toList.length) = ⟨(Tl.elem t c.data.toList).toArray⟩ := by
    rw [mk_extract, List.drop_zero, Nat.sub_zero, List.take_left' hE]
  have e3 : (⟨(Tl.elem t c.data.toList ++ b.data.toList).toArray⟩ : ByteArray).extract (1 + (Tl.lenB c.data.toList.length).length + c.data.toList.length) (⟨(Tl.elem t c.data.toList ++ b.data.toList).toArray⟩ : ByteArray).size = b := by
    rw [mk_extract, List.drop_left' hE, hsz, List.take_of_length_le (by rw [show b.data.toList.length = b.size by simp]; omega), mk_self]
  have e0 : Tl.byt ⟨(Tl.elem t c.data.toList ++ b.data.toList).toArray⟩ 0 = t := by
    rw [Tl.byt_mk]; simp [Tl.elem, Tl.b8_toNat]; omega
  show okV _ _ _ _ = _
  unfold okV
  rw [e0, e1, e2, e3]

end TO
open TO

def el4 (s : List UInt8) : List UInt8 := Tl.elem 4 s
def elt4 (s : List UInt8) : Elt := ⟨4, ⟨s.toArray⟩, ⟨(el4 s).toArray⟩⟩
theorem el4_len (s : List UInt8) (h : s.length ≤ 131072) : 1 ≤ (el4 s).length ∧ (el4 s).length ≤ s.length + 10 := by
  have h1 := Tl.lenB_length s.length
  unfold el4 Tl.elem
  rw [List.length_cons, List.length_append]; omega
theorem rd_el4 (s : List UInt8) (b : ByteArray) (hs : s.length ≤ 131072) :
    ∃ a n, Tl.rd (⟨(el4 s).toArray⟩ ++ b) = .ok a n ∧ eltAt (⟨(el4 s).toArray⟩ ++ b) a n = elt4 s ∧ (⟨(el4 s).toArray⟩ ++ b : ByteArray).extract (a + n) (⟨(el4 s).toArray⟩ ++ b : ByteArray).size = b := by
  have hr := read_back 4 ⟨s.toArray⟩ b (by omega) (by omega) (by rw [size_mk]; exact hs)
  have e : (⟨s.toArray⟩ : ByteArray).data.toList = s := by simp
  rw [e] at hr
  unfold el4 elt4 el4
  generalize (⟨(Tl.elem 4 s).toArray⟩ : ByteArray) = E at *
  cases p : Tl.rd (E ++ b) with
  | err c => rw [p] at hr; unfold resV errV at hr; simp at hr
  | ok a n =>
    rw [p] at hr; unfold resV okV at hr
    simp only [Value.tuple.injEq, Array.mk.injEq, List.cons.injEq, Value.agg.injEq, Value.int.injEq, Value.string.injEq, true_and, and_true] at hr
    obtain ⟨⟨h1, h2, h3⟩, h4⟩ := hr
    exact ⟨a, n, rfl, by unfold eltAt; rw [h1, h2, h3]; rfl, h4⟩
theorem flat_cons (s : List UInt8) (ss : List (List UInt8)) : (⟨(flatL ((s :: ss).map el4)).toArray⟩ : ByteArray) = ⟨(el4 s).toArray⟩ ++ ⟨(flatL (ss.map el4)).toArray⟩ := by
  apply ByteArray.ext; simp [flatL]
theorem lst_flat : ∀ (ss : List (List UInt8)) (f : Nat) (acc : List Elt), (∀ s ∈ ss, s.length ≤ 131072) → ss.length ≤ f → Tl.lst f acc ⟨(flatL (ss.map el4)).toArray⟩ = (acc ++ ss.map elt4, 0)
  | [], f, acc, _, _ => by
    have e : (⟨(flatL (([] : List (List UInt8)).map el4)).toArray⟩ : ByteArray).size = 0 := rfl
    cases f with
    | zero => simp [Tl.lst]
    | succ f => rw [Tl.lst, if_pos e]; simp
  | s :: ss, 0, acc, _, hl => by simp at hl
  | s :: ss, f + 1, acc, h, hl => by
    have hs := h s (by simp)
    have hlen := el4_len s hs
    obtain ⟨a, n, h1, h2, h3⟩ := rd_el4 s ⟨(flatL (ss.map el4)).toArray⟩ hs
    rw [flat_cons, Tl.lst, if_neg (by rw [ByteArray.size_append, size_mk]; omega), h1]
    simp only
    rw [h2, h3, lst_flat ss f _ (fun x hx => h x (by simp [hx])) (by simpa using hl)]
    simp
theorem all_map {α β : Type} (f : α → β) (P : α → Prop) : ∀ l : List β, (∀ x ∈ l, ∃ s, x = f s ∧ P s) → ∃ ts : List α, l = ts.map f ∧ ∀ t ∈ ts, P t
  | [], _ => ⟨[], rfl, by simp⟩
  | x :: l, h => by
    obtain ⟨s, rfl, hs⟩ := h x (by simp)
    obtain ⟨ts, rfl, ht⟩ := all_map f P l fun y hy => h y (by simp [hy])
    exact ⟨s :: ts, rfl, fun t q => (List.mem_cons.1 q).elim (fun e => e ▸ hs) (ht t)⟩
theorem flat_le (m : Nat) : ∀ l : List (List UInt8), (∀ x ∈ l, x.length ≤ m) → (flatL l).length ≤ l.length * m
  | [], _ => by simp [flatL]
  | x :: l, h => by
    have := flat_le m l fun y hy => h y (by simp [hy])
    have hx := h x (by simp)
    have e : (flatL (x :: l)).length = x.length + (flatL l).length := by simp [flatL]
    rw [e, List.length_cons, Nat.succ_mul]; omega
theorem flat_ge : ∀ l : List (List UInt8), (∀ x ∈ l, 1 ≤ x.length) → l.length ≤ (flatL l).length
  | [], _ => by simp
  | x :: l, h => by
    have := flat_ge l fun y hy => h y (by simp [hy])
    have hx := h x (by simp)
    have e : (flatL (x :: l)).length = x.length + (flatL l).length := by simp [flatL]
    rw [e, List.length_cons]; omega
theorem sorted_perm (ss : List (List UInt8)) : (sorted ss).Perm ss := List.mergeSort_perm _ _
theorem sorted_flat_le (m : Nat) (l : List (List UInt8)) (h : ∀ x ∈ l, x.length ≤ m) : (flatL (sorted l)).length ≤ l.length * m := by
  rw [← sorted_length l]
  exact flat_le m _ fun x hx => h x ((sorted_perm l).mem_iff.1 hx)
theorem sorted_asc (ts : List (List UInt8)) (h : (ts.map el4).Pairwise (fun a b => Ins.le a b = true)) : ascB (ts.map elt4) = true := by
  unfold ascB ascTo
  rw [List.all_eq_true]
  intro j hj
  have hj' := List.mem_range.1 hj
  rw [List.length_map] at hj'
  have h1 : j + 1 < ts.length := by omega
  have hp := List.pairwise_iff_getElem.1 h j (j + 1) (by simp; omega) (by simpa using h1) (by omega)
  simp only [List.getElem_map, Ins.le, decide_eq_true_eq] at hp
  unfold lessAt
  rw [List.getD_eq_getElem?_getD, List.getElem?_map, List.getElem?_eq_getElem h1, List.getD_eq_getElem?_getD, List.getElem?_map, List.getElem?_eq_getElem (by omega)]
  show (!Op.bytesLess (⟨(el4 ts[j + 1]).toArray⟩ : ByteArray).toList (⟨(el4 ts[j]).toArray⟩ : ByteArray).toList) = true
  rw [ByteArray.toList_eq, ByteArray.toList_eq, bytesLess_eq, Bool.not_eq_true', decide_eq_false_iff_not]
  exact List.not_lt.2 hp
/-- the whole: the elements in order, listed -/
theorem ord_list (ss : List (List UInt8)) (hs : ∀ s ∈ ss, s.length ≤ 100) (hl : ss.length ≤ 20) :
    ∃ l : List Elt, Tl.lst (⟨(flatL (sorted (ss.map el4))).toArray⟩ : ByteArray).size [] ⟨(flatL (sorted (ss.map el4))).toArray⟩ = (l, 0) ∧ l.length = ss.length ∧ ascB l = true ∧
      (⟨(flatL (sorted (ss.map el4))).toArray⟩ : ByteArray).size ≤ 10000 := by
  have hmem : ∀ x ∈ ss.map el4, ∃ s, x = el4 s ∧ s.length ≤ 100 := by
    intro x hx; obtain ⟨s, h1, rfl⟩ := List.mem_map.1 hx; exact ⟨s, rfl, hs s h1⟩
  obtain ⟨ts, ht, hts⟩ := all_map el4 (fun s => s.length ≤ 100) (sorted (ss.map el4)) fun x hx => hmem x ((sorted_perm _).mem_iff.1 hx)
  have hlen : ts.length = ss.length := by
    have := congrArg List.length ht
    rw [sorted_length, List.length_map, List.length_map] at this; exact this.symm
  have hpw : (ts.map el4).Pairwise (fun a b => Ins.le a b = true) := by
    rw [← ht]
    exact List.pairwise_mergeSort (le := Ins.le) (fun a b c => Ins.le_trans a b c) Ins.le_total _
  rw [ht]
  have hb : ∀ x ∈ ts.map el4, 1 ≤ x.length ∧ x.length ≤ 110 := by
    intro x hx
    obtain ⟨s, h1, rfl⟩ := List.mem_map.1 hx
    have := hts s h1
    have := el4_len s (by omega); omega
  have hge := flat_ge (ts.map el4) fun x hx => (hb x hx).1
  have hle := flat_le 110 (ts.map el4) fun x hx => (hb x hx).2
  rw [List.length_map] at hge hle
  refine ⟨ts.map elt4, ?_, by rw [List.length_map, hlen], sorted_asc ts hpw, by rw [size_mk]; omega⟩
  rw [lst_flat ts _ [] (fun s h => by have := hts s h; omega) (by rw [size_mk]; omega)]
  rfl

end Go.Proofs.Ytmmoimemfdbfgaa
