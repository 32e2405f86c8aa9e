/-
  append to a slice that the call owns, from whatever source.
-/
/-
  append to a fresh empty slice: nothing that was there turns.
-/
/-
  Slices of whatever elements, each of z cells: read (Rd), owned (Own).
-/
/-
  Slices of whatever elements: one cell of an owned one is stored to.
-/
import Derived.Test.YtpagoinnkknkfaaTail
import Derived.Maps.AppendAt
import Derived.Laws.AppendOwnNone
import Derived.OwnWalk
import Derived.Laws.OwnMore
import Derived.Deep.Upon
import Derived.Laws.Slices
import Derived.OneCell
import Derived.Laws.Rows
namespace Go.Proofs.Ytpagoinnkknkfaa
open Go Go.RowKit

/-- a value that is appended: m elements, their cells news -/
inductive SrcV (w : World) (size : Nat) : Value → Nat → List Value → Prop
  | nil : SrcV w size (.slice none 0 0) 0 []
  | ro (ad : Addr) (m c : Nat) (news : List Value) (hl : news.length = m * size) (hnews : ∀ (j : Nat) u, news[j]? = some u → w.cell? (ad.add j) = some u) (h1 : ∀ u ∈ news, u.oneCell' = true) : SrcV w size (.slice (some ad) m c) m news
theorem SrcV.cells {w w' : World} {size : Nat} {v : Value} {m : Nat} {news : List Value} (h : SrcV w size v m news) (hc : ∀ a u, w.cell? a = some u → w'.cell? a = some u) : SrcV w' size v m news := by
  cases h with
  | nil => exact .nil
  | ro ad m c news hl hnews h1 => exact .ro ad m c news hl (fun j u hj => hc _ _ (hnews j u hj)) h1
theorem SrcV.below {w w' : World} {size : Nat} {v : Value} {m : Nat} {news : List Value} (h : SrcV w size v m news) (hb : Below w.heap.size w w') : SrcV w' size v m news :=
  h.cells fun a _ hu => (hb.cell (p := a) (World.block_lt_of_cell? w a hu)).trans hu

/-- what is known behind an append -/
structure Apd (w : World) (base : Nat) (e : TypeId) (size : Nat) (v : Value) (n m : Nat) (xs news : List Value) (v' : Value) (w' : World) : Prop where
  own : w'.ownsRow base e size v' (n + m) (xs ++ news)
  grown : w.grownBy w' v.ownBlock
  nil : v' = .slice none 0 0 ↔ v = .slice none 0 0 ∧ m = 0
  blk : v'.ownBlock = v.ownBlock ∨ v'.ownBlock = some w.heap.size

theorem wpList_append_any {P : Program} {w : World} {ops : Array Oper} {rest : List Oper} {o : Oper} {a : Act} {Q : Exit → Act → World → Prop} (hgd : o.guard = none) (s x : Operand) (t : TypeId)
    (ho : o.op = .call { callee := .builtin .append, args := #[s, x], argTypes := #[t, t] })
    (base : Nat) (e : TypeId) (i : TypeInfo) (z : Value) (size bytes : Nat) (ht : P.underlying t = some (.slice e)) (hi : P.info? e = some i) (hz : i.zero = some z)
    (hsize : i.size = size) (hby : i.bytes = bytes) (hzs : z.cells.size = size) (hsz : 0 < size)
    (v : Value) (n : Nat) (xs : List Value) (hs : a.eval s = v) (hown : w.ownsRow base e size v n xs)
    (xv : Value) (m : Nat) (news : List Value) (hx : a.eval x = xv) (hsrc : SrcV w size xv m news)
    (h63 : n + m ≤ maxLen) (hbytes : (n + m) * bytes ≤ 140737488355328) (hbase : base ≤ w.heap.size)
    (h : ∀ v' w', Apd w base e size v n m xs news v' w' → wpList P ops Q rest (a.put o.dst v') w') : wpList P ops Q (o :: rest) a w := by
  cases hsrc with
  | nil =>
    refine wpList_append_own_none hgd s x t ho base e i size ht hi v n xs hs hown hx (h v w ⟨by simpa using hown, ⟨rfl, rfl, rfl, Nat.le_refl _, fun _ _ _ => rfl⟩, by simp, .inl rfl⟩)
  | ro ad m c news hl hnews h1 =>
    refine wpList_plain hgd fun K hK => ?_
    obtain ⟨v', w', hr, h2, h3, h4, h5⟩ := run_append_own_at (P := P) w base t o.type e i z size bytes ht hi hz hsize hby hzs hsz v n xs hown ad m c news hl hnews h1 h63 hbytes hbase
    unfold Oper.wp execOp
    simp only [ho, resolve, invoke, builtin, Sem.run_bind, Sem.run_pure, Result.andThen_ok, List.map_toArray, List.map_cons, List.map_nil, hs, hx, hr]
    exact hK _ _ (h v' w' ⟨h2, h3, h4, h5⟩)

end Go.Proofs.Ytpagoinnkknkfaa

namespace Go.Proofs.Ytpagoinnkknkfaa.Slc
open Go Go.RowKit
set_option linter.unusedVariables false

section
variable {P : Program} {w : World}
theorem run_append_fresh (base : Nat) (t ty e : TypeId) (i : TypeInfo) (z : Value) (size bytes : Nat) (ht : P.underlying t = some (.slice e)) (hi : P.info? e = some i) (hz : i.zero = some z)
    (hsize : i.size = size) (hby : i.bytes = bytes) (hzs : z.cells.size = size) (hsz : 0 < size) (g : Nat) (hg : w.heap[g]? = some (.cells #[] e (0, 0))) (hbg : base ≤ g) (hbase : base ≤ w.heap.size)
    (xv : Value) (m : Nat) (news : List Value) (hsrc : SrcV w size xv m news) (h63 : m ≤ maxLen) (hbytes : m * bytes ≤ 140737488355328) :
    ∃ v' w', (Builtin.append_ #[t, t] ty #[.slice (some ⟨g, 0, none⟩) 0 0, xv]).run P w = .ok v' w' ∧ w'.ownsRow base e size v' m news ∧ Below w.heap.size w w' ∧ (v'.ownBlock = some g ∨ v'.ownBlock = some w.heap.size) := by
  subst hsize hby
  have hown : w.ownsRow base e i.size (.slice (some ⟨g, 0, none⟩) 0 0) 0 [] := ⟨by simp, .inr ⟨g, 0, #[], rfl, hbg, hg, Nat.le_refl _, Nat.zero_le _, by simp, by simp⟩⟩
  cases hsrc with
  | nil =>
    refine ⟨.slice (some ⟨g, 0, none⟩) 0 0, w, ?_, hown, Below.refl _ _, .inl rfl⟩
    simp [Builtin.append_, run_underlying ht, sizeOf, typeInfo, hi, Builtin.lenOf, Builtin.firstCells, loadCells, loadCellsFrom, go_sem]
  | ro ad m c news hl hnews h1 =>
    by_cases hm : m = 0
    · subst hm
      have hn : news = [] := List.eq_nil_of_length_eq_zero (by simpa using hl)
      subst hn
      have hr := run_append_room (P := P) w t ty e i ht hi g 0 0 #[] hg ad 0 c [] hl hnews h1 (Nat.le_refl _) (by simp)
      refine ⟨_, _, hr, ?_, ⟨rfl, rfl, rfl, by simp, fun k hk => ?_⟩, .inl rfl⟩
      · refine ⟨by simp, .inr ⟨g, 0, _, rfl, hbg, setRow_heap w g #[] _ e _ hg, Nat.le_refl _, Nat.zero_le _, by simp, by simp⟩⟩
      · by_cases hkg : k = g
        · subst hkg
          rw [setRow_heap w k #[] _ e _ hg, hg]; simp
        · exact setRow_other w g k _ hkg
    · have hsmall : m ≤ 9223372036854775807 := by simp only [maxLen] at h63; omega
      have hr := run_append_grow (P := P) w t ty e i z ht hi hz ⟨g, 0, none⟩ 0 0 [] (by simp) (fun j v hj => by simp at hj) ad m c news hl hnews (by omega) (by omega) (growslice_fits (by omega) (by simpa using hbytes))
      simp only [Nat.zero_add, Array.empty_append] at hr
      refine ⟨_, _, hr, ?_, ⟨rfl, rfl, rfl, by simp, fun k hk => heap_alloc_old w.drew _ hk⟩, .inr rfl⟩
      have hge := grownCap_ge w m 0 e
      have hcm : grownCap w m 0 e ≤ maxLen := grownCap_le_maxLen w m 0 e h63
      refine ⟨hl, .inr ⟨w.heap.size, _, _, rfl, hbase, heap_alloc_new w.drew _, hge, hcm, ?_, ?_⟩⟩
      · simp only [Array.size_append, List.size_toArray, size_zeroCells, hzs, hl, ← Nat.add_mul]
        congr 1; omega
      · simp [← hl]
theorem wpList_append_fresh {ops : Array Oper} {rest : List Oper} {o : Oper} {a : Act} {Q : Exit → Act → World → Prop} (hgd : o.guard = none) (s x : Operand) (t : TypeId)
    (ho : o.op = .call { callee := .builtin .append, args := #[s, x], argTypes := #[t, t] })
    (base : Nat) (e : TypeId) (i : TypeInfo) (z : Value) (size bytes : Nat) (ht : P.underlying t = some (.slice e)) (hi : P.info? e = some i) (hz : i.zero = some z)
    (hsize : i.size = size) (hby : i.bytes = bytes) (hzs : z.cells.size = size) (hsz : 0 < size) (g : Nat) (hs : a.eval s = .slice (some ⟨g, 0, none⟩) 0 0) (hg : w.heap[g]? = some (.cells #[] e (0, 0))) (hbg : base ≤ g) (hbase : base ≤ w.heap.size)
    (xv : Value) (m : Nat) (news : List Value) (hx : a.eval x = xv) (hsrc : SrcV w size xv m news) (h63 : m ≤ maxLen) (hbytes : m * bytes ≤ 140737488355328)
    (h : ∀ v' w', w'.ownsRow base e size v' m news → Below w.heap.size w w' → (v'.ownBlock = some g ∨ v'.ownBlock = some w.heap.size) → wpList P ops Q rest (a.put o.dst v') w') : wpList P ops Q (o :: rest) a w := by
  refine wpList_plain hgd fun K hK => ?_
  obtain ⟨v', w', hr, h2, h3, h4⟩ := run_append_fresh (P := P) base t o.type e i z size bytes ht hi hz hsize hby hzs hsz g hg hbg hbase xv m news hsrc h63 hbytes
  unfold Oper.wp execOp
  simp only [ho, resolve, invoke, builtin, Sem.run_bind, Sem.run_pure, Result.andThen_ok, List.map_toArray, List.map_cons, List.map_nil, hs, hx, hr]
  exact hK _ _ (h v' w' h2 h3 h4)
end

end Go.Proofs.Ytpagoinnkknkfaa.Slc

namespace Go.Proofs.Ytpagoinnkknkfaa.Slc
open Go Go.RowKit
set_option linter.unusedVariables false

structure Enc {α : Type} (z : Nat) (enc : α → List Value) : Prop where
  len : ∀ x, (enc x).length = z
  one : ∀ x, ∀ u ∈ enc x, u.oneCell' = true
  pos : 0 < z

section
variable {α : Type} {P : Program} {t T : TypeId} {z : Nat} {enc : α → List Value}
theorem flat_len (E : Enc z enc) (l : List α) : (l.flatMap enc).length = l.length * z := by
  induction l with
  | nil => simp
  | cons x l ih => rw [List.flatMap_cons, List.length_append, ih, E.len, List.length_cons, Nat.succ_mul]; omega
theorem flat_at (E : Enc z enc) (l : List α) : ∀ (k j : Nat) (hk : k < l.length) (_ : j < z), (l.flatMap enc)[k * z + j]? = (enc l[k])[j]? := by
  induction l with
  | nil => intro k j hk; simp at hk
  | cons x l ih =>
    intro k j hk hj
    have hx := E.len x
    rw [List.flatMap_cons]
    cases k with
    | zero => rw [List.getElem?_append_left (by omega)]; simp
    | succ k =>
      have e : (k + 1) * z + j = z + (k * z + j) := by rw [Nat.succ_mul]; omega
      rw [e, List.getElem?_append_right (by omega), hx, Nat.add_sub_cancel_left, ih k j (by simpa using hk) hj]
      rfl
theorem flat_take (E : Enc z enc) : ∀ (l : List α) (k : Nat), (l.take k).flatMap enc = (l.flatMap enc).take (k * z)
  | [], k => by simp
  | x :: l, 0 => by simp
  | x :: l, k + 1 => by
    rw [List.take_succ_cons, List.flatMap_cons, List.flatMap_cons, flat_take E l k, Nat.succ_mul, Nat.add_comm, ← E.len x, List.take_length_add_append]
theorem flat_drop (E : Enc z enc) : ∀ (l : List α) (k : Nat), (l.drop k).flatMap enc = (l.flatMap enc).drop (k * z)
  | [], k => by simp
  | x :: l, 0 => by simp
  | x :: l, k + 1 => by
    rw [List.drop_succ_cons, List.flatMap_cons, flat_drop E l k, Nat.succ_mul, Nat.add_comm, ← E.len x, List.drop_length_add_append]
theorem one_mem (E : Enc z enc) (l : List α) : ∀ u ∈ l.flatMap enc, u.oneCell' = true := by
  intro u hu
  obtain ⟨x, _, hx⟩ := List.mem_flatMap.1 hu
  exact E.one x u hx

/-- a slice that can be read -/
def Rd (w : World) (enc : α → List Value) (v : Value) (l : List α) : Prop :=
  (v = .slice none 0 0 ∧ l = []) ∨ ∃ b o c, v = .slice (some ⟨b, o, none⟩) l.length c ∧ b < w.heap.size ∧ l.length ≤ c ∧ ∀ j u, (l.flatMap enc)[j]? = some u → w.cell? ⟨b, o + j, none⟩ = some u
theorem Rd.nil (w : World) : Rd w enc (.slice none 0 0) ([] : List α) := .inl ⟨rfl, rfl⟩
theorem Rd.keep {w w' : World} {v : Value} {l : List α} (h : Rd w enc v l) (hs : w.heap.size ≤ w'.heap.size) (hb : ∀ k, v.ownBlock = some k → k < w.heap.size → w'.heap[k]? = w.heap[k]?) : Rd w' enc v l := by
  rcases h with h | ⟨b, o, c, rfl, hlt, hc, hcell⟩
  · exact .inl h
  · refine .inr ⟨b, o, c, rfl, by omega, hc, fun j u hj => ?_⟩
    rw [← hcell j u hj]
    have := hb b rfl hlt
    unfold World.cell?
    rw [this]
theorem Rd.below {w w' : World} {v : Value} {l : List α} (h : Rd w enc v l) (hb : Below w.heap.size w w') : Rd w' enc v l := h.keep hb.size fun k _ hk => hb.block k hk
theorem Rd.lt {w : World} {v : Value} {l : List α} (h : Rd w enc v l) : ∀ k, v.ownBlock = some k → k < w.heap.size := by
  rcases h with ⟨rfl, _⟩ | ⟨b, o, c, rfl, hlt, _⟩
  · intro k hk; cases hk
  · intro k hk; cases hk; exact hlt
theorem Rd.form {w : World} {v : Value} {l : List α} (h : Rd w enc v l) : ∃ ad c, v = .slice ad l.length c ∧ l.length ≤ c := by
  rcases h with ⟨rfl, rfl⟩ | ⟨b, o, c, rfl, _, hc, _⟩
  · exact ⟨_, _, rfl, Nat.le_refl _⟩
  · exact ⟨_, _, rfl, hc⟩
theorem Rd.cells {w : World} {v : Value} {l : List α} (E : Enc z enc) (h : Rd w enc v l) (hp : 0 < l.length) : ∃ b o c, v = .slice (some ⟨b, o, none⟩) l.length c ∧ l.length ≤ c ∧ b < w.heap.size ∧
    ∀ W : World, (∀ k, v.ownBlock = some k → W.heap[k]? = w.heap[k]?) → ∀ k (hk : k < l.length) j u, j < z → (enc l[k])[j]? = some u → W.cell? ⟨b, o + (k * z + j), none⟩ = some u := by
  rcases h with ⟨_, rfl⟩ | ⟨b, o, c, rfl, hlt, hc, hcell⟩
  · simp at hp
  · refine ⟨b, o, c, rfl, hc, hlt, fun W hW k hk j u hj hu => ?_⟩
    have e := hW b rfl
    unfold World.cell?
    rw [e]
    exact hcell (k * z + j) u (by rw [flat_at E l k j hk hj]; exact hu)
theorem add_at (b o j : Nat) : (⟨b, o, none⟩ : Addr).add j = ⟨b, o + j, none⟩ := by
  unfold Addr.add; split
  · simp [*]
  · rfl
theorem Rd.src {w : World} {v : Value} {l : List α} (E : Enc z enc) (h : Rd w enc v l) : SrcV w z v l.length (l.flatMap enc) := by
  rcases h with ⟨rfl, rfl⟩ | ⟨b, o, c, rfl, hlt, hc, hcell⟩
  · exact .nil
  · exact .ro _ _ _ _ (flat_len E l) (fun j u hj => by rw [add_at]; exact hcell j u hj) (one_mem E l)
theorem Rd.upto {w : World} {v : Value} {l : List α} (E : Enc z enc) (h : Rd w enc v l) (hT : P.underlying T = some (.slice (P.elem T))) (hz : ∀ W, (sizeOf (P.elem T)).run P W = .ok z W) (k : Nat) (hk : k ≤ l.length) :
    ∃ u, (∀ W, (Instr.slice T v none (some (.int .i64 k)) none).run P W = .ok u W) ∧ Rd w enc u (l.take k) := by
  rcases h with ⟨rfl, rfl⟩ | ⟨b, o, c, rfl, hlt, hc, hcell⟩
  · obtain rfl : k = 0 := by simpa using hk
    refine ⟨.slice none 0 0, fun W => ?_, .inl ⟨rfl, rfl⟩⟩
    rw [run_slice_h W _ _ _ _ hT _ _ (by omega) (by omega)]
    simp [hz, sliced, Result.andThen]
  · have e : (l.take k).length = k := by rw [List.length_take]; omega
    refine ⟨.slice (some ⟨b, o, none⟩) k c, fun W => ?_, .inr ⟨b, o, c, by rw [e], hlt, by omega, fun j u hj => ?_⟩⟩
    · rw [run_slice_h W _ _ _ _ hT _ _ (by omega) (by omega)]
      simp [hz, sliced, Result.andThen, add_at]
    · rw [flat_take E] at hj
      refine hcell j u ?_
      have hjk : j < k * z := by
        rcases Nat.lt_or_ge j (k * z) with q | q
        · exact q
        · rw [List.getElem?_take_eq_none q] at hj; cases hj
      rwa [List.getElem?_take_of_lt hjk] at hj
theorem Rd.rest {w : World} {v : Value} {l : List α} (E : Enc z enc) (h : Rd w enc v l) (hT : P.underlying T = some (.slice (P.elem T))) (hz : ∀ W, (sizeOf (P.elem T)).run P W = .ok z W) (k : Nat) (hk : k ≤ l.length) :
    ∃ u, (∀ W, (Instr.slice T v (some (.int .i64 k)) none none).run P W = .ok u W) ∧ Rd w enc u (l.drop k) := by
  rcases h with ⟨rfl, rfl⟩ | ⟨b, o, c, rfl, hlt, hc, hcell⟩
  · obtain rfl : k = 0 := by simpa using hk
    refine ⟨.slice none 0 0, fun W => ?_, .inl ⟨rfl, rfl⟩⟩
    rw [run_slice_l W _ _ _ _ hT _ _ (by omega) (by simp)]
    simp [hz, sliced, Result.andThen]
  · have e : (l.drop k).length = l.length - k := List.length_drop
    by_cases hck : c = k
    · have hnil : l.drop k = [] := List.drop_eq_nil_of_le (by omega)
      refine ⟨.slice (some ⟨b, o, none⟩) (l.length - k) (c - k), fun W => ?_, .inr ⟨b, o, c - k, by rw [e], hlt, by omega, fun j u hj => ?_⟩⟩
      · rw [run_slice_l W _ _ _ _ hT _ _ (by omega) (by omega)]
        simp [hz, sliced, Result.andThen, hck]
      · rw [hnil] at hj; simp at hj
    · refine ⟨.slice (some ⟨b, o + k * z, none⟩) (l.length - k) (c - k), fun W => ?_, .inr ⟨b, o + k * z, c - k, by rw [e], hlt, by omega, fun j u hj => ?_⟩⟩
      · rw [run_slice_l W _ _ _ _ hT _ _ (by omega) (by omega)]
        simp [hz, sliced, Result.andThen, hck, add_at]
      · rw [flat_drop E, List.getElem?_drop] at hj
        have := hcell _ u hj
        rwa [← Nat.add_assoc] at this

/-- a slice that the call owns -/
def Own (w : World) (B : Nat) (t : TypeId) (z : Nat) (enc : α → List Value) (v : Value) (l : List α) : Prop := w.ownsRow B t z v l.length (l.flatMap enc)
theorem Own.nil (w : World) (B : Nat) : Own w B t z enc (.slice none 0 0) ([] : List α) := World.ownsRow_nil _ _ _ _
theorem Own.mono {w : World} {B B' : Nat} {v : Value} {l : List α} (h : Own w B t z enc v l) (hB : B' ≤ B) : Own w B' t z enc v l := by
  refine ⟨h.1, ?_⟩
  rcases h.2 with hn | ⟨g, cap, cur, hv, hb, rest⟩
  · exact .inl hn
  · exact .inr ⟨g, cap, cur, hv, Nat.le_trans hB hb, rest⟩
theorem Own.rd {w : World} {B : Nat} {v : Value} {l : List α} (h : Own w B t z enc v l) : Rd w enc v l := by
  rcases h.2 with ⟨rfl, hn⟩ | ⟨g, cap, cur, rfl, hb, hg, hc, _⟩
  · exact .inl ⟨rfl, List.eq_nil_of_length_eq_zero hn⟩
  · have hlt : g < w.heap.size := by
      rcases Nat.lt_or_ge g w.heap.size with q | q
      · exact q
      · rw [Array.getElem?_eq_none q] at hg; cases hg
    refine .inr ⟨g, 0, cap, rfl, hlt, hc, fun j u hj => ?_⟩
    have := World.ownsRow.cells h (g := g) rfl j u hj
    rwa [add_at] at this
theorem Own.keep {w w' : World} {B : Nat} {v : Value} {l : List α} (h : Own w B t z enc v l) (hb : ∀ k, v.ownBlock = some k → k < w.heap.size → w'.heap[k]? = w.heap[k]?) : Own w' B t z enc v l := by
  refine ⟨h.1, ?_⟩
  rcases h.2 with hn | ⟨g, cap, cur, rfl, hB, hg, rest⟩
  · exact .inl hn
  · have hlt : g < w.heap.size := by
      rcases Nat.lt_or_ge g w.heap.size with q | q
      · exact q
      · rw [Array.getElem?_eq_none q] at hg; cases hg
    exact .inr ⟨g, cap, cur, rfl, hB, by rw [hb g rfl hlt]; exact hg, rest⟩
theorem Own.below {w w' : World} {B : Nat} {v : Value} {l : List α} (h : Own w B t z enc v l) (hb : Below w.heap.size w w') : Own w' B t z enc v l := h.keep fun k _ hk => hb.block k hk
theorem Own.lt {w : World} {B : Nat} {v : Value} {l : List α} (h : Own w B t z enc v l) : ∀ k, v.ownBlock = some k → B ≤ k ∧ k < w.heap.size := World.ownsRow.lt h
/-- behind an append -/
theorem Own.apd {w w' : World} {B : Nat} {v v' : Value} {l m : List α} {a b : Nat} {xs news : List Value} (h : Own w B t z enc v l) (hx : xs = l.flatMap enc) (hy : news = m.flatMap enc) (ha : a = l.length) (hb : b = m.length) (h' : Apd w B t z v a b xs news v' w') : Own w' B t z enc v' (l ++ m) := by
  subst hx hy ha hb
  unfold Own
  rw [List.length_append, List.flatMap_append]
  exact h'.own
end

end Go.Proofs.Ytpagoinnkknkfaa.Slc

namespace Go.Proofs.Ytpagoinnkknkfaa.Slc
open Go Go.RowKit
set_option linter.unusedVariables false

section
variable {α : Type} {P : Program} {t T : TypeId} {z : Nat} {enc : α → List Value}
theorem flat_set (E : Enc z enc) (y : α) (x : Value) (j : Nat) (hj : j < z) : ∀ (l : List α) (k : Nat) (hk : k < l.length) (_ : enc y = (enc l[k]).set j x), (l.set k y).flatMap enc = (l.flatMap enc).set (k * z + j) x
  | [], k, hk, _ => by simp at hk
  | a :: l, 0, hk, he => by
    have ha := E.len a
    rw [List.set_cons_zero, List.flatMap_cons, List.flatMap_cons, Nat.zero_mul, Nat.zero_add, List.set_append_left _ _ (by omega), he]; rfl
  | a :: l, k + 1, hk, he => by
    have ha := E.len a
    have e : (k + 1) * z + j = z + (k * z + j) := by rw [Nat.succ_mul]; omega
    rw [List.set_cons_succ, List.flatMap_cons, List.flatMap_cons, flat_set E y x j hj l k (by simpa using hk) (by simpa using he), e, List.set_append_right _ _ (by omega), ha]
    congr 2; omega
theorem take_set (l : List Value) (n k : Nat) (x : Value) : (l.set k x).take n = (l.take n).set k x := by
  apply List.ext_getElem?
  intro i
  rw [List.getElem?_take, List.getElem?_set, List.getElem?_set, List.getElem?_take]
  by_cases h1 : i < n
  · simp only [h1, if_true, List.length_take]
    by_cases h2 : k = i
    · subst h2
      simp only [if_true]
      by_cases h3 : k < l.length
      · rw [if_pos h3, if_pos (by omega)]
      · rw [if_neg h3, if_neg (by omega)]
    · simp [h2]
  · simp only [h1, if_false, List.length_take]
    by_cases h2 : k = i
    · subst h2; simp; omega
    · simp [h2]
/-- the cell that is stored to -/
theorem Own.set1 {w : World} {B : Nat} {v : Value} {l : List α} (E : Enc z enc) (h : Own w B t z enc v l) (k j : Nat) (hk : k < l.length) (hj : j < z) (x : Value) (y : α) (he : enc y = (enc l[k]).set j x) :
    ∃ g cap, v = .slice (some ⟨g, 0, none⟩) l.length cap ∧ B ≤ g ∧ g < w.heap.size ∧ (∀ i, w.frozen? ⟨g, i, none⟩ = false) ∧ Own (w.setCell ⟨g, k * z + j, none⟩ x) B t z enc v (l.set k y) ∧ w.grownBy (w.setCell ⟨g, k * z + j, none⟩ x) (some g) := by
  rcases h.2 with ⟨_, hn⟩ | ⟨g, cap, cur, rfl, hb, hg, hc, hm, hcs, htake⟩
  · omega
  · refine ⟨g, cap, rfl, hb, lt_of_block hg, fun i => ?_, ?_, ⟨rfl, rfl, rfl, by simp, fun k' _ hk' => heap_setCell_other w _ k' x fun e => hk' (by rw [e])⟩⟩
    · simp [World.frozen?, hg]
    · unfold Own World.ownsRow
      rw [List.length_set]
      refine ⟨by rw [flat_len E, List.length_set], .inr ⟨g, cap, cur.setIfInBounds (k * z + j) x, rfl, hb, heap_setCell_same w g _ cur t x hg, hc, hm, by simpa using hcs, ?_⟩⟩
      rw [Array.toList_setIfInBounds, take_set, htake, flat_set E y x j hj l k hk he]
/-- the cells of an owned slice -/
theorem Own.cell {w : World} {B g n c : Nat} {l : List α} (E : Enc z enc) (h : Own w B t z enc (.slice (some ⟨g, 0, none⟩) n c) l) (k : Nat) (hk : k < l.length) (j : Nat) (hj : j < z) (u : Value) (hu : (enc l[k])[j]? = some u) : w.cell? ⟨g, k * z + j, none⟩ = some u := by
  have := World.ownsRow.cells h (g := g) rfl (k * z + j) u (by rw [flat_at E l k j hk hj]; exact hu)
  rw [add_at, Nat.zero_add] at this
  exact this
theorem Own.src {w : World} {B : Nat} {v : Value} {l : List α} (E : Enc z enc) (h : Own w B t z enc v l) : SrcV w z v l.length (l.flatMap enc) := h.rd.src E
theorem Own.of {w : World} {B : Nat} {v : Value} {l : List α} {n : Nat} {xs : List Value} (h : w.ownsRow B t z v n xs) (hn : n = l.length) (hx : xs = l.flatMap enc) : Own w B t z enc v l := by subst hn hx; exact h
theorem Own.below' {w w' : World} {B : Nat} {v : Value} {l : List α} (h : Own w B t z enc v l) (hb : Below w.heap.size w w') : Own w' B t z enc v l := h.below hb
end

end Go.Proofs.Ytpagoinnkknkfaa.Slc
