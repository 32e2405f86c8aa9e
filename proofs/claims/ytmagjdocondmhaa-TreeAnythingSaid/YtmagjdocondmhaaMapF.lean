/-
  Maps that the call owns, as functions of their keys: keys of whatever kind (ints, strings), elements by a reader.
-/
import Derived.Test.YtmagjdocondmhaaTail
import Derived.Maps.Own
import Derived.Maps.OwnSet
import Derived.Maps.OwnOps
import Derived.Maps.Views
import Derived.Maps.StringElems
import Derived.Maps.RangeWalk
import Derived.StringKeys
import Derived.DataShut
namespace Go.Proofs.Ytmagjdocondmhaa.Mp
open Go Go.RowKit Go.Maps
set_option linter.unusedVariables false
set_option linter.unusedSimpArgs false

abbrev DW := DataW Unit
/-- a kind of keys -/
structure Ky (P : Program) (kt : TypeId) (K : Type) where
  lit : K → Lit
  val : K → Value
  ok : K → Prop
  keyed : Keyed P kt
  key : ∀ k, WideAt.IsKeyLit (lit k)
  inj : ∀ a b, lit a = lit b → a = b
  of : ∀ k, ok k → keyOf P kt (val k) = some (lit k)
def I64 (k : Int) : Prop := -9223372036854775808 ≤ k ∧ k ≤ 9223372036854775807
def kyInt {P : Program} {kt : TypeId} (h : P.underlying kt = some (.int .i64)) : Ky P kt Int where
  lit k := .int .i64 k
  val k := .int .i64 k
  ok := I64
  keyed := int_keyed h
  key k := trivial
  inj a b e := by injection e
  of k hk := keyOf_int_mk h ((Lit.wf_int_iff _ _).2 hk)
def kyStr {P : Program} {kt : TypeId} (h : P.underlying kt = some .string) : Ky P kt (List UInt8) where
  lit k := .string k
  val k := .string ⟨k.toArray⟩
  ok k := k.length ≤ maxLen
  keyed := string_keyed h
  key k := trivial
  inj a b e := by injection e
  of k hk := WideMaps.keyOf_string_mk h (by show k.toArray.size ≤ _; simpa using hk)
section
variable {P : Program} {kt e t : TypeId} {K : Type}
structure IsF (Y : Ky P kt K) {γ : Type} (ed : γ → DW) (D : DW) (f : K → Option γ) : Prop where
  tidy : Tidy D
  at_ : ∀ (k : K) z, D.atKey (Y.lit k) z = match f k with | some d => ed d | none => z
  has_ : ∀ k : K, Maps.has D (Y.lit k) = (f k).isSome
variable {γ : Type} {ed : γ → DW} {Y : Ky P kt K}
theorem IsF.empty (Y : Ky P kt K) (ed : γ → DW) : IsF Y ed (.map []) (fun _ => none) := ⟨tidy_empty, fun n z => rfl, fun n => rfl⟩
theorem IsF.put [DecidableEq K] {D : DW} {f : K → Option γ} (h : IsF Y ed D f) (k : K) (x : γ) : IsF Y ed (D.put (Y.lit k) (ed x)) (fun j => if j = k then some x else f j) := by
  refine ⟨h.tidy.put (Y.key k) _, fun m z => ?_, fun m => ?_⟩
  · by_cases q : m = k
    · subst q; rw [atKey_put_same h.tidy.isMap (Y.key _)]; simp
    · rw [atKey_put_other (fun q2 => q (Y.inj _ _ q2)), h.at_ m z]; simp [q]
  · by_cases q : m = k
    · subst q; rw [has_put_same h.tidy.isMap (Y.key _)]; simp
    · rw [has_put_other (fun q2 => q (Y.inj _ _ q2)), h.has_ m]; simp [q]
/-- a block that is a map -/
def OwnF (w : World) (Y : Ky P kt K) (R : Value → Option (DW × List MemPlace)) (ed : γ → DW) (b n : Nat) (f : K → Option γ) : Prop := ∃ D : DW, w.ownsMap P kt R b n D ∧ IsF Y ed D f
variable {R : Value → Option (DW × List MemPlace)} {w : World} {b n : Nat} {f : K → Option γ}
theorem OwnF.lt (h : OwnF w Y R ed b n f) : b < w.heap.size := by obtain ⟨D, h, _⟩ := h; exact h.lt
theorem OwnF.kept {w' : World} {row : Option Nat} (h : OwnF w Y R ed b n f) (hg : w.grownBy w' row) (hne : some b ≠ row) : OwnF w' Y R ed b n f := by
  obtain ⟨D, h, hm⟩ := h; exact ⟨D, h.kept hg hne, hm⟩
theorem OwnF.block {w' : World} (h : OwnF w Y R ed b n f) (hb : w'.heap[b]? = w.heap[b]?) : OwnF w' Y R ed b n f := by
  obtain ⟨D, ⟨es, clock, hh, r⟩, hm⟩ := h
  exact ⟨D, ⟨es, clock, by rw [hb]; exact hh, r⟩, hm⟩
theorem OwnF.below {w' : World} (h : OwnF w Y R ed b n f) (hb : Below w.heap.size w w') : OwnF w' Y R ed b n f := h.block (hb.block b h.lt)
theorem OwnF.mono {n' : Nat} (h : OwnF w Y R ed b n f) (hn : n ≤ n') : OwnF w Y R ed b n' f := by
  obtain ⟨D, h, hm⟩ := h; exact ⟨D, h.mono hn, hm⟩
theorem OwnF.made (w : World) (Y : Ky P kt K) (R : Value → Option (DW × List MemPlace)) (ed : γ → DW) : OwnF (w.alloc (.map #[] 0)) Y R ed w.heap.size 0 (fun _ => none) := ⟨_, World.ownsMap_made w P kt R, IsF.empty Y ed⟩
theorem OwnF.put [DecidableEq K] (h : OwnF w Y R ed b n f) (ht : P.underlying t = some (.map kt e)) (hn : n < maxLen) {k : K} (hw : Y.ok k) (x : γ) (v : Value) (hx : R v = some (ed x, [])) :
    ∃ w', (Instr.mapUpdate t (.map (some b)) (Y.val k) v).run P w = .ok () w' ∧ OwnF w' Y R ed b (n + 1) (fun j => if j = k then some x else f j) ∧ w.grownBy w' (some b) := by
  obtain ⟨D, h, hm⟩ := h
  obtain ⟨w', h1, h2, h3⟩ := h.update Y.keyed ht hn (Y.of k hw) hx
  exact ⟨w', h1, ⟨_, h2, hm.put k x⟩, h3⟩
theorem OwnF.look (h : OwnF w Y R ed b n f) (ht : P.underlying t = some (.map kt e)) (ev : γ → Value) (z0 : γ) (hz : (zeroValue e).run P w = .ok (ev z0) w) (hR : ∀ x, R (ev x) = some (ed x, []))
    (hinv : ∀ v x ps, R v = some (ed x, ps) → v = ev x) {k : K} (hw : Y.ok k) :
    (Instr.lookup t (.map (some b)) (Y.val k) false).run P w = .ok (ev ((f k).getD z0)) w ∧
    (Instr.lookup t (.map (some b)) (Y.val k) true).run P w = .ok (.tuple #[ev ((f k).getD z0), .bool (f k).isSome]) w := by
  obtain ⟨D, h, hm⟩ := h
  have hat : D.atKey (Y.lit k) (ed z0) = ed ((f k).getD z0) := by rw [hm.at_]; cases f k <;> rfl
  obtain ⟨v, ps, h1, h2⟩ := h.lookup Y.keyed ht hz (hR z0) (Y.of k hw)
  obtain ⟨v', ps', h1', h2'⟩ := h.look_ok Y.keyed ht hz (hR z0) (Y.of k hw)
  rw [hm.has_] at h1'
  rw [hat] at h2 h2'
  exact ⟨by rw [h1, hinv _ _ _ h2], by rw [h1', hinv _ _ _ h2']⟩
end
section
variable {P : Program} {kt e t : TypeId} {γ : Type} {ed : γ → DW} {R : Value → Option (DW × List MemPlace)} {w : World} {b n : Nat}
theorem OwnF.putI {hk : P.underlying kt = some (.int .i64)} {f : Int → Option γ} (h : OwnF w (kyInt hk) R ed b n f) (ht : P.underlying t = some (.map kt e)) (hn : n < maxLen) {k : Int} (hw : I64 k) (x : γ) (v : Value) (hx : R v = some (ed x, [])) :
    ∃ w', (Instr.mapUpdate t (.map (some b)) (.int .i64 k) v).run P w = .ok () w' ∧ OwnF w' (kyInt hk) R ed b (n + 1) (fun j => if j = k then some x else f j) ∧ w.grownBy w' (some b) := h.put ht hn (k := k) hw x v hx
theorem OwnF.putS {hk : P.underlying kt = some .string} {f : List UInt8 → Option γ} (h : OwnF w (kyStr hk) R ed b n f) (ht : P.underlying t = some (.map kt e)) (hn : n < maxLen) {k : List UInt8} (hw : k.length ≤ maxLen) (x : γ) (v : Value) (hx : R v = some (ed x, [])) :
    ∃ w', (Instr.mapUpdate t (.map (some b)) (.string ⟨k.toArray⟩) v).run P w = .ok () w' ∧ OwnF w' (kyStr hk) R ed b (n + 1) (fun j => if j = k then some x else f j) ∧ w.grownBy w' (some b) := h.put ht hn (k := k) hw x v hx
theorem OwnF.lookI {hk : P.underlying kt = some (.int .i64)} {f : Int → Option γ} (h : OwnF w (kyInt hk) R ed b n f) (ht : P.underlying t = some (.map kt e)) (ev : γ → Value) (z0 : γ) (hz : (zeroValue e).run P w = .ok (ev z0) w) (hR : ∀ x, R (ev x) = some (ed x, []))
    (hinv : ∀ v x ps, R v = some (ed x, ps) → v = ev x) {k : Int} (hw : I64 k) :
    (Instr.lookup t (.map (some b)) (.int .i64 k) false).run P w = .ok (ev ((f k).getD z0)) w ∧
    (Instr.lookup t (.map (some b)) (.int .i64 k) true).run P w = .ok (.tuple #[ev ((f k).getD z0), .bool (f k).isSome]) w := h.look ht ev z0 hz hR hinv (k := k) hw
theorem OwnF.lookS {hk : P.underlying kt = some .string} {f : List UInt8 → Option γ} (h : OwnF w (kyStr hk) R ed b n f) (ht : P.underlying t = some (.map kt e)) (ev : γ → Value) (z0 : γ) (hz : (zeroValue e).run P w = .ok (ev z0) w) (hR : ∀ x, R (ev x) = some (ed x, []))
    (hinv : ∀ v x ps, R v = some (ed x, ps) → v = ev x) {k : List UInt8} (hw : k.length ≤ maxLen) :
    (Instr.lookup t (.map (some b)) (.string ⟨k.toArray⟩) false).run P w = .ok (ev ((f k).getD z0)) w ∧
    (Instr.lookup t (.map (some b)) (.string ⟨k.toArray⟩) true).run P w = .ok (.tuple #[ev ((f k).getD z0), .bool (f k).isSome]) w := h.look ht ev z0 hz hR hinv (k := k) hw
end
/-- elements that are bools, ints -/
abbrev edB (b : Bool) : DW := .lit (.bool b)
abbrev edI (x : Int) : DW := .lit (.int .i64 x)
def rdB : Value → Option (DW × List MemPlace)
  | .bool b => some (edB b, [])
  | _ => none
def rdI : Value → Option (DW × List MemPlace)
  | .int .i64 x => some (edI x, [])
  | _ => none
theorem rdB_mk (b : Bool) : rdB (.bool b) = some (edB b, []) := rfl
theorem rdI_mk (x : Int) : rdI (.int .i64 x) = some (edI x, []) := rfl
theorem rdB_inv (v : Value) (b : Bool) (ps : List MemPlace) (h : rdB v = some (edB b, ps)) : v = .bool b := by
  unfold rdB at h
  split at h
  · simp only [Option.some.injEq, Prod.mk.injEq, DataW.lit.injEq, Lit.bool.injEq] at h; rw [h.1]
  · cases h
theorem rdI_inv (v : Value) (b : Int) (ps : List MemPlace) (h : rdI v = some (edI b, ps)) : v = .int .i64 b := by
  unfold rdI at h
  split at h
  · simp only [Option.some.injEq, Prod.mk.injEq, DataW.lit.injEq, Lit.int.injEq, true_and] at h; rw [h.1]
  · cases h
/-- elements that are slices -/
structure Sg where
  ad : Option (Nat × Nat)
  n : Nat
  c : Nat
def Sg.val (s : Sg) : Value := .slice (s.ad.map fun p => ⟨p.1, p.2, none⟩) s.n s.c
def edS (s : Sg) : DW := match s.ad with
  | none => .agg [.lit (.int .i64 s.n), .lit (.int .i64 s.c)]
  | some p => .agg [.lit (.int .i64 p.1), .lit (.int .i64 p.2), .lit (.int .i64 s.n), .lit (.int .i64 s.c)]
def rdS : Value → Option (DW × List MemPlace)
  | .slice none n c => some (edS ⟨none, n, c⟩, [])
  | .slice (some ⟨b, o, none⟩) n c => some (edS ⟨some (b, o), n, c⟩, [])
  | _ => none
theorem rdS_mk (s : Sg) : rdS s.val = some (edS s, []) := by
  obtain ⟨ad, n, c⟩ := s
  cases ad <;> rfl
theorem edS_inj {s s' : Sg} (h : edS s = edS s') : s = s' := by
  obtain ⟨ad, n, c⟩ := s
  obtain ⟨ad', n', c'⟩ := s'
  unfold edS at h
  cases ad <;> cases ad' <;> simp at h
  · obtain ⟨h1, h2⟩ := h; congr 1 <;> omega
  · rename_i p q
    obtain ⟨p1, p2⟩ := p
    obtain ⟨q1, q2⟩ := q
    simp at h
    obtain ⟨h1, h2, h3, h4⟩ := h
    obtain rfl : p1 = q1 := by omega
    obtain rfl : p2 = q2 := by omega
    congr 1 <;> omega
theorem rdS_inv (v : Value) (s : Sg) (ps : List MemPlace) (h : rdS v = some (edS s, ps)) : v = s.val := by
  unfold rdS at h
  split at h
  · simp only [Option.some.injEq, Prod.mk.injEq] at h
    rw [← edS_inj h.1]; rfl
  · simp only [Option.some.injEq, Prod.mk.injEq] at h
    rw [← edS_inj h.1]; rfl
  · cases h
end Go.Proofs.Ytmagjdocondmhaa.Mp
