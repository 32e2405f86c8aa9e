/-
  Maps whose keys are ints, as functions.
-/
import Derived.Test.YtpagoinnkknkfaaPbAuth
import Derived.Maps.Own
import Derived.Maps.OwnSet
import Derived.Maps.OwnOps
import Derived.Maps.Views
import Derived.Lib.SlKeysI
import Derived.Maps.Range
import Derived.DataShut
import Derived.Test.YtpagoinnkknkfaaShelf
namespace Go.Proofs.Ytpagoinnkknkfaa.Pb
open Go Go.RowKit Go.Shelf Go.Maps Go.Proofs.Ytpagoinnkknkfaa.Slc
set_option linter.unusedVariables false
set_option linter.unusedSimpArgs false

abbrev DW := DataW Unit
structure IsI {γ : Type} (ed : γ → DW) (D : DW) (f : Int → Option γ) : Prop where
  tidy : Tidy D
  at_ : ∀ (k : Int) z, D.atKey (.int .i64 k) z = match f k with | some d => ed d | none => z
  has_ : ∀ k : Int, Maps.has D (.int .i64 k) = (f k).isSome
theorem IsI.empty {γ : Type} (ed : γ → DW) : IsI ed (.map []) (fun _ => none) := ⟨tidy_empty, fun n z => rfl, fun n => rfl⟩
theorem ikey_ok (k : Int) : WideAt.IsKeyLit (.int .i64 k) := trivial
theorem ilit_ne {n m : Int} (h : m ≠ n) : Lit.int .i64 m ≠ Lit.int .i64 n := fun e => h (by injection e)
theorem IsI.put {γ : Type} {ed : γ → DW} {D : DW} {f : Int → Option γ} (h : IsI ed D f) (k : Int) (x : γ) : IsI ed (D.put (.int .i64 k) (ed x)) (fun j => if j = k then some x else f j) := by
  refine ⟨h.tidy.put (ikey_ok k) _, fun m z => ?_, fun m => ?_⟩
  · by_cases e : m = k
    · subst e; rw [atKey_put_same h.tidy.isMap (ikey_ok _)]; simp
    · rw [atKey_put_other (ilit_ne e), h.at_ m z]; simp [e]
  · by_cases e : m = k
    · subst e; rw [has_put_same h.tidy.isMap (ikey_ok _)]; simp
    · rw [has_put_other (ilit_ne e), h.has_ m]; simp [e]
/-- a block that is a map from ints -/
def OwnI {γ : Type} (w : World) (P : Program) (kt : TypeId) (R : Value → Option (DW × List MemPlace)) (ed : γ → DW) (b n : Nat) (f : Int → Option γ) : Prop := ∃ D : DW, w.ownsMap P kt R b n D ∧ IsI ed D f
section
variable {γ : Type} {P : Program} {kt e t : TypeId} {R : Value → Option (DW × List MemPlace)} {ed : γ → DW} {w : World} {b n : Nat} {f : Int → Option γ}
theorem OwnI.lt (h : OwnI w P kt R ed b n f) : b < w.heap.size := by obtain ⟨D, h, _⟩ := h; exact h.lt
theorem OwnI.kept {w' : World} {row : Option Nat} (h : OwnI w P kt R ed b n f) (hg : w.grownBy w' row) (hne : some b ≠ row) : OwnI w' P kt R ed b n f := by
  obtain ⟨D, h, hm⟩ := h; exact ⟨D, h.kept hg hne, hm⟩
theorem OwnI.block {w' : World} (h : OwnI w P kt R ed b n f) (hb : w'.heap[b]? = w.heap[b]?) : OwnI w' P kt R ed b n f := by
  obtain ⟨D, ⟨es, clock, hh, r⟩, hm⟩ := h
  exact ⟨D, ⟨es, clock, by rw [hb]; exact hh, r⟩, hm⟩
theorem OwnI.below {w' : World} (h : OwnI w P kt R ed b n f) (hb : Below w.heap.size w w') : OwnI w' P kt R ed b n f := h.block (hb.block b h.lt)
theorem OwnI.mono {n' : Nat} (h : OwnI w P kt R ed b n f) (hn : n ≤ n') : OwnI w P kt R ed b n' f := by
  obtain ⟨D, h, hm⟩ := h; exact ⟨D, h.mono hn, hm⟩
theorem OwnI.made (w : World) (P : Program) (kt : TypeId) (R : Value → Option (DW × List MemPlace)) (ed : γ → DW) : OwnI (w.alloc (.map #[] 0)) P kt R ed w.heap.size 0 (fun _ => none) := ⟨_, World.ownsMap_made w P kt R, IsI.empty ed⟩
/-- an int that is one -/
def I64 (k : Int) : Prop := -9223372036854775808 ≤ k ∧ k ≤ 9223372036854775807
theorem I64.wf {k : Int} (h : I64 k) : (Lit.int .i64 k).wf = true := by
  exact (Lit.wf_int_iff _ _).2 h
theorem OwnI.put (h : OwnI w P kt R ed b n f) (hk : P.underlying kt = some (.int .i64)) (ht : P.underlying t = some (.map kt e)) (hn : n < maxLen) {k : Int} (hw : I64 k) (x : γ) (v : Value) (hx : R v = some (ed x, [])) :
    ∃ w', (Instr.mapUpdate t (.map (some b)) (.int .i64 k) v).run P w = .ok () w' ∧ OwnI w' P kt R ed b (n + 1) (fun j => if j = k then some x else f j) ∧ w.grownBy w' (some b) := by
  obtain ⟨D, h, hm⟩ := h
  obtain ⟨w', h1, h2, h3⟩ := h.update (int_keyed hk) ht hn (keyOf_int_mk hk hw.wf) hx
  exact ⟨w', h1, ⟨_, h2, hm.put k x⟩, h3⟩
theorem OwnI.look (h : OwnI w P kt R ed b n f) (hk : P.underlying kt = some (.int .i64)) (ht : P.underlying t = some (.map kt e)) (ev : γ → Value) (z0 : γ) (hz : (zeroValue e).run P w = .ok (ev z0) w) (hR : ∀ x, R (ev x) = some (ed x, []))
    (hinv : ∀ v x ps, R v = some (ed x, ps) → v = ev x) {k : Int} (hw : I64 k) :
    (Instr.lookup t (.map (some b)) (.int .i64 k) false).run P w = .ok (ev ((f k).getD z0)) w ∧
    (Instr.lookup t (.map (some b)) (.int .i64 k) true).run P w = .ok (.tuple #[ev ((f k).getD z0), .bool (f k).isSome]) w := by
  obtain ⟨D, h, hm⟩ := h
  have hat : D.atKey (.int .i64 k) (ed z0) = ed ((f k).getD z0) := by rw [hm.at_]; cases f k <;> rfl
  obtain ⟨v, ps, h1, h2⟩ := h.lookup (int_keyed hk) ht hz (hR z0) (keyOf_int_mk hk hw.wf)
  obtain ⟨v', ps', h1', h2'⟩ := h.look_ok (int_keyed hk) ht hz (hR z0) (keyOf_int_mk hk hw.wf)
  rw [hm.has_] at h1'
  rw [hat] at h2 h2'
  exact ⟨by rw [h1, hinv _ _ _ h2], by rw [h1', hinv _ _ _ h2']⟩
theorem keys_perm {D : DW} (h : w.ownsMap P kt R b n D) (hm : IsI ed D f) (hk : P.underlying kt = some (.int .i64)) {ks : List Int} (hnd : ks.Nodup) (hmem : ∀ k, k ∈ ks ↔ (f k).isSome = true) : ks.Perm (intKeys D) := by
  obtain ⟨es, hD, hpw, _⟩ := h.entries (int_keyed hk)
  obtain ⟨es', hD', hko⟩ := h.keysOf
  obtain rfl : es = es' := by rw [hD] at hD'; simpa using hD'
  subst hD
  exact perm_intKeys hpw (fun p hp => by obtain ⟨v, hv⟩ := hko p hp; obtain ⟨x, _, hx, _⟩ := Maps.keyOf_i64 hk hv; exact ⟨x, hx⟩) hnd (fun x => by rw [hmem, hm.has_])
end
end Go.Proofs.Ytpagoinnkknkfaa.Pb
