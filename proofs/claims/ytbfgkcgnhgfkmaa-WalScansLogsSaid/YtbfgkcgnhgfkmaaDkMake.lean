/-
  make: a change is made and noted.
-/
import Derived.Test.YtbfgkcgnhgfkmaaDkRepP
import Derived.Test.YtbfgkcgnhgfkmaaFactsB
import Derived.Shelf.SlMaps.Clone
import Derived.Deep.DeepCutAuto
namespace Go.Proofs.Ytbfgkcgnhgfkmaa.Dk
open Go Go.Maps Go.RowKit Go.Proofs.Ytbfgkcgnhgfkmaa.Slc
set_option linter.unusedVariables false
set_option linter.unusedSimpArgs false

theorem info_ch : (Try.prog.info? 85).map (fun i => (i.zero, i.size, i.bytes)) = some (some (.agg #[.nilFunc, .bool false]), 2, 16) := by kernel_rfl
/-- the facts of the region that calls the change's function -/
def MkF (b3 g : Nat) (cf mv : Value) : Nat → Value → World → Prop
  | 0, v, _ => v = .pointer (some ⟨b3, 0, none⟩)
  | 1, v, _ => v = cf
  | 2, v, _ => v = ptr g
  | 3, v, _ => v = ptr g
  | 4, v, _ => v = .pointer (some ⟨g, 2, none⟩)
  | 5, v, _ => v = mv
  | _, _, _ => True
theorem MkF.stable (b3 g : Nat) (cf mv : Value) (i : Nat) (v : Value) (w w' : World) (h : MkF b3 g cf mv i v w) (_ : Below w.heap.size w w') : MkF b3 g cf mv i v w' := by
  match i with
  | 0 | 1 | 2 | 3 | 4 | 5 => exact h
  | _ + 6 => exact trivial

/-- the facts of the region that notes the change -/
def NtF (g : Nat) (pv cf : Value) (ab : Bool) (n2 : Nat) (l : List Cv) : Nat → Value → World → Prop
  | 0, v, _ => v = ptr g
  | 1, v, _ => v = ptr g
  | 2, v, _ => v = ptr g
  | 3, v, _ => v = .pointer (some ⟨g, 3, none⟩)
  | 4, v, _ => v = pv
  | 5, v, _ => v = .agg #[cf, .bool ab]
  | 6, v, w => ∃ x : Nat, v = .slice (some ⟨x, 0, none⟩) 1 1 ∧ w.heap[x]? = some (.cells #[cf, .bool ab] 85)
  | 7, v, w => Own w 0 85 2 encV v l ∧ (v.ownBlock = pv.ownBlock ∨ ∃ x, v.ownBlock = some x ∧ n2 ≤ x)
  | 8, v, _ => v = ptr g
  | 9, v, _ => v = .pointer (some ⟨g, 3, none⟩)
  | _, _, _ => True
theorem NtF.stable (g : Nat) (pv cf : Value) (ab : Bool) (n2 : Nat) (l : List Cv) (i : Nat) (v : Value) (w w' : World) (h : NtF g pv cf ab n2 l i v w) (hb : Below w.heap.size w w') : NtF g pv cf ab n2 l i v w' := by
  match i with
  | 0 | 1 | 2 | 3 | 4 | 5 | 8 | 9 => exact h
  | 6 =>
    obtain ⟨x, h1, h2⟩ := h
    exact ⟨x, h1, by rw [hb.block x (lt_of_block h2)]; exact h2⟩
  | 7 => exact ⟨Own.below (t := 85) h.1 hb, h.2⟩
  | _ + 10 => exact trivial
def ntCons : Nat → Option Nat
  | 6 => some 7
  | _ => none
theorem NtF.big (g : Nat) (pv cf : Value) (ab : Bool) (n2 : Nat) (l : List Cv) (b j : Nat) (v : Value) (w w' : World) (hb : (b == 7) = true) (hc : ntCons j ≠ some b) (hne : j ≠ b) (hj : j < 10) (h : NtF g pv cf ab n2 l j v w) : NtF g pv cf ab n2 l j v w' := by
  obtain rfl : b = 7 := by simpa using hb
  match j with
  | 0 | 1 | 2 | 3 | 4 | 5 | 8 | 9 => exact h
  | 6 => exact absurd rfl hc
  | 7 => exact absurd rfl hne
  | _ + 10 => omega
/-- the worlds of that region: the slice is owned as it was until it has been written to -/
def NtC (w2 : World) (pv : Value) (cs : List Cv) (d : Nat → Bool) (w : World) : Prop := w2.grownBy w pv.ownBlock ∧ (d 7 = false → Own w 0 85 2 encV pv cs)
theorem grown_of_below {w w' : World} (h : Below w.heap.size w w') (r : Option Nat) : w.grownBy w' r := ⟨h.os, h.tape, h.output, h.size, fun k hk _ => h.block k hk⟩
theorem NtC.step {w2 w w' : World} {pv : Value} {cs : List Cv} {d : Nat → Bool} {i : Nat} (h : NtC w2 pv cs d w) (hi : i ≠ 7) (hb : Below w.heap.size w w') : NtC w2 pv cs (mark d i) w' :=
  ⟨grown_trans h.1 (grown_of_below hb _), fun q => (h.2 (by unfold mark at q; rwa [if_neg (Ne.symm hi)] at q)).below hb⟩
theorem NtC.app {w2 w w' : World} {pv : Value} {cs : List Cv} {d : Nat → Bool} (h : NtC w2 pv cs d w) (hg : w.grownBy w' pv.ownBlock) : NtC w2 pv cs (mark d 7) w' :=
  ⟨grown_trans h.1 hg, fun q => by simp [mark] at q⟩
theorem NtC.app' {w2 w w' : World} {pv : Value} {cs : List Cv} {d : Nat → Bool} {i : Nat} (h : NtC w2 pv cs d w) (hi : (i == 7) = true) (hg : w.grownBy w' pv.ownBlock) : NtC w2 pv cs (mark d i) w' := by
  obtain rfl : i = 7 := by simpa using hi
  exact h.app hg
theorem src_ch {w : World} {x : Nat} {c : Cv} (h : w.heap[x]? = some (.cells #[c.fn, .bool c.ap] 85)) : SrcV w 2 (.slice (some ⟨x, 0, none⟩) 1 1) 1 ([c].flatMap encV) := by
  refine .at _ _ _ _ rfl ?_ (one_mem encV_ok [c])
  intro j u hj
  rw [add_at]
  match j, hj with
  | 0, hj => simp [encV] at hj; subst hj; simp [World.cell?, h]
  | 1, hj => simp [encV] at hj; subst hj; simp [World.cell?, h]
/-- what is known behind make -/
def MkPost (w : World) (g b : Nat) (s : St) (dv pv : Value) (cs : List Cv) (c : Cv) (ch : Ch) (w' : World) : Prop :=
  ∃ pv', DB w' g (s.add ch) dv (.map (some b)) pv' ∧ OwnM w' Try.prog 9 b (ap s.files ch) ∧ Own w' 0 85 2 encV pv' (cs ++ [c]) ∧
    (pv'.ownBlock = pv.ownBlock ∨ ∃ y, pv'.ownBlock = some y ∧ w.heap.size ≤ y) ∧ Fr (fun k => k = g ∨ k = b ∨ pv.ownBlock = some k) w w'
theorem mk_end {w w1 w2 w3 w4 : World} {g b : Nat} {s : St} {dv pv pv' : Value} {cs : List Cv} {c : Cv} {ch : Ch} (hgb : g ≠ b) (hgl : g < w.heap.size) (hbl : b < w.heap.size) (hpl : ∀ k, pv.ownBlock = some k → k < w.heap.size) (hpb : ∀ k, pv.ownBlock = some k → k ≠ b ∧ k ≠ g)
    (h01 : Below w.heap.size w w1) (h12 : w1.grownBy w2 (some b)) (h23 : w2.grownBy w3 pv.ownBlock) (h34 : (w3.setCell ⟨g, 3, none⟩ pv').grownBy w4 (some g))
    (hdb : DB w4 g (s.add ch) dv (.map (some b)) pv') (ho : OwnM w2 Try.prog 9 b (ap s.files ch)) (hown : Own w3 0 85 2 encV pv' (cs ++ [c])) (hblk : pv'.ownBlock = pv.ownBlock ∨ ∃ y, pv'.ownBlock = some y ∧ w2.heap.size ≤ y) : MkPost w g b s dv pv cs c ch w4 := by
  have s1 := h01.size
  have s2 := h12.size
  have s3 := h23.size
  have g3 := grown_trans (grown_set w3 g 3 pv') h34
  have hpg : ∀ k, pv'.ownBlock = some k → k ≠ g := by
    intro k hk
    rcases hblk with q | ⟨y, q, hy⟩
    · exact (hpb k (by rw [← q]; exact hk)).2
    · rw [q] at hk; cases hk; omega
  refine ⟨pv', hdb, ?_, ?_, ?_, ?_⟩
  · refine (ho.kept h23 fun q => (hpb b q.symm).1 rfl).kept g3 fun q => hgb (Option.some.inj q).symm
  · exact hown.keep fun k hk hlt => g3.block k hlt fun q => hpg k hk (Option.some.inj q)
  · rcases hblk with q | ⟨y, q, hy⟩
    · exact .inl q
    · exact .inr ⟨y, q, by omega⟩
  · refine ⟨g3.os.trans (h23.os.trans (h12.os.trans h01.os)), g3.tape.trans (h23.tape.trans (h12.tape.trans h01.tape)), g3.output.trans (h23.output.trans (h12.output.trans h01.output)), ?_, fun k hk hn => ?_⟩
    · exact Nat.le_trans s1 (Nat.le_trans s2 (Nat.le_trans s3 g3.size))
    · have n1 : k ≠ g := fun q => hn (.inl q)
      have n2 : k ≠ b := fun q => hn (.inr (.inl q))
      have n3 : pv.ownBlock ≠ some k := fun q => hn (.inr (.inr q))
      rw [g3.block k (by omega) fun q => n1 (Option.some.inj q), h23.block k (by omega) fun q => n3 q.symm, h12.block k (by omega) fun q => n2 (Option.some.inj q), h01.block k hk]
theorem und_chs : Try.prog.underlying 55 = some (.slice 85) := by kernel_rfl

end Go.Proofs.Ytbfgkcgnhgfkmaa.Dk
