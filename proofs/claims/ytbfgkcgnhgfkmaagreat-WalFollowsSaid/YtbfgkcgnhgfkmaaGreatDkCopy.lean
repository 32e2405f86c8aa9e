/-
  Copy of the program's disk.
-/
import Derived.Test.YtbfgkcgnhgfkmaaGreatDkCrash
import Derived.Test.YtbfgkcgnhgfkmaaGreatFactsB
import Derived.Test.YtbfgkcgnhgfkmaaGreatSlc
import Derived.WalkSpells
namespace Go.Proofs.YtbfgkcgnhgfkmaaGreat.Dk
open Go Go.Maps Go.RowKit Go.Proofs.YtbfgkcgnhgfkmaaGreat.Slc
set_option linter.unusedVariables false
set_option linter.unusedSimpArgs false

/-- the facts of the region that copies -/
def CpF (W : World) (g : Nat) (dv fv pv : Value) (s : St) (cs : List Cv) : Nat → (Nat → Value) → World → Prop
  | 0, x, _ => x 0 = ptr g
  | 1, x, _ => x 1 = ptr g
  | 2, x, _ => x 2 = .pointer (some ⟨g, 1, none⟩)
  | 3, x, _ => x 3 = dv
  | 4, x, w => MapV w (fun k => W.heap.size ≤ k ∧ k < w.heap.size) (x 4) s.dur
  | 5, x, _ => x 5 = ptr g
  | 6, x, _ => x 6 = ptr g
  | 7, x, _ => x 7 = .pointer (some ⟨g, 2, none⟩)
  | 8, x, _ => x 8 = fv
  | 9, x, w => MapV w (fun k => W.heap.size ≤ k ∧ k < w.heap.size ∧ x 4 ≠ .map (some k)) (x 9) s.files
  | 10, x, _ => x 10 = ptr g
  | 11, x, _ => x 11 = ptr g
  | 12, x, _ => x 12 = .pointer (some ⟨g, 3, none⟩)
  | 13, x, _ => x 13 = pv
  | 14, x, w => Own w W.heap.size 89 2 encV (x 14) cs
  | _, _, _ => True
theorem CpF.stable (W : World) (g : Nat) (dv fv pv : Value) (s : St) (cs : List Cv) (i : Nat) (x : Nat → Value) (w w' : World) (h : CpF W g dv fv pv s cs i x w) (hb : Below w.heap.size w w') : CpF W g dv fv pv s cs i x w' := by
  have hs := hb.size
  match i with
  | 0 | 1 | 2 | 3 | 5 | 6 | 7 | 8 | 10 | 11 | 12 | 13 => exact h
  | 4 => exact MapV.keep (F := fun k => W.heap.size ≤ k ∧ k < w.heap.size) h (fun k q => ⟨q.1, by omega⟩) fun k q hk => hb.block k hk
  | 9 => exact MapV.keep (F := fun k => W.heap.size ≤ k ∧ k < w.heap.size ∧ x 4 ≠ .map (some k)) h (fun k q => ⟨q.1, by omega, q.2.2⟩) fun k q hk => hb.block k hk
  | 14 => exact Own.below (t := 89) h hb
  | _ + 15 => exact trivial

theorem own_nomap {w : World} {v : Value} {cs : List Cv} {b : Nat} {l : Fs} (h : Own w 0 89 2 encV v cs) (hb : v.ownBlock = some b) (ho : OwnM w Tryz.prog 9 b l) : False := by
  rcases h.2 with ⟨rfl, _⟩ | ⟨gp, cap, cur, rfl, _, hgp, _⟩
  · cases hb
  · cases hb
    obtain ⟨D, ⟨es, cl, hm, _⟩, _⟩ := ho
    rw [hgp] at hm; cases hm
/-- behind Copy -/
theorem next_copy {w w1 w' : World} {g c : Nat} {s : St} {F R : Nat → Prop} {x4 x9 x14 : Value} {cs : List Cv} (h : RepP w g s F R) (hc : c = w.heap.size) (hW : Below w.heap.size w w1) (hcs : Cvs w R cs s.ops)
    (h4 : MapV w1 (fun k => w.heap.size < k ∧ k < w1.heap.size) x4 s.dur) (h9 : MapV w1 (fun k => w.heap.size < k ∧ k < w1.heap.size ∧ x4 ≠ .map (some k)) x9 s.files) (h14 : Own w1 (w.heap.size + 1) 89 2 encV x14 cs)
    (hg : w1.grownBy w' (some c)) (hc1 : c < w1.heap.size) (hdb : DB w' c s x4 x9 x14) : NextP w w' c s (fun _ => False) R := by
  subst hc
  have s1 := hW.size
  have s2 := hg.size
  have hk : ∀ k, k < w1.heap.size → k ≠ w.heap.size → w'.heap[k]? = w1.heap[k]? := fun k hk hn => hg.block k hk fun q => hn (Option.some.inj q)
  have h14' : Own w' 0 89 2 encV x14 cs := (h14.keep fun k q hl => hk k hl (by have := (h14.lt k q).1; omega)).mono (Nat.zero_le _)
  have e4 : MapV w' (fun k => x4 = .map (some k) ∨ R k) x4 s.dur := by
    rcases h4 with q | ⟨b, rfl, hb, ho⟩
    · exact .inl q
    · exact .inr ⟨b, rfl, .inl rfl, ho.kept hg fun q => by have := Option.some.inj q; omega⟩
  have e9 : MapV w' (fun k => k = w.heap.size ∨ x9 = .map (some k) ∨ x14.ownBlock = some k) x9 s.files := by
    rcases h9 with q | ⟨b, rfl, hb, ho⟩
    · exact .inl q
    · exact .inr ⟨b, rfl, .inr (.inl rfl), ho.kept hg fun q => by have := Option.some.inj q; omega⟩
  have b4 : ∀ k, x4 = .map (some k) → w.heap.size < k ∧ k < w1.heap.size := by
    intro k q
    rcases h4 with ⟨z, _⟩ | ⟨b, rfl, hb, ho⟩
    · rw [z] at q; cases q
    · cases q; exact hb
  have b9 : ∀ k, x9 = .map (some k) → (w.heap.size < k ∧ k < w1.heap.size) ∧ x4 ≠ .map (some k) := by
    intro k q
    rcases h9 with ⟨z, _⟩ | ⟨b, rfl, hb, ho⟩
    · rw [z] at q; cases q
    · cases q; exact ⟨⟨hb.1, hb.2.1⟩, hb.2.2⟩
  refine ⟨fun k => k = w.heap.size ∨ x9 = .map (some k) ∨ x14.ownBlock = some k, fun k => x4 = .map (some k) ∨ R k, ⟨h.ok, ⟨x4, x9, x14, cs, hdb, e4, e9, h14', ?_, fun k q => .inr (.inr q)⟩, .inl rfl, ?_, ?_, ?_⟩, ?_, ?_, ?_⟩
  · exact hcs.keep (fun k q => .inr q) fun k q hl => (hk k (by omega) (by omega)).trans (hW.block k hl)
  · rintro k (rfl | q | q)
    · omega
    · have := (b9 k q).1; omega
    · have := (h14.lt k q).2; omega
  · rintro k (q | q)
    · have := b4 k q; omega
    · have := h.Rlt k q; omega
  · rintro k (rfl | q | q) (z | z)
    · have := b4 _ z; omega
    · have := h.Rlt _ z; omega
    · exact (b9 k q).2 z
    · have := (b9 k q).1; have := h.Rlt k z; omega
    · rcases h4 with ⟨z', _⟩ | ⟨b, z', hb, ho⟩
      · rw [z] at z'; cases z'
      · rw [z] at z'; cases z'
        exact own_nomap (h14.mono (Nat.zero_le _)) q ho
    · have := (h14.lt k q).1; have := h.Rlt k z; omega
  · rintro k (rfl | q | q)
    · exact .inr (Nat.le_refl _)
    · have := (b9 k q).1; right; omega
    · have := (h14.lt k q).1; right; omega
  · rintro k (q | q)
    · have := b4 k q; right; omega
    · exact .inl q
  · exact Fr.below ((hW.grown hg s1 fun k hk => by cases hk; exact Nat.le_refl _))

theorem copy_end {w : World} {g : Nat} {cap : Int} {dv fv pv : Value} {off fused : Bool} {fuse : Int} (h : w.heap[g]? = some (blk cap dv fv pv off fused fuse)) (x y z : Value) :
    (((w.setCell ⟨g, 1, none⟩ x).setCell ⟨g, 2, none⟩ y).setCell ⟨g, 3, none⟩ z).heap[g]? = some (blk cap x y z off fused fuse) ∧
    w.grownBy (((w.setCell ⟨g, 1, none⟩ x).setCell ⟨g, 2, none⟩ y).setCell ⟨g, 3, none⟩ z) (some g) ∧
    w.frozen? ⟨g, 1, none⟩ = false ∧ (w.setCell ⟨g, 1, none⟩ x).frozen? ⟨g, 2, none⟩ = false ∧ ((w.setCell ⟨g, 1, none⟩ x).setCell ⟨g, 2, none⟩ y).frozen? ⟨g, 3, none⟩ = false := by
  have e1 : (w.setCell ⟨g, 1, none⟩ x).heap[g]? = some (blk cap x fv pv off fused fuse) := by unfold blk at h; rw [blk_set 1 _ h]; rfl
  have e2 : ((w.setCell ⟨g, 1, none⟩ x).setCell ⟨g, 2, none⟩ y).heap[g]? = some (blk cap x y pv off fused fuse) := by unfold blk at e1; rw [blk_set 2 _ e1]; rfl
  have e3 : (((w.setCell ⟨g, 1, none⟩ x).setCell ⟨g, 2, none⟩ y).setCell ⟨g, 3, none⟩ z).heap[g]? = some (blk cap x y z off fused fuse) := by unfold blk at e2; rw [blk_set 3 _ e2]; rfl
  exact ⟨e3, grown_trans (grown_trans (grown_set w g 1 x) (grown_set _ g 2 y)) (grown_set _ g 3 _),
    (blk_cells h).2.2.2.2.2.2.2 1, (blk_cells e1).2.2.2.2.2.2.2 2, (blk_cells e2).2.2.2.2.2.2.2 3⟩

end Go.Proofs.YtbfgkcgnhgfkmaaGreat.Dk
