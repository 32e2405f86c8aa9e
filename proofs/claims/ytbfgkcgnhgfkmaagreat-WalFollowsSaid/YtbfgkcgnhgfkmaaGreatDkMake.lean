/-
  make: a change is made and noted.
-/
/-
  make, for an appending change. (Written by wip/gen/gen_make.py.)
-/
/-
  make, for a renaming and a removing change. (Written by wip/gen/gen_make.py.)
-/
import Derived.Test.YtbfgkcgnhgfkmaaGreatDkRepP
import Derived.Test.YtbfgkcgnhgfkmaaGreatFactsB
import Derived.Shelf.SlMaps.Clone
import Derived.Deep.DeepCutAuto
namespace Go.Proofs.YtbfgkcgnhgfkmaaGreat.Dk
open Go Go.Maps Go.RowKit Go.Proofs.YtbfgkcgnhgfkmaaGreat.Slc
set_option linter.unusedVariables false
set_option linter.unusedSimpArgs false

theorem info_ch : (Tryz.prog.info? 89).map (fun i => (i.zero, i.size, i.bytes)) = some (some (.agg #[.nilFunc, .bool false]), 2, 16) := by kernel_rfl
/-- the facts of the region that calls the change's function -/
def MkF (b3 g : Nat) (cf mv : Value) : Nat → Value → World → Prop
  | 0, v, _ => v = .pointer (some ⟨b3, 0, none⟩)
  | 1, v, _ => v = cf
  | 2, v, _ => v = ptr g
  | 3, v, _ => v = ptr g
  | 4, v, _ => v = .pointer (some ⟨g, 2, none⟩)
  | 5, v, _ => v = mv
  | _, _, _ => True
theorem MkF.stable (b3 g : Nat) (cf mv : Value) (i : Nat) (v : Value) (w w' : World) (h : MkF b3 g cf mv i v w) (_ : Below w.heap.size w w') : MkF b3 g cf mv i v w' := by
  match i with
  | 0 | 1 | 2 | 3 | 4 | 5 => exact h
  | _ + 6 => exact trivial

/-- the facts of the region that notes the change -/
def NtF (g : Nat) (pv cf : Value) (ab : Bool) (n2 : Nat) (l : List Cv) : Nat → Value → World → Prop
  | 0, v, _ => v = ptr g
  | 1, v, _ => v = ptr g
  | 2, v, _ => v = ptr g
  | 3, v, _ => v = .pointer (some ⟨g, 3, none⟩)
  | 4, v, _ => v = pv
  | 5, v, _ => v = .agg #[cf, .bool ab]
  | 6, v, w => ∃ x : Nat, v = .slice (some ⟨x, 0, none⟩) 1 1 ∧ w.heap[x]? = some (.cells #[cf, .bool ab] 89)
  | 7, v, w => Own w 0 89 2 encV v l ∧ (v.ownBlock = pv.ownBlock ∨ ∃ x, v.ownBlock = some x ∧ n2 ≤ x)
  | 8, v, _ => v = ptr g
  | 9, v, _ => v = .pointer (some ⟨g, 3, none⟩)
  | _, _, _ => True
theorem NtF.stable (g : Nat) (pv cf : Value) (ab : Bool) (n2 : Nat) (l : List Cv) (i : Nat) (v : Value) (w w' : World) (h : NtF g pv cf ab n2 l i v w) (hb : Below w.heap.size w w') : NtF g pv cf ab n2 l i v w' := by
  match i with
  | 0 | 1 | 2 | 3 | 4 | 5 | 8 | 9 => exact h
  | 6 =>
    obtain ⟨x, h1, h2⟩ := h
    exact ⟨x, h1, by rw [hb.block x (lt_of_block h2)]; exact h2⟩
  | 7 => exact ⟨Own.below (t := 89) h.1 hb, h.2⟩
  | _ + 10 => exact trivial
def ntCons : Nat → Option Nat
  | 6 => some 7
  | _ => none
theorem NtF.big (g : Nat) (pv cf : Value) (ab : Bool) (n2 : Nat) (l : List Cv) (b j : Nat) (v : Value) (w w' : World) (hb : (b == 7) = true) (hc : ntCons j ≠ some b) (hne : j ≠ b) (hj : j < 10) (h : NtF g pv cf ab n2 l j v w) : NtF g pv cf ab n2 l j v w' := by
  obtain rfl : b = 7 := by simpa using hb
  match j with
  | 0 | 1 | 2 | 3 | 4 | 5 | 8 | 9 => exact h
  | 6 => exact absurd rfl hc
  | 7 => exact absurd rfl hne
  | _ + 10 => omega
/-- the worlds of that region: the slice is owned as it was until it has been written to -/
def NtC (w2 : World) (pv : Value) (cs : List Cv) (d : Nat → Bool) (w : World) : Prop := w2.grownBy w pv.ownBlock ∧ (d 7 = false → Own w 0 89 2 encV pv cs)
theorem grown_of_below {w w' : World} (h : Below w.heap.size w w') (r : Option Nat) : w.grownBy w' r := ⟨h.os, h.tape, h.output, h.size, fun k hk _ => h.block k hk⟩
theorem NtC.step {w2 w w' : World} {pv : Value} {cs : List Cv} {d : Nat → Bool} {i : Nat} (h : NtC w2 pv cs d w) (hi : i ≠ 7) (hb : Below w.heap.size w w') : NtC w2 pv cs (mark d i) w' :=
  ⟨grown_trans h.1 (grown_of_below hb _), fun q => (h.2 (by unfold mark at q; rwa [if_neg (Ne.symm hi)] at q)).below hb⟩
theorem NtC.app {w2 w w' : World} {pv : Value} {cs : List Cv} {d : Nat → Bool} (h : NtC w2 pv cs d w) (hg : w.grownBy w' pv.ownBlock) : NtC w2 pv cs (mark d 7) w' :=
  ⟨grown_trans h.1 hg, fun q => by simp [mark] at q⟩
theorem NtC.app' {w2 w w' : World} {pv : Value} {cs : List Cv} {d : Nat → Bool} {i : Nat} (h : NtC w2 pv cs d w) (hi : (i == 7) = true) (hg : w.grownBy w' pv.ownBlock) : NtC w2 pv cs (mark d i) w' := by
  obtain rfl : i = 7 := by simpa using hi
  exact h.app hg
theorem src_ch {w : World} {x : Nat} {c : Cv} (h : w.heap[x]? = some (.cells #[c.fn, .bool c.ap] 89)) : SrcV w 2 (.slice (some ⟨x, 0, none⟩) 1 1) 1 ([c].flatMap encV) := by
  refine .ro _ _ _ _ rfl ?_ (one_mem encV_ok [c])
  intro j u hj
  rw [add_at]
  match j, hj with
  | 0, hj => simp [encV] at hj; subst hj; simp [World.cell?, h]
  | 1, hj => simp [encV] at hj; subst hj; simp [World.cell?, h]
/-- what is known behind make -/
def MkPost (w : World) (g b : Nat) (s : St) (dv pv : Value) (cs : List Cv) (c : Cv) (ch : Ch) (w' : World) : Prop :=
  ∃ pv', DB w' g (s.add ch) dv (.map (some b)) pv' ∧ OwnM w' Tryz.prog 9 b (ap s.files ch) ∧ Own w' 0 89 2 encV pv' (cs ++ [c]) ∧
    (pv'.ownBlock = pv.ownBlock ∨ ∃ y, pv'.ownBlock = some y ∧ w.heap.size ≤ y) ∧ Fr (fun k => k = g ∨ k = b ∨ pv.ownBlock = some k) w w'
theorem mk_end {w w1 w2 w3 w4 : World} {g b : Nat} {s : St} {dv pv pv' : Value} {cs : List Cv} {c : Cv} {ch : Ch} (hgb : g ≠ b) (hgl : g < w.heap.size) (hbl : b < w.heap.size) (hpl : ∀ k, pv.ownBlock = some k → k < w.heap.size) (hpb : ∀ k, pv.ownBlock = some k → k ≠ b ∧ k ≠ g)
    (h01 : Below w.heap.size w w1) (h12 : w1.grownBy w2 (some b)) (h23 : w2.grownBy w3 pv.ownBlock) (h34 : (w3.setCell ⟨g, 3, none⟩ pv').grownBy w4 (some g))
    (hdb : DB w4 g (s.add ch) dv (.map (some b)) pv') (ho : OwnM w2 Tryz.prog 9 b (ap s.files ch)) (hown : Own w3 0 89 2 encV pv' (cs ++ [c])) (hblk : pv'.ownBlock = pv.ownBlock ∨ ∃ y, pv'.ownBlock = some y ∧ w2.heap.size ≤ y) : MkPost w g b s dv pv cs c ch w4 := by
  have s1 := h01.size
  have s2 := h12.size
  have s3 := h23.size
  have g3 := grown_trans (grown_set w3 g 3 pv') h34
  have hpg : ∀ k, pv'.ownBlock = some k → k ≠ g := by
    intro k hk
    rcases hblk with q | ⟨y, q, hy⟩
    · exact (hpb k (by rw [← q]; exact hk)).2
    · rw [q] at hk; cases hk; omega
  refine ⟨pv', hdb, ?_, ?_, ?_, ?_⟩
  · refine (ho.kept h23 fun q => (hpb b q.symm).1 rfl).kept g3 fun q => hgb (Option.some.inj q).symm
  · exact hown.keep fun k hk hlt => g3.block k hlt fun q => hpg k hk (Option.some.inj q)
  · rcases hblk with q | ⟨y, q, hy⟩
    · exact .inl q
    · exact .inr ⟨y, q, by omega⟩
  · refine ⟨g3.os.trans (h23.os.trans (h12.os.trans h01.os)), g3.tape.trans (h23.tape.trans (h12.tape.trans h01.tape)), g3.output.trans (h23.output.trans (h12.output.trans h01.output)), ?_, fun k hk hn => ?_⟩
    · exact Nat.le_trans s1 (Nat.le_trans s2 (Nat.le_trans s3 g3.size))
    · have n1 : k ≠ g := fun q => hn (.inl q)
      have n2 : k ≠ b := fun q => hn (.inr (.inl q))
      have n3 : pv.ownBlock ≠ some k := fun q => hn (.inr (.inr q))
      rw [g3.block k (by omega) fun q => n1 (Option.some.inj q), h23.block k (by omega) fun q => n3 q.symm, h12.block k (by omega) fun q => n2 (Option.some.inj q), h01.block k hk]
theorem und_chs : Tryz.prog.underlying 58 = some (.slice 89) := by kernel_rfl

end Go.Proofs.YtbfgkcgnhgfkmaaGreat.Dk

namespace Go.Proofs.YtbfgkcgnhgfkmaaGreat.Dk
open Go Go.Maps Go.RowKit Go.Proofs.YtbfgkcgnhgfkmaaGreat.Slc
set_option linter.unusedVariables false
set_option linter.unusedSimpArgs false

set_option maxHeartbeats 2000000 in
set_option maxRecDepth 10000 in
theorem make_app (w : World) (g b : Nat) (s : St) (dv fv pv : Value) (cs : List Cv) (bd bn : Nat) (n d : B) (hdb : DB w g s dv fv pv) (hfv : (fv = .map none ∧ s.files = [] ∧ b = w.heap.size + 1) ∨ (fv = .map (some b) ∧ OwnM w Tryz.prog 9 b s.files)) (hd : boxS w bd d) (hn : boxS w bn n) (hl : s.files.length ≤ 1000) (hnl : n.length ≤ 100) (ht : total s.files + d.length ≤ 9223372036854775807) (hpv : Own w 0 89 2 encV pv cs) (hcl : cs.length ≤ 100000) (hlf : s.left ≤ 9223372036854775807) :
    Calls Tryz.prog 63 #[.pointer (some ⟨g, 0, none⟩), .agg #[(Cv.app bd bn).fn, .bool true]] w fun e w' => e = .returned (.int .i64 0) ∧ MkPost w g b s dv pv cs (Cv.app bd bn) (.app n d) w' := by
  obtain ⟨fuse, hb0, hfu⟩ := hdb
  have hgl := lt_of_block hb0
  have hpvg : ∀ k, pv.ownBlock = some k → k ≠ g := by
    intro k hk q
    rcases hpv.2 with ⟨rfl, _⟩ | ⟨gp, cap, cur, rfl, _, hgp, _⟩
    · cases hk
    · cases hk; subst q
      unfold blk at hb0; rw [hgp] at hb0
      simp at hb0
  have hpl : ∀ k, pv.ownBlock = some k → k < w.heap.size := fun k hk => (hpv.lt k hk).2
  have hnotg : ∀ k (x : B), boxS w k x → k ≠ g := by
    intro k x hx q; subst q
    unfold boxS at hx; unfold blk at hb0; rw [hx] at hb0; cases hb0
  have hkeep : ∀ wx : World, w.grownBy wx (some g) → (boxS wx bd d ∧ boxS wx bn n) ∧ Own wx 0 89 2 encV pv cs ∧
      (∀ w', MkPost wx g b s dv pv cs (Cv.app bd bn) (.app n d) w' → MkPost w g b s dv pv cs (Cv.app bd bn) (.app n d) w') := by
    intro wx hgw
    have hne : ∀ k, k < w.heap.size → k ≠ g → wx.heap[k]? = w.heap[k]? := fun k hk hne => hgw.block k hk fun q => hne (Option.some.inj q)
    refine ⟨⟨(hne bd hd.lt (hnotg _ _ hd)).trans hd, (hne bn hn.lt (hnotg _ _ hn)).trans hn⟩, hpv.keep fun k hk hlt => hne k hlt (hpvg k hk), ?_⟩
    rintro w' ⟨pv', h1, h2, h3, h4, h5⟩
    refine ⟨pv', h1, h2, h3, ?_, ?_⟩
    · rcases h4 with q | ⟨y, q, hy⟩
      · exact .inl q
      · exact .inr ⟨y, q, Nat.le_trans hgw.size hy⟩
    · exact (Fr.grown (F := fun k => k = g ∨ k = b ∨ pv.ownBlock = some k) hgw (fun k hk _ => .inl (Option.some.inj hk).symm)).trans h5 fun k hk => .inl hk
  have hbel1 : Below w.heap.size w (w.alloc (.cells #[(Cv.app bd bn).fn, .bool true] 89)) := (Below.refl _ w).alloc (Nat.le_refl _) _
  have hbel2 : Below w.heap.size w ((w.alloc (.cells #[(Cv.app bd bn).fn, .bool true] 89)).alloc (.map #[] 0)) := hbel1.alloc (by simp) _
  have hb2a := (hbel2.block g hgl).trans hb0
  have hgV := grown_set ((w.alloc (.cells #[(Cv.app bd bn).fn, .bool true] 89)).alloc (.map #[] 0)) g 2 (.map (some (w.heap.size + 1)))
  have HMID1 := Lib.hid (show fv = .map (some b) → OwnM w Tryz.prog 9 b s.files → w.grownBy (w.alloc (.cells #[(Cv.app bd bn).fn, .bool true] 89)) (some g) ∧ (w.alloc (.cells #[(Cv.app bd bn).fn, .bool true] 89)).heap[g]? = some (blk s.cap dv (.map (some b)) pv s.off (decide (0 < s.left)) fuse) ∧ OwnM (w.alloc (.cells #[(Cv.app bd bn).fn, .bool true] 89)) Tryz.prog 9 b s.files ∧ (w.alloc (.cells #[(Cv.app bd bn).fn, .bool true] 89)).heap[w.heap.size]? = some (.cells #[(Cv.app bd bn).fn, .bool true] 89) ∧ b ≠ w.heap.size from fun e ho => by
    subst e
    exact ⟨grown_of_below hbel1 _, (hbel1.block g hgl).trans hb0, ho.below hbel1, heap_alloc_new _ _, Nat.ne_of_lt ho.lt⟩)
  have HMID2 := Lib.hid (show fv = .map none → s.files = [] → b = w.heap.size + 1 → w.grownBy (((w.alloc (.cells #[(Cv.app bd bn).fn, .bool true] 89)).alloc (.map #[] 0)).setCell ⟨g, 2, none⟩ (.map (some (w.heap.size + 1)))) (some g) ∧ (((w.alloc (.cells #[(Cv.app bd bn).fn, .bool true] 89)).alloc (.map #[] 0)).setCell ⟨g, 2, none⟩ (.map (some (w.heap.size + 1)))).heap[g]? = some (blk s.cap dv (.map (some b)) pv s.off (decide (0 < s.left)) fuse) ∧ OwnM (((w.alloc (.cells #[(Cv.app bd bn).fn, .bool true] 89)).alloc (.map #[] 0)).setCell ⟨g, 2, none⟩ (.map (some (w.heap.size + 1)))) Tryz.prog 9 b s.files ∧ (((w.alloc (.cells #[(Cv.app bd bn).fn, .bool true] 89)).alloc (.map #[] 0)).setCell ⟨g, 2, none⟩ (.map (some (w.heap.size + 1)))).heap[w.heap.size]? = some (.cells #[(Cv.app bd bn).fn, .bool true] 89) ∧ b ≠ w.heap.size from fun e hnil hbw => by
    subst e; subst hbw
    refine ⟨grown_trans (grown_of_below hbel2 _) hgV, ?_, ?_, ?_, by omega⟩
    · unfold blk at hb2a; rw [blk_set 2 _ hb2a]; rfl
    · rw [hnil]
      have h1 := OwnM.made (w.alloc (.cells #[(Cv.app bd bn).fn, .bool true] 89)) Tryz.prog 9
      rw [show (w.alloc (.cells #[(Cv.app bd bn).fn, .bool true] 89)).heap.size = w.heap.size + 1 by simp] at h1
      exact h1.kept hgV (fun q => by have := Option.some.inj q; omega)
    · rw [hgV.block w.heap.size (by simp; omega) (fun q => by have := Option.some.inj q; omega)]
      exact (Below.heap_alloc _ _ w.heap.size (by simp)).trans (heap_alloc_new _ _))
  have HCM := Lib.hid (show ((w.alloc (.cells #[(Cv.app bd bn).fn, .bool true] 89)).alloc (.map #[] 0)).setCell ⟨g, 2, none⟩ (.map (some (w.heap.size + 1))) = ((w.setCell ⟨g, 2, none⟩ (.map (some (w.heap.size + 1)))).alloc (.cells #[(Cv.app bd bn).fn, .bool true] 89)).alloc (.map #[] 0) by
    rw [World.setCell_alloc_past _ _ _ _ (by simp; omega), World.setCell_alloc_past _ _ _ _ hgl])
  obtain ⟨-, -, c2, -, -, -, -, -⟩ := blk_cells hb0
  obtain ⟨-, -, d2, -, -, -, -, dfr⟩ := blk_cells hb2a
  have f2 := dfr 2
  obtain ⟨m, hm⟩ : ∃ m, fv = .map m := by rcases hfv with ⟨q, _⟩ | ⟨q, _⟩ <;> exact ⟨_, q⟩
  have hq := fun W : World => run_eql_map_nil_sl (P := Tryz.prog) W 57 _ _ m und_map
  subst hm
  have HK := Lib.hid hkeep
  have HPL := Lib.hid hpl
  have HPG := Lib.hid hpvg
  have HGL := Lib.hid hgl
  clear hkeep hpl hpvg hnotg hbel1 hbel2 hb2a hgV dfr hb0 hpv hd hn
  generalize hcf : (Cv.app bd bn).fn = cf at *
  have HCF := Lib.hid hcf
  clear hcf
  go_enter Tryz.func63, Tryz.ntmps63
  go_upto_if 9 with fail
  go_cut [3] (fun s3 wc => s3 = .pointer (some ⟨w.heap.size, 0, none⟩) ∧ w.grownBy wc (some g) ∧ wc.heap[g]? = some (blk s.cap dv (.map (some b)) pv s.off (decide (0 < s.left)) fuse) ∧ OwnM wc Tryz.prog 9 b s.files ∧ wc.heap[w.heap.size]? = some (.cells #[cf, .bool true] 89) ∧ b ≠ w.heap.size)
  case first =>
    rcases hfv with ⟨e1, e2, e3⟩ | ⟨e1, ho⟩
    · have HM0 := HMID2.out e1 e2 e3
      rw [HCM.out] at HM0
      have HM := Lib.hid HM0
      clear HM0
      cases e1
      clear e2 e3
      have hmm := @run_makeMap Tryz.prog
      go_wp2_with fail
      go_meet
      exact ⟨rfl, HM.out⟩
    · have HM := Lib.hid (HMID1.out e1 ho)
      cases e1
      clear ho d2 f2
      go_wp2_with fail
      go_meet
      exact ⟨rfl, HM.out⟩
  case rest =>
    obtain ⟨rfl, hgw, hb, ho, hbx, hbne⟩ := hcut
    obtain ⟨⟨hd, hn⟩, hpv, hpost⟩ := HK.out wc hgw
    have hgl : g < wc.heap.size := lt_of_block hb
    have hbxl := lt_of_block hbx
    have hbox : ∀ W, Below wc.heap.size wc W → W.cell? ⟨w.heap.size, 0, none⟩ = some cf ∧ W.cell? ⟨g, 2, none⟩ = some (.map (some b)) ∧ Below wc.heap.size wc W := by
      intro W hW
      refine ⟨?_, ?_, hW⟩
      · rw [hW.cell (p := ⟨w.heap.size, 0, none⟩) hbxl]; simp [World.cell?, hbx]
      · rw [hW.cell (p := ⟨g, 2, none⟩) hgl]; exact (blk_cells hb).2.2.1
    have HBX := Lib.hid hbox
    have HBXB := Lib.hid hbx
    have HPOST := Lib.hid hpost
    have HNE := Lib.hid hbne
    have HBXL := Lib.hid hbxl
    clear hbox hbx hpost hbne hq d2 f2 c2 hfv HMID1 HMID2 HK
    go_wp2_with fail
    refine wp_region_facts 6 (MkF w.heap.size g cf (.map (some b))) (by kernel_rfl) (by kernel_rfl) (by rfl) (MkF.stable _ _ _ _) ?_ ?_
    · intro i o hi0 ho1 x w1 hb1 hd1
      obtain ⟨z0, z1, -⟩ := HBX.out w1 hb1
      have hc : i = 0 ∨ i = 1 ∨ i = 2 ∨ i = 3 ∨ i = 4 ∨ i = 5 := by omega
      simp only [List.take_succ_cons, List.take_zero, putFrom, Act.put, List.setIfInBounds_toArray, List.set_cons_succ, List.set_cons_zero, Nat.zero_add, Nat.reduceAdd]
      clear hb hd hn ho HBX hgw
      rcases hc with rfl | rfl | rfl | rfl | rfl | rfl
      all_goals
        simp only [List.getElem?_cons_succ, List.getElem?_cons_zero, Option.some.injEq] at ho1
        subst ho1
        simp [Needs, Region.binds, MkF, ptr] at hd1
        try obtain ⟨hd1, hd2⟩ := hd1
      all_goals go_wp2_with fail
      all_goals exact ⟨rfl, rfl, rfl, Below.refl _ _⟩
    · intro x w1 hb1 hf1
      have f0 := hf1 0 (by omega)
      have f1 := hf1 1 (by omega)
      have f2 := hf1 2 (by omega)
      have f3 := hf1 3 (by omega)
      have f4 := hf1 4 (by omega)
      have f5 := hf1 5 (by omega)
      simp only [MkF, ptr] at f0 f1 f2 f3 f4 f5
      clear hf1
      simp only [List.take_succ_cons, List.take_zero, List.drop_succ_cons, List.drop_zero, putFrom, Act.put, List.setIfInBounds_toArray, List.set_cons_succ, List.set_cons_zero, Nat.zero_add, Nat.reduceAdd, f0, f1, f2, f3, f4, f5]
      clear f0 f1 f2 f3 f4 f5
      obtain ⟨z0, z1, hbw⟩ := HBX.out w1 hb1
      obtain rfl := HCF.out
      simp only [Cv.fn, ptr]
      have ho1 := ho.below hbw
      have hd1 : boxS w1 bd d := (hbw.block bd hd.lt).trans hd
      have hn1 : boxS w1 bn n := (hbw.block bn hn.lt).trans hn
      have happ := app_any w1 b bd bn s.files n d (-1) ho1 hd1 hn1 hl hnl ht
      go_wp2_with fail
      go_at_call 68
      refine happ.mono ?_
      rintro e w2 ⟨rfl, ho2, ht2⟩
      have hgb : g ≠ b := by
        intro q; subst q
        obtain ⟨D, ⟨es, cl, hm, _⟩, _⟩ := ho
        unfold blk at hb; rw [hm] at hb; cases hb
      have hpb : ∀ k, pv.ownBlock = some k → k ≠ b ∧ k ≠ g := by
        intro k hk
        refine ⟨fun q => ?_, HPG.out k hk⟩
        rcases hpv.2 with ⟨rfl, _⟩ | ⟨gp, cap, cur, rfl, _, hgp, _⟩
        · cases hk
        · cases hk
          subst q
          obtain ⟨D, ⟨es, cl, hm, _⟩, _⟩ := ho
          rw [hm] at hgp; cases hgp
      have hold2 : ∀ k, k < wc.heap.size → k ≠ b → w2.heap[k]? = wc.heap[k]? := fun k hk hne => (ht2.grown.block k (Nat.lt_of_lt_of_le hk hbw.size) fun q => hne (Option.some.inj q)).trans (hbw.block k hk)
      have hb2 : w2.heap[g]? = some (blk s.cap dv (.map (some b)) pv s.off (decide (0 < s.left)) fuse) := (hold2 g hgl hgb).trans hb
      have hpv2 : Own w2 0 89 2 encV pv cs := hpv.keep fun k hk hlt => hold2 k hlt (hpb k hk).1
      have hbx2 : w2.heap[w.heap.size]? = some (.cells #[(Cv.app bd bn).fn, .bool (Cv.app bd bn).ap] 89) := (hold2 _ HBXL.out HNE.out.symm).trans HBXB.out
      have hB2 : w.heap.size < w2.heap.size := lt_of_block hbx2
      have hgl2 : g < w2.heap.size := lt_of_block hb2
      obtain ⟨i0, hi, hz0, hz1, hz2⟩ := info_parts info_ch
      have HGL2 := Lib.hid hgl2
      have HPB := Lib.hid hpb
      have HB2 := Lib.hid hb2
      have HBX2 := Lib.hid hbx2
      have HPV := Lib.hid hpv2
      have HOW := Lib.hid ho2
      have HOLD := Lib.hid hold2
      have HWB := Lib.hid hbw
      have HT2 := Lib.hid ht2
      have HBL := Lib.hid ho.lt
      have HGLC := Lib.hid hgl
      have HPLC := Lib.hid (show ∀ k, pv.ownBlock = some k → k < wc.heap.size from fun k hk => Nat.lt_of_lt_of_le (HPL.out k hk) hgw.size)
      have hgbn := Lib.hid hgb
      clear happ z0 z1 hd1 hn1 ho1 hb1 hbw ho2 hb hd hn ho hpv hold2 hpb hb2 hbx2 hpv2 HBX hgw hgl hgl2 hbxl
      go_wp2_with fail
      refine wp_region_factsC 10 ntCons (· == 7) (NtF g pv (Cv.app bd bn).fn true w2.heap.size (cs ++ [(Cv.app bd bn)])) (NtC w2 pv cs) (fun w w' => w.grownBy w' pv.ownBlock) ⟨⟨rfl, rfl, rfl, Nat.le_refl _, fun _ _ _ => rfl⟩, fun _ => HPV.out⟩ (by kernel_rfl) (by kernel_rfl) (by rfl) (NtF.stable _ _ _ _ _ _)
        (fun d i w w' h hn _ hb => h.step (by simpa using hn) hb) (fun d i w w' h hn _ hg => h.app' hn hg) (fun b j v w1 w' hb hc hne hj h _ => NtF.big _ _ _ _ _ _ b j v w1 w' hb hc hne hj h) ?_ ?_
      · intro i o hi0 ho1 dn x w3 hcl3 hdn hC hd3
        have hc : i = 0 ∨ i = 1 ∨ i = 2 ∨ i = 3 ∨ i = 4 ∨ i = 5 ∨ i = 6 ∨ i = 7 ∨ i = 8 ∨ i = 9 := by omega
        obtain ⟨hg3, how3⟩ := hC
        have hgb3 : w3.heap[g]? = some (blk s.cap dv (.map (some b)) pv s.off (decide (0 < s.left)) fuse) := (hg3.block g HGL2.out (fun q => (HPB.out g q.symm).2 rfl)).trans HB2.out
        have hbx3 : w3.heap[w.heap.size]? = some (.cells #[(Cv.app bd bn).fn, .bool true] 89) := (hg3.block _ hB2 (fun q => Nat.lt_irrefl _ (HPL.out _ q.symm))).trans HBX2.out
        obtain ⟨-, -, -, z3, -, -, -, -⟩ := blk_cells hgb3
        have y0 : w3.cell? ⟨w.heap.size, 0, none⟩ = some (Cv.app bd bn).fn := by simp [World.cell?, hbx3]
        have y1 : w3.cell? ⟨w.heap.size, 1, none⟩ = some (.bool true) := by simp [World.cell?, hbx3]
        simp only [List.take_succ_cons, List.take_zero, putFrom, Act.put, List.setIfInBounds_toArray, List.set_cons_succ, List.set_cons_zero, Nat.zero_add, Nat.reduceAdd]
        clear hgb3 hbx3 HB2 HBX2 HPB HOW HOLD HPV HPL HPG HPLC
        rcases hc with rfl | rfl | rfl | rfl | rfl | rfl | rfl | rfl | rfl | rfl
        all_goals
          simp only [List.getElem?_cons_succ, List.getElem?_cons_zero, Option.some.injEq] at ho1
          subst ho1
          simp [NeedsB, Region.binds, NtF, ntCons, ptr] at hd3
        · go_wp2_with fail
          exact ⟨rfl, rfl, rfl, Below.refl _ _⟩
        · go_wp2_with fail
          exact ⟨rfl, rfl, rfl, Below.refl _ _⟩
        · go_wp2_with fail
          exact ⟨rfl, rfl, rfl, Below.refl _ _⟩
        · go_wp2_with fail
          exact ⟨rfl, rfl, rfl, Below.refl _ _⟩
        · go_wp2_with fail
          exact ⟨rfl, rfl, rfl, Below.refl _ _⟩
        · go_wp2_with fail
          exact ⟨rfl, rfl, rfl, Below.refl _ _⟩
        · go_wp2_with fail
          exact ⟨rfl, rfl, ⟨_, rfl, heap_alloc_new _ _⟩, (Below.refl _ _).alloc (Nat.le_refl _) _⟩
        · obtain ⟨h4, x1, h6, hx1⟩ := hd3
          have how := how3 hdn
          rw [← h4] at how
          have hsr : SrcV w3 2 (x 6) 1 ([(Cv.app bd bn)].flatMap encV) := by rw [h6]; exact src_ch hx1
          have H4 := Lib.hid h4
          have hsz3 := hg3.size
          clear h4 h6 hx1 z3 y0 y1
          go_wp2_with (at_builtin; refine wpList_append_any rfl _ _ _ rfl 0 89 i0 _ 2 16 und_chs hi hz0 hz1 hz2 rfl (by decide) _ cs.length (cs.flatMap encV) rfl how _ 1 ([(Cv.app bd bn)].flatMap encV) rfl hsr ?ap1 ?ap2 (Nat.zero_le _) ?_)
          case ap1 => unfold maxLen; omega
          case ap2 => omega
          intro v' w4 ha
          have hown := Own.apd (m := [(Cv.app bd bn)]) how rfl rfl rfl rfl ha
          have hblk : v'.ownBlock = pv.ownBlock ∨ ∃ y, v'.ownBlock = some y ∧ w2.heap.size ≤ y := by
            rcases ha.blk with q | q
            · left; rw [q, H4.out]
            · exact .inr ⟨_, q, hsz3⟩
          have hgr := ha.grown
          rw [H4.out] at hgr
          clear ha
          go_wp2_with fail
          exact ⟨rfl, rfl, ⟨hown, hblk⟩, hgr⟩
        · go_wp2_with fail
          exact ⟨rfl, rfl, rfl, Below.refl _ _⟩
        · go_wp2_with fail
          exact ⟨rfl, rfl, rfl, Below.refl _ _⟩
      · intro dn x w3 hC hf1
        have f0 := hf1 0 (by omega) (fun c hc => by simp [ntCons] at hc)
        have f1 := hf1 1 (by omega) (fun c hc => by simp [ntCons] at hc)
        have f2 := hf1 2 (by omega) (fun c hc => by simp [ntCons] at hc)
        have f3 := hf1 3 (by omega) (fun c hc => by simp [ntCons] at hc)
        have f4 := hf1 4 (by omega) (fun c hc => by simp [ntCons] at hc)
        have f5 := hf1 5 (by omega) (fun c hc => by simp [ntCons] at hc)
        have f7 := hf1 7 (by omega) (fun c hc => by simp [ntCons] at hc)
        have f8 := hf1 8 (by omega) (fun c hc => by simp [ntCons] at hc)
        have f9 := hf1 9 (by omega) (fun c hc => by simp [ntCons] at hc)
        simp only [NtF, ptr] at f0 f1 f2 f3 f4 f5 f7 f8 f9
        clear hf1
        obtain ⟨hown7, hblk7⟩ := f7
        obtain ⟨hg3, -⟩ := hC
        have hgb3 : w3.heap[g]? = some (blk s.cap dv (.map (some b)) pv s.off (decide (0 < s.left)) fuse) := (hg3.block g HGL2.out (fun q => (HPB.out g q.symm).2 rfl)).trans HB2.out
        obtain ⟨-, -, -, z3, -, -, -, zf⟩ := blk_cells hgb3
        have z3f := zf 3
        simp only [List.take_succ_cons, List.take_zero, List.drop_succ_cons, List.drop_zero, putFrom, Act.put, List.setIfInBounds_toArray, List.set_cons_succ, List.set_cons_zero, Nat.zero_add, Nat.reduceAdd, f0, f1, f2, f3, f4, f5, f8, f9]
        clear f0 f1 f2 f3 f4 f5 f8 f9
        generalize x 7 = pv' at *
        generalize x 6 = y6 at *
        have hdb4 : DB (w3.setCell ⟨g, 3, none⟩ pv') g { s with ops := s.ops ++ [(Ch.app n d)] } dv (.map (some b)) pv' := by
          refine ⟨fuse, ?_, hfu⟩
          unfold blk at hgb3
          rw [blk_set 3 pv' hgb3]; rfl
        have hdone := done_any g _ _ _ _ _ hdb4 hlf
        have HG3 := Lib.hid hg3
        have HO7 := Lib.hid hown7
        have HK7 := Lib.hid hblk7
        obtain ⟨pa, pn, pc, hpf⟩ : ∃ a n c, pv' = .slice a n c := by
          rcases hown7.2 with ⟨hv, _⟩ | ⟨_, _, _, hv, _⟩
          · exact ⟨_, _, _, hv⟩
          · exact ⟨_, _, _, hv⟩
        have hmk := fun (w4 : World) (h34 : (w3.setCell ⟨g, 3, none⟩ pv').grownBy w4 (some g)) (hdb : DB w4 g (s.add (Ch.app n d)) dv (.map (some b)) pv') =>
          HPOST.out w4 (mk_end hgbn.out HGLC.out HBL.out HPLC.out HPB.out HWB.out HT2.out.grown HG3.out h34 hdb (by have := HOW.out; rwa [show tk (-1) d = d from if_neg (by omega)] at this) HO7.out HK7.out)
        have HMK := Lib.hid hmk
        subst hpf
        clear hgb3 zf hdb4 hg3 hown7 hblk7 hfu hmk
        go_wp2_with fail
        go_at_call 66
        refine hdone.mono ?_
        rintro e w4 ⟨rfl, hdb5, hg5⟩
        have hM := Lib.hid (HMK.out w4 hg5 hdb5)
        clear hdb5 hg5 hdone
        go_wp2
        go_ret
        exact ⟨rfl, hM.out⟩

end Go.Proofs.YtbfgkcgnhgfkmaaGreat.Dk

namespace Go.Proofs.YtbfgkcgnhgfkmaaGreat.Dk
open Go Go.Maps Go.RowKit Go.Proofs.YtbfgkcgnhgfkmaaGreat.Slc
set_option linter.unusedVariables false
set_option linter.unusedSimpArgs false

set_option maxHeartbeats 2000000 in
set_option maxRecDepth 10000 in
theorem make_ren (w : World) (g b : Nat) (s : St) (dv fv pv : Value) (cs : List Cv) (bd bn : Nat) (n d : B) (hdb : DB w g s dv fv pv) (hfv : (fv = .map none ∧ s.files = [] ∧ b = w.heap.size + 1) ∨ (fv = .map (some b) ∧ OwnM w Tryz.prog 9 b s.files)) (hd : boxS w bd n) (hn : boxS w bn d) (hl : s.files.length ≤ 1000) (hnl : n.length ≤ 100) (hdl : d.length ≤ 100) (ht : total s.files ≤ 9223372036854775807) (hnd : (names s.files).Nodup) (ha : has s.files n = true) (hpv : Own w 0 89 2 encV pv cs) (hcl : cs.length ≤ 100000) (hlf : s.left ≤ 9223372036854775807) :
    Calls Tryz.prog 63 #[.pointer (some ⟨g, 0, none⟩), .agg #[(Cv.ren bd bn).fn, .bool false]] w fun e w' => e = .returned (.int .i64 0) ∧ MkPost w g b s dv pv cs (Cv.ren bd bn) (.ren n d) w' := by
  obtain ⟨fuse, hb0, hfu⟩ := hdb
  have hgl := lt_of_block hb0
  have hpvg : ∀ k, pv.ownBlock = some k → k ≠ g := by
    intro k hk q
    rcases hpv.2 with ⟨rfl, _⟩ | ⟨gp, cap, cur, rfl, _, hgp, _⟩
    · cases hk
    · cases hk; subst q
      unfold blk at hb0; rw [hgp] at hb0
      simp at hb0
  have hpl : ∀ k, pv.ownBlock = some k → k < w.heap.size := fun k hk => (hpv.lt k hk).2
  have hnotg : ∀ k (x : B), boxS w k x → k ≠ g := by
    intro k x hx q; subst q
    unfold boxS at hx; unfold blk at hb0; rw [hx] at hb0; cases hb0
  have hkeep : ∀ wx : World, w.grownBy wx (some g) → (boxS wx bd n ∧ boxS wx bn d) ∧ Own wx 0 89 2 encV pv cs ∧
      (∀ w', MkPost wx g b s dv pv cs (Cv.ren bd bn) (.ren n d) w' → MkPost w g b s dv pv cs (Cv.ren bd bn) (.ren n d) w') := by
    intro wx hgw
    have hne : ∀ k, k < w.heap.size → k ≠ g → wx.heap[k]? = w.heap[k]? := fun k hk hne => hgw.block k hk fun q => hne (Option.some.inj q)
    refine ⟨⟨(hne bd hd.lt (hnotg _ _ hd)).trans hd, (hne bn hn.lt (hnotg _ _ hn)).trans hn⟩, hpv.keep fun k hk hlt => hne k hlt (hpvg k hk), ?_⟩
    rintro w' ⟨pv', h1, h2, h3, h4, h5⟩
    refine ⟨pv', h1, h2, h3, ?_, ?_⟩
    · rcases h4 with q | ⟨y, q, hy⟩
      · exact .inl q
      · exact .inr ⟨y, q, Nat.le_trans hgw.size hy⟩
    · exact (Fr.grown (F := fun k => k = g ∨ k = b ∨ pv.ownBlock = some k) hgw (fun k hk _ => .inl (Option.some.inj hk).symm)).trans h5 fun k hk => .inl hk
  have hbel1 : Below w.heap.size w (w.alloc (.cells #[(Cv.ren bd bn).fn, .bool false] 89)) := (Below.refl _ w).alloc (Nat.le_refl _) _
  have hbel2 : Below w.heap.size w ((w.alloc (.cells #[(Cv.ren bd bn).fn, .bool false] 89)).alloc (.map #[] 0)) := hbel1.alloc (by simp) _
  have hb2a := (hbel2.block g hgl).trans hb0
  have hgV := grown_set ((w.alloc (.cells #[(Cv.ren bd bn).fn, .bool false] 89)).alloc (.map #[] 0)) g 2 (.map (some (w.heap.size + 1)))
  have HMID1 := Lib.hid (show fv = .map (some b) → OwnM w Tryz.prog 9 b s.files → w.grownBy (w.alloc (.cells #[(Cv.ren bd bn).fn, .bool false] 89)) (some g) ∧ (w.alloc (.cells #[(Cv.ren bd bn).fn, .bool false] 89)).heap[g]? = some (blk s.cap dv (.map (some b)) pv s.off (decide (0 < s.left)) fuse) ∧ OwnM (w.alloc (.cells #[(Cv.ren bd bn).fn, .bool false] 89)) Tryz.prog 9 b s.files ∧ (w.alloc (.cells #[(Cv.ren bd bn).fn, .bool false] 89)).heap[w.heap.size]? = some (.cells #[(Cv.ren bd bn).fn, .bool false] 89) ∧ b ≠ w.heap.size from fun e ho => by
    subst e
    exact ⟨grown_of_below hbel1 _, (hbel1.block g hgl).trans hb0, ho.below hbel1, heap_alloc_new _ _, Nat.ne_of_lt ho.lt⟩)
  have HMID2 := Lib.hid (show fv = .map none → s.files = [] → b = w.heap.size + 1 → w.grownBy (((w.alloc (.cells #[(Cv.ren bd bn).fn, .bool false] 89)).alloc (.map #[] 0)).setCell ⟨g, 2, none⟩ (.map (some (w.heap.size + 1)))) (some g) ∧ (((w.alloc (.cells #[(Cv.ren bd bn).fn, .bool false] 89)).alloc (.map #[] 0)).setCell ⟨g, 2, none⟩ (.map (some (w.heap.size + 1)))).heap[g]? = some (blk s.cap dv (.map (some b)) pv s.off (decide (0 < s.left)) fuse) ∧ OwnM (((w.alloc (.cells #[(Cv.ren bd bn).fn, .bool false] 89)).alloc (.map #[] 0)).setCell ⟨g, 2, none⟩ (.map (some (w.heap.size + 1)))) Tryz.prog 9 b s.files ∧ (((w.alloc (.cells #[(Cv.ren bd bn).fn, .bool false] 89)).alloc (.map #[] 0)).setCell ⟨g, 2, none⟩ (.map (some (w.heap.size + 1)))).heap[w.heap.size]? = some (.cells #[(Cv.ren bd bn).fn, .bool false] 89) ∧ b ≠ w.heap.size from fun e hnil hbw => by
    subst e; subst hbw
    refine ⟨grown_trans (grown_of_below hbel2 _) hgV, ?_, ?_, ?_, by omega⟩
    · unfold blk at hb2a; rw [blk_set 2 _ hb2a]; rfl
    · rw [hnil]
      have h1 := OwnM.made (w.alloc (.cells #[(Cv.ren bd bn).fn, .bool false] 89)) Tryz.prog 9
      rw [show (w.alloc (.cells #[(Cv.ren bd bn).fn, .bool false] 89)).heap.size = w.heap.size + 1 by simp] at h1
      exact h1.kept hgV (fun q => by have := Option.some.inj q; omega)
    · rw [hgV.block w.heap.size (by simp; omega) (fun q => by have := Option.some.inj q; omega)]
      exact (Below.heap_alloc _ _ w.heap.size (by simp)).trans (heap_alloc_new _ _))
  have HCM := Lib.hid (show ((w.alloc (.cells #[(Cv.ren bd bn).fn, .bool false] 89)).alloc (.map #[] 0)).setCell ⟨g, 2, none⟩ (.map (some (w.heap.size + 1))) = ((w.setCell ⟨g, 2, none⟩ (.map (some (w.heap.size + 1)))).alloc (.cells #[(Cv.ren bd bn).fn, .bool false] 89)).alloc (.map #[] 0) by
    rw [World.setCell_alloc_past _ _ _ _ (by simp; omega), World.setCell_alloc_past _ _ _ _ hgl])
  obtain ⟨-, -, c2, -, -, -, -, -⟩ := blk_cells hb0
  obtain ⟨-, -, d2, -, -, -, -, dfr⟩ := blk_cells hb2a
  have f2 := dfr 2
  obtain ⟨m, hm⟩ : ∃ m, fv = .map m := by rcases hfv with ⟨q, _⟩ | ⟨q, _⟩ <;> exact ⟨_, q⟩
  have hq := fun W : World => run_eql_map_nil_sl (P := Tryz.prog) W 57 _ _ m und_map
  subst hm
  have HK := Lib.hid hkeep
  have HPL := Lib.hid hpl
  have HPG := Lib.hid hpvg
  have HGL := Lib.hid hgl
  clear hkeep hpl hpvg hnotg hbel1 hbel2 hb2a hgV dfr hb0 hpv hd hn
  generalize hcf : (Cv.ren bd bn).fn = cf at *
  have HCF := Lib.hid hcf
  clear hcf
  go_enter Tryz.func63, Tryz.ntmps63
  go_upto_if 9 with fail
  go_cut [3] (fun s3 wc => s3 = .pointer (some ⟨w.heap.size, 0, none⟩) ∧ w.grownBy wc (some g) ∧ wc.heap[g]? = some (blk s.cap dv (.map (some b)) pv s.off (decide (0 < s.left)) fuse) ∧ OwnM wc Tryz.prog 9 b s.files ∧ wc.heap[w.heap.size]? = some (.cells #[cf, .bool false] 89) ∧ b ≠ w.heap.size)
  case first =>
    rcases hfv with ⟨e1, e2, e3⟩ | ⟨e1, ho⟩
    · have HM0 := HMID2.out e1 e2 e3
      rw [HCM.out] at HM0
      have HM := Lib.hid HM0
      clear HM0
      cases e1
      clear e2 e3
      have hmm := @run_makeMap Tryz.prog
      go_wp2_with fail
      go_meet
      exact ⟨rfl, HM.out⟩
    · have HM := Lib.hid (HMID1.out e1 ho)
      cases e1
      clear ho d2 f2
      go_wp2_with fail
      go_meet
      exact ⟨rfl, HM.out⟩
  case rest =>
    obtain ⟨rfl, hgw, hb, ho, hbx, hbne⟩ := hcut
    obtain ⟨⟨hd, hn⟩, hpv, hpost⟩ := HK.out wc hgw
    have hgl : g < wc.heap.size := lt_of_block hb
    have hbxl := lt_of_block hbx
    have hbox : ∀ W, Below wc.heap.size wc W → W.cell? ⟨w.heap.size, 0, none⟩ = some cf ∧ W.cell? ⟨g, 2, none⟩ = some (.map (some b)) ∧ Below wc.heap.size wc W := by
      intro W hW
      refine ⟨?_, ?_, hW⟩
      · rw [hW.cell (p := ⟨w.heap.size, 0, none⟩) hbxl]; simp [World.cell?, hbx]
      · rw [hW.cell (p := ⟨g, 2, none⟩) hgl]; exact (blk_cells hb).2.2.1
    have HBX := Lib.hid hbox
    have HBXB := Lib.hid hbx
    have HPOST := Lib.hid hpost
    have HNE := Lib.hid hbne
    have HBXL := Lib.hid hbxl
    clear hbox hbx hpost hbne hq d2 f2 c2 hfv HMID1 HMID2 HK
    go_wp2_with fail
    refine wp_region_facts 6 (MkF w.heap.size g cf (.map (some b))) (by kernel_rfl) (by kernel_rfl) (by rfl) (MkF.stable _ _ _ _) ?_ ?_
    · intro i o hi0 ho1 x w1 hb1 hd1
      obtain ⟨z0, z1, -⟩ := HBX.out w1 hb1
      have hc : i = 0 ∨ i = 1 ∨ i = 2 ∨ i = 3 ∨ i = 4 ∨ i = 5 := by omega
      simp only [List.take_succ_cons, List.take_zero, putFrom, Act.put, List.setIfInBounds_toArray, List.set_cons_succ, List.set_cons_zero, Nat.zero_add, Nat.reduceAdd]
      clear hb hd hn ho HBX hgw
      rcases hc with rfl | rfl | rfl | rfl | rfl | rfl
      all_goals
        simp only [List.getElem?_cons_succ, List.getElem?_cons_zero, Option.some.injEq] at ho1
        subst ho1
        simp [Needs, Region.binds, MkF, ptr] at hd1
        try obtain ⟨hd1, hd2⟩ := hd1
      all_goals go_wp2_with fail
      all_goals exact ⟨rfl, rfl, rfl, Below.refl _ _⟩
    · intro x w1 hb1 hf1
      have f0 := hf1 0 (by omega)
      have f1 := hf1 1 (by omega)
      have f2 := hf1 2 (by omega)
      have f3 := hf1 3 (by omega)
      have f4 := hf1 4 (by omega)
      have f5 := hf1 5 (by omega)
      simp only [MkF, ptr] at f0 f1 f2 f3 f4 f5
      clear hf1
      simp only [List.take_succ_cons, List.take_zero, List.drop_succ_cons, List.drop_zero, putFrom, Act.put, List.setIfInBounds_toArray, List.set_cons_succ, List.set_cons_zero, Nat.zero_add, Nat.reduceAdd, f0, f1, f2, f3, f4, f5]
      clear f0 f1 f2 f3 f4 f5
      obtain ⟨z0, z1, hbw⟩ := HBX.out w1 hb1
      obtain rfl := HCF.out
      simp only [Cv.fn, ptr]
      have ho1 := ho.below hbw
      have hd1 : boxS w1 bd n := (hbw.block bd hd.lt).trans hd
      have hn1 : boxS w1 bn d := (hbw.block bn hn.lt).trans hn
      have happ := ren_any w1 b bd bn s.files n d (-1) ho1 hd1 hn1 hl hnl hdl ht hnd ha
      go_wp2_with fail
      go_at_call 79
      refine happ.mono ?_
      rintro e w2 ⟨rfl, ho2, ht2⟩
      have hgb : g ≠ b := by
        intro q; subst q
        obtain ⟨D, ⟨es, cl, hm, _⟩, _⟩ := ho
        unfold blk at hb; rw [hm] at hb; cases hb
      have hpb : ∀ k, pv.ownBlock = some k → k ≠ b ∧ k ≠ g := by
        intro k hk
        refine ⟨fun q => ?_, HPG.out k hk⟩
        rcases hpv.2 with ⟨rfl, _⟩ | ⟨gp, cap, cur, rfl, _, hgp, _⟩
        · cases hk
        · cases hk
          subst q
          obtain ⟨D, ⟨es, cl, hm, _⟩, _⟩ := ho
          rw [hm] at hgp; cases hgp
      have hold2 : ∀ k, k < wc.heap.size → k ≠ b → w2.heap[k]? = wc.heap[k]? := fun k hk hne => (ht2.grown.block k (Nat.lt_of_lt_of_le hk hbw.size) fun q => hne (Option.some.inj q)).trans (hbw.block k hk)
      have hb2 : w2.heap[g]? = some (blk s.cap dv (.map (some b)) pv s.off (decide (0 < s.left)) fuse) := (hold2 g hgl hgb).trans hb
      have hpv2 : Own w2 0 89 2 encV pv cs := hpv.keep fun k hk hlt => hold2 k hlt (hpb k hk).1
      have hbx2 : w2.heap[w.heap.size]? = some (.cells #[(Cv.ren bd bn).fn, .bool (Cv.ren bd bn).ap] 89) := (hold2 _ HBXL.out HNE.out.symm).trans HBXB.out
      have hB2 : w.heap.size < w2.heap.size := lt_of_block hbx2
      have hgl2 : g < w2.heap.size := lt_of_block hb2
      obtain ⟨i0, hi, hz0, hz1, hz2⟩ := info_parts info_ch
      have HGL2 := Lib.hid hgl2
      have HPB := Lib.hid hpb
      have HB2 := Lib.hid hb2
      have HBX2 := Lib.hid hbx2
      have HPV := Lib.hid hpv2
      have HOW := Lib.hid ho2
      have HOLD := Lib.hid hold2
      have HWB := Lib.hid hbw
      have HT2 := Lib.hid ht2
      have HBL := Lib.hid ho.lt
      have HGLC := Lib.hid hgl
      have HPLC := Lib.hid (show ∀ k, pv.ownBlock = some k → k < wc.heap.size from fun k hk => Nat.lt_of_lt_of_le (HPL.out k hk) hgw.size)
      have hgbn := Lib.hid hgb
      clear happ z0 z1 hd1 hn1 ho1 hb1 hbw ho2 hb hd hn ho hpv hold2 hpb hb2 hbx2 hpv2 HBX hgw hgl hgl2 hbxl
      go_wp2_with fail
      refine wp_region_factsC 10 ntCons (· == 7) (NtF g pv (Cv.ren bd bn).fn false w2.heap.size (cs ++ [(Cv.ren bd bn)])) (NtC w2 pv cs) (fun w w' => w.grownBy w' pv.ownBlock) ⟨⟨rfl, rfl, rfl, Nat.le_refl _, fun _ _ _ => rfl⟩, fun _ => HPV.out⟩ (by kernel_rfl) (by kernel_rfl) (by rfl) (NtF.stable _ _ _ _ _ _)
        (fun d i w w' h hn _ hb => h.step (by simpa using hn) hb) (fun d i w w' h hn _ hg => h.app' hn hg) (fun b j v w1 w' hb hc hne hj h _ => NtF.big _ _ _ _ _ _ b j v w1 w' hb hc hne hj h) ?_ ?_
      · intro i o hi0 ho1 dn x w3 hcl3 hdn hC hd3
        have hc : i = 0 ∨ i = 1 ∨ i = 2 ∨ i = 3 ∨ i = 4 ∨ i = 5 ∨ i = 6 ∨ i = 7 ∨ i = 8 ∨ i = 9 := by omega
        obtain ⟨hg3, how3⟩ := hC
        have hgb3 : w3.heap[g]? = some (blk s.cap dv (.map (some b)) pv s.off (decide (0 < s.left)) fuse) := (hg3.block g HGL2.out (fun q => (HPB.out g q.symm).2 rfl)).trans HB2.out
        have hbx3 : w3.heap[w.heap.size]? = some (.cells #[(Cv.ren bd bn).fn, .bool false] 89) := (hg3.block _ hB2 (fun q => Nat.lt_irrefl _ (HPL.out _ q.symm))).trans HBX2.out
        obtain ⟨-, -, -, z3, -, -, -, -⟩ := blk_cells hgb3
        have y0 : w3.cell? ⟨w.heap.size, 0, none⟩ = some (Cv.ren bd bn).fn := by simp [World.cell?, hbx3]
        have y1 : w3.cell? ⟨w.heap.size, 1, none⟩ = some (.bool false) := by simp [World.cell?, hbx3]
        simp only [List.take_succ_cons, List.take_zero, putFrom, Act.put, List.setIfInBounds_toArray, List.set_cons_succ, List.set_cons_zero, Nat.zero_add, Nat.reduceAdd]
        clear hgb3 hbx3 HB2 HBX2 HPB HOW HOLD HPV HPL HPG HPLC
        rcases hc with rfl | rfl | rfl | rfl | rfl | rfl | rfl | rfl | rfl | rfl
        all_goals
          simp only [List.getElem?_cons_succ, List.getElem?_cons_zero, Option.some.injEq] at ho1
          subst ho1
          simp [NeedsB, Region.binds, NtF, ntCons, ptr] at hd3
        · go_wp2_with fail
          exact ⟨rfl, rfl, rfl, Below.refl _ _⟩
        · go_wp2_with fail
          exact ⟨rfl, rfl, rfl, Below.refl _ _⟩
        · go_wp2_with fail
          exact ⟨rfl, rfl, rfl, Below.refl _ _⟩
        · go_wp2_with fail
          exact ⟨rfl, rfl, rfl, Below.refl _ _⟩
        · go_wp2_with fail
          exact ⟨rfl, rfl, rfl, Below.refl _ _⟩
        · go_wp2_with fail
          exact ⟨rfl, rfl, rfl, Below.refl _ _⟩
        · go_wp2_with fail
          exact ⟨rfl, rfl, ⟨_, rfl, heap_alloc_new _ _⟩, (Below.refl _ _).alloc (Nat.le_refl _) _⟩
        · obtain ⟨h4, x1, h6, hx1⟩ := hd3
          have how := how3 hdn
          rw [← h4] at how
          have hsr : SrcV w3 2 (x 6) 1 ([(Cv.ren bd bn)].flatMap encV) := by rw [h6]; exact src_ch hx1
          have H4 := Lib.hid h4
          have hsz3 := hg3.size
          clear h4 h6 hx1 z3 y0 y1
          go_wp2_with (at_builtin; refine wpList_append_any rfl _ _ _ rfl 0 89 i0 _ 2 16 und_chs hi hz0 hz1 hz2 rfl (by decide) _ cs.length (cs.flatMap encV) rfl how _ 1 ([(Cv.ren bd bn)].flatMap encV) rfl hsr ?ap1 ?ap2 (Nat.zero_le _) ?_)
          case ap1 => unfold maxLen; omega
          case ap2 => omega
          intro v' w4 ha
          have hown := Own.apd (m := [(Cv.ren bd bn)]) how rfl rfl rfl rfl ha
          have hblk : v'.ownBlock = pv.ownBlock ∨ ∃ y, v'.ownBlock = some y ∧ w2.heap.size ≤ y := by
            rcases ha.blk with q | q
            · left; rw [q, H4.out]
            · exact .inr ⟨_, q, hsz3⟩
          have hgr := ha.grown
          rw [H4.out] at hgr
          clear ha
          go_wp2_with fail
          exact ⟨rfl, rfl, ⟨hown, hblk⟩, hgr⟩
        · go_wp2_with fail
          exact ⟨rfl, rfl, rfl, Below.refl _ _⟩
        · go_wp2_with fail
          exact ⟨rfl, rfl, rfl, Below.refl _ _⟩
      · intro dn x w3 hC hf1
        have f0 := hf1 0 (by omega) (fun c hc => by simp [ntCons] at hc)
        have f1 := hf1 1 (by omega) (fun c hc => by simp [ntCons] at hc)
        have f2 := hf1 2 (by omega) (fun c hc => by simp [ntCons] at hc)
        have f3 := hf1 3 (by omega) (fun c hc => by simp [ntCons] at hc)
        have f4 := hf1 4 (by omega) (fun c hc => by simp [ntCons] at hc)
        have f5 := hf1 5 (by omega) (fun c hc => by simp [ntCons] at hc)
        have f7 := hf1 7 (by omega) (fun c hc => by simp [ntCons] at hc)
        have f8 := hf1 8 (by omega) (fun c hc => by simp [ntCons] at hc)
        have f9 := hf1 9 (by omega) (fun c hc => by simp [ntCons] at hc)
        simp only [NtF, ptr] at f0 f1 f2 f3 f4 f5 f7 f8 f9
        clear hf1
        obtain ⟨hown7, hblk7⟩ := f7
        obtain ⟨hg3, -⟩ := hC
        have hgb3 : w3.heap[g]? = some (blk s.cap dv (.map (some b)) pv s.off (decide (0 < s.left)) fuse) := (hg3.block g HGL2.out (fun q => (HPB.out g q.symm).2 rfl)).trans HB2.out
        obtain ⟨-, -, -, z3, -, -, -, zf⟩ := blk_cells hgb3
        have z3f := zf 3
        simp only [List.take_succ_cons, List.take_zero, List.drop_succ_cons, List.drop_zero, putFrom, Act.put, List.setIfInBounds_toArray, List.set_cons_succ, List.set_cons_zero, Nat.zero_add, Nat.reduceAdd, f0, f1, f2, f3, f4, f5, f8, f9]
        clear f0 f1 f2 f3 f4 f5 f8 f9
        generalize x 7 = pv' at *
        generalize x 6 = y6 at *
        have hdb4 : DB (w3.setCell ⟨g, 3, none⟩ pv') g { s with ops := s.ops ++ [(Ch.ren n d)] } dv (.map (some b)) pv' := by
          refine ⟨fuse, ?_, hfu⟩
          unfold blk at hgb3
          rw [blk_set 3 pv' hgb3]; rfl
        have hdone := done_any g _ _ _ _ _ hdb4 hlf
        have HG3 := Lib.hid hg3
        have HO7 := Lib.hid hown7
        have HK7 := Lib.hid hblk7
        obtain ⟨pa, pn, pc, hpf⟩ : ∃ a n c, pv' = .slice a n c := by
          rcases hown7.2 with ⟨hv, _⟩ | ⟨_, _, _, hv, _⟩
          · exact ⟨_, _, _, hv⟩
          · exact ⟨_, _, _, hv⟩
        have hmk := fun (w4 : World) (h34 : (w3.setCell ⟨g, 3, none⟩ pv').grownBy w4 (some g)) (hdb : DB w4 g (s.add (Ch.ren n d)) dv (.map (some b)) pv') =>
          HPOST.out w4 (mk_end hgbn.out HGLC.out HBL.out HPLC.out HPB.out HWB.out HT2.out.grown HG3.out h34 hdb HOW.out HO7.out HK7.out)
        have HMK := Lib.hid hmk
        subst hpf
        clear hgb3 zf hdb4 hg3 hown7 hblk7 hfu hmk
        go_wp2_with fail
        go_at_call 66
        refine hdone.mono ?_
        rintro e w4 ⟨rfl, hdb5, hg5⟩
        have hM := Lib.hid (HMK.out w4 hg5 hdb5)
        clear hdb5 hg5 hdone
        go_wp2
        go_ret
        exact ⟨rfl, hM.out⟩

set_option maxHeartbeats 2000000 in
set_option maxRecDepth 10000 in
theorem make_rem (w : World) (g b : Nat) (s : St) (dv fv pv : Value) (cs : List Cv) (bn : Nat) (n : B) (hdb : DB w g s dv fv pv) (hfv : (fv = .map none ∧ s.files = [] ∧ b = w.heap.size + 1) ∨ (fv = .map (some b) ∧ OwnM w Tryz.prog 9 b s.files)) (hn : boxS w bn n) (hl : s.files.length ≤ 1000) (hnl : n.length ≤ 100) (hnd : (names s.files).Nodup) (hpv : Own w 0 89 2 encV pv cs) (hcl : cs.length ≤ 100000) (hlf : s.left ≤ 9223372036854775807) :
    Calls Tryz.prog 63 #[.pointer (some ⟨g, 0, none⟩), .agg #[(Cv.rem bn).fn, .bool false]] w fun e w' => e = .returned (.int .i64 0) ∧ MkPost w g b s dv pv cs (Cv.rem bn) (.rem n) w' := by
  obtain ⟨fuse, hb0, hfu⟩ := hdb
  have hgl := lt_of_block hb0
  have hpvg : ∀ k, pv.ownBlock = some k → k ≠ g := by
    intro k hk q
    rcases hpv.2 with ⟨rfl, _⟩ | ⟨gp, cap, cur, rfl, _, hgp, _⟩
    · cases hk
    · cases hk; subst q
      unfold blk at hb0; rw [hgp] at hb0
      simp at hb0
  have hpl : ∀ k, pv.ownBlock = some k → k < w.heap.size := fun k hk => (hpv.lt k hk).2
  have hnotg : ∀ k (x : B), boxS w k x → k ≠ g := by
    intro k x hx q; subst q
    unfold boxS at hx; unfold blk at hb0; rw [hx] at hb0; cases hb0
  have hkeep : ∀ wx : World, w.grownBy wx (some g) → (boxS wx bn n) ∧ Own wx 0 89 2 encV pv cs ∧
      (∀ w', MkPost wx g b s dv pv cs (Cv.rem bn) (.rem n) w' → MkPost w g b s dv pv cs (Cv.rem bn) (.rem n) w') := by
    intro wx hgw
    have hne : ∀ k, k < w.heap.size → k ≠ g → wx.heap[k]? = w.heap[k]? := fun k hk hne => hgw.block k hk fun q => hne (Option.some.inj q)
    refine ⟨(hne bn hn.lt (hnotg _ _ hn)).trans hn, hpv.keep fun k hk hlt => hne k hlt (hpvg k hk), ?_⟩
    rintro w' ⟨pv', h1, h2, h3, h4, h5⟩
    refine ⟨pv', h1, h2, h3, ?_, ?_⟩
    · rcases h4 with q | ⟨y, q, hy⟩
      · exact .inl q
      · exact .inr ⟨y, q, Nat.le_trans hgw.size hy⟩
    · exact (Fr.grown (F := fun k => k = g ∨ k = b ∨ pv.ownBlock = some k) hgw (fun k hk _ => .inl (Option.some.inj hk).symm)).trans h5 fun k hk => .inl hk
  have hbel1 : Below w.heap.size w (w.alloc (.cells #[(Cv.rem bn).fn, .bool false] 89)) := (Below.refl _ w).alloc (Nat.le_refl _) _
  have hbel2 : Below w.heap.size w ((w.alloc (.cells #[(Cv.rem bn).fn, .bool false] 89)).alloc (.map #[] 0)) := hbel1.alloc (by simp) _
  have hb2a := (hbel2.block g hgl).trans hb0
  have hgV := grown_set ((w.alloc (.cells #[(Cv.rem bn).fn, .bool false] 89)).alloc (.map #[] 0)) g 2 (.map (some (w.heap.size + 1)))
  have HMID1 := Lib.hid (show fv = .map (some b) → OwnM w Tryz.prog 9 b s.files → w.grownBy (w.alloc (.cells #[(Cv.rem bn).fn, .bool false] 89)) (some g) ∧ (w.alloc (.cells #[(Cv.rem bn).fn, .bool false] 89)).heap[g]? = some (blk s.cap dv (.map (some b)) pv s.off (decide (0 < s.left)) fuse) ∧ OwnM (w.alloc (.cells #[(Cv.rem bn).fn, .bool false] 89)) Tryz.prog 9 b s.files ∧ (w.alloc (.cells #[(Cv.rem bn).fn, .bool false] 89)).heap[w.heap.size]? = some (.cells #[(Cv.rem bn).fn, .bool false] 89) ∧ b ≠ w.heap.size from fun e ho => by
    subst e
    exact ⟨grown_of_below hbel1 _, (hbel1.block g hgl).trans hb0, ho.below hbel1, heap_alloc_new _ _, Nat.ne_of_lt ho.lt⟩)
  have HMID2 := Lib.hid (show fv = .map none → s.files = [] → b = w.heap.size + 1 → w.grownBy (((w.alloc (.cells #[(Cv.rem bn).fn, .bool false] 89)).alloc (.map #[] 0)).setCell ⟨g, 2, none⟩ (.map (some (w.heap.size + 1)))) (some g) ∧ (((w.alloc (.cells #[(Cv.rem bn).fn, .bool false] 89)).alloc (.map #[] 0)).setCell ⟨g, 2, none⟩ (.map (some (w.heap.size + 1)))).heap[g]? = some (blk s.cap dv (.map (some b)) pv s.off (decide (0 < s.left)) fuse) ∧ OwnM (((w.alloc (.cells #[(Cv.rem bn).fn, .bool false] 89)).alloc (.map #[] 0)).setCell ⟨g, 2, none⟩ (.map (some (w.heap.size + 1)))) Tryz.prog 9 b s.files ∧ (((w.alloc (.cells #[(Cv.rem bn).fn, .bool false] 89)).alloc (.map #[] 0)).setCell ⟨g, 2, none⟩ (.map (some (w.heap.size + 1)))).heap[w.heap.size]? = some (.cells #[(Cv.rem bn).fn, .bool false] 89) ∧ b ≠ w.heap.size from fun e hnil hbw => by
    subst e; subst hbw
    refine ⟨grown_trans (grown_of_below hbel2 _) hgV, ?_, ?_, ?_, by omega⟩
    · unfold blk at hb2a; rw [blk_set 2 _ hb2a]; rfl
    · rw [hnil]
      have h1 := OwnM.made (w.alloc (.cells #[(Cv.rem bn).fn, .bool false] 89)) Tryz.prog 9
      rw [show (w.alloc (.cells #[(Cv.rem bn).fn, .bool false] 89)).heap.size = w.heap.size + 1 by simp] at h1
      exact h1.kept hgV (fun q => by have := Option.some.inj q; omega)
    · rw [hgV.block w.heap.size (by simp; omega) (fun q => by have := Option.some.inj q; omega)]
      exact (Below.heap_alloc _ _ w.heap.size (by simp)).trans (heap_alloc_new _ _))
  have HCM := Lib.hid (show ((w.alloc (.cells #[(Cv.rem bn).fn, .bool false] 89)).alloc (.map #[] 0)).setCell ⟨g, 2, none⟩ (.map (some (w.heap.size + 1))) = ((w.setCell ⟨g, 2, none⟩ (.map (some (w.heap.size + 1)))).alloc (.cells #[(Cv.rem bn).fn, .bool false] 89)).alloc (.map #[] 0) by
    rw [World.setCell_alloc_past _ _ _ _ (by simp; omega), World.setCell_alloc_past _ _ _ _ hgl])
  obtain ⟨-, -, c2, -, -, -, -, -⟩ := blk_cells hb0
  obtain ⟨-, -, d2, -, -, -, -, dfr⟩ := blk_cells hb2a
  have f2 := dfr 2
  obtain ⟨m, hm⟩ : ∃ m, fv = .map m := by rcases hfv with ⟨q, _⟩ | ⟨q, _⟩ <;> exact ⟨_, q⟩
  have hq := fun W : World => run_eql_map_nil_sl (P := Tryz.prog) W 57 _ _ m und_map
  subst hm
  have HK := Lib.hid hkeep
  have HPL := Lib.hid hpl
  have HPG := Lib.hid hpvg
  have HGL := Lib.hid hgl
  clear hkeep hpl hpvg hnotg hbel1 hbel2 hb2a hgV dfr hb0 hpv hn
  generalize hcf : (Cv.rem bn).fn = cf at *
  have HCF := Lib.hid hcf
  clear hcf
  go_enter Tryz.func63, Tryz.ntmps63
  go_upto_if 9 with fail
  go_cut [3] (fun s3 wc => s3 = .pointer (some ⟨w.heap.size, 0, none⟩) ∧ w.grownBy wc (some g) ∧ wc.heap[g]? = some (blk s.cap dv (.map (some b)) pv s.off (decide (0 < s.left)) fuse) ∧ OwnM wc Tryz.prog 9 b s.files ∧ wc.heap[w.heap.size]? = some (.cells #[cf, .bool false] 89) ∧ b ≠ w.heap.size)
  case first =>
    rcases hfv with ⟨e1, e2, e3⟩ | ⟨e1, ho⟩
    · have HM0 := HMID2.out e1 e2 e3
      rw [HCM.out] at HM0
      have HM := Lib.hid HM0
      clear HM0
      cases e1
      clear e2 e3
      have hmm := @run_makeMap Tryz.prog
      go_wp2_with fail
      go_meet
      exact ⟨rfl, HM.out⟩
    · have HM := Lib.hid (HMID1.out e1 ho)
      cases e1
      clear ho d2 f2
      go_wp2_with fail
      go_meet
      exact ⟨rfl, HM.out⟩
  case rest =>
    obtain ⟨rfl, hgw, hb, ho, hbx, hbne⟩ := hcut
    obtain ⟨hn, hpv, hpost⟩ := HK.out wc hgw
    have hgl : g < wc.heap.size := lt_of_block hb
    have hbxl := lt_of_block hbx
    have hbox : ∀ W, Below wc.heap.size wc W → W.cell? ⟨w.heap.size, 0, none⟩ = some cf ∧ W.cell? ⟨g, 2, none⟩ = some (.map (some b)) ∧ Below wc.heap.size wc W := by
      intro W hW
      refine ⟨?_, ?_, hW⟩
      · rw [hW.cell (p := ⟨w.heap.size, 0, none⟩) hbxl]; simp [World.cell?, hbx]
      · rw [hW.cell (p := ⟨g, 2, none⟩) hgl]; exact (blk_cells hb).2.2.1
    have HBX := Lib.hid hbox
    have HBXB := Lib.hid hbx
    have HPOST := Lib.hid hpost
    have HNE := Lib.hid hbne
    have HBXL := Lib.hid hbxl
    clear hbox hbx hpost hbne hq d2 f2 c2 hfv HMID1 HMID2 HK
    go_wp2_with fail
    refine wp_region_facts 6 (MkF w.heap.size g cf (.map (some b))) (by kernel_rfl) (by kernel_rfl) (by rfl) (MkF.stable _ _ _ _) ?_ ?_
    · intro i o hi0 ho1 x w1 hb1 hd1
      obtain ⟨z0, z1, -⟩ := HBX.out w1 hb1
      have hc : i = 0 ∨ i = 1 ∨ i = 2 ∨ i = 3 ∨ i = 4 ∨ i = 5 := by omega
      simp only [List.take_succ_cons, List.take_zero, putFrom, Act.put, List.setIfInBounds_toArray, List.set_cons_succ, List.set_cons_zero, Nat.zero_add, Nat.reduceAdd]
      clear hb hn ho HBX hgw
      rcases hc with rfl | rfl | rfl | rfl | rfl | rfl
      all_goals
        simp only [List.getElem?_cons_succ, List.getElem?_cons_zero, Option.some.injEq] at ho1
        subst ho1
        simp [Needs, Region.binds, MkF, ptr] at hd1
        try obtain ⟨hd1, hd2⟩ := hd1
      all_goals go_wp2_with fail
      all_goals exact ⟨rfl, rfl, rfl, Below.refl _ _⟩
    · intro x w1 hb1 hf1
      have f0 := hf1 0 (by omega)
      have f1 := hf1 1 (by omega)
      have f2 := hf1 2 (by omega)
      have f3 := hf1 3 (by omega)
      have f4 := hf1 4 (by omega)
      have f5 := hf1 5 (by omega)
      simp only [MkF, ptr] at f0 f1 f2 f3 f4 f5
      clear hf1
      simp only [List.take_succ_cons, List.take_zero, List.drop_succ_cons, List.drop_zero, putFrom, Act.put, List.setIfInBounds_toArray, List.set_cons_succ, List.set_cons_zero, Nat.zero_add, Nat.reduceAdd, f0, f1, f2, f3, f4, f5]
      clear f0 f1 f2 f3 f4 f5
      obtain ⟨z0, z1, hbw⟩ := HBX.out w1 hb1
      obtain rfl := HCF.out
      simp only [Cv.fn, ptr]
      have ho1 := ho.below hbw
      have hn1 : boxS w1 bn n := (hbw.block bn hn.lt).trans hn
      have happ := rem_any w1 b bn s.files n (-1) ho1 hn1 hnl hnd
      go_wp2_with fail
      go_at_call 64
      refine happ.mono ?_
      rintro e w2 ⟨rfl, ho2, ht2⟩
      have hgb : g ≠ b := by
        intro q; subst q
        obtain ⟨D, ⟨es, cl, hm, _⟩, _⟩ := ho
        unfold blk at hb; rw [hm] at hb; cases hb
      have hpb : ∀ k, pv.ownBlock = some k → k ≠ b ∧ k ≠ g := by
        intro k hk
        refine ⟨fun q => ?_, HPG.out k hk⟩
        rcases hpv.2 with ⟨rfl, _⟩ | ⟨gp, cap, cur, rfl, _, hgp, _⟩
        · cases hk
        · cases hk
          subst q
          obtain ⟨D, ⟨es, cl, hm, _⟩, _⟩ := ho
          rw [hm] at hgp; cases hgp
      have hold2 : ∀ k, k < wc.heap.size → k ≠ b → w2.heap[k]? = wc.heap[k]? := fun k hk hne => (ht2.grown.block k (Nat.lt_of_lt_of_le hk hbw.size) fun q => hne (Option.some.inj q)).trans (hbw.block k hk)
      have hb2 : w2.heap[g]? = some (blk s.cap dv (.map (some b)) pv s.off (decide (0 < s.left)) fuse) := (hold2 g hgl hgb).trans hb
      have hpv2 : Own w2 0 89 2 encV pv cs := hpv.keep fun k hk hlt => hold2 k hlt (hpb k hk).1
      have hbx2 : w2.heap[w.heap.size]? = some (.cells #[(Cv.rem bn).fn, .bool (Cv.rem bn).ap] 89) := (hold2 _ HBXL.out HNE.out.symm).trans HBXB.out
      have hB2 : w.heap.size < w2.heap.size := lt_of_block hbx2
      have hgl2 : g < w2.heap.size := lt_of_block hb2
      obtain ⟨i0, hi, hz0, hz1, hz2⟩ := info_parts info_ch
      have HGL2 := Lib.hid hgl2
      have HPB := Lib.hid hpb
      have HB2 := Lib.hid hb2
      have HBX2 := Lib.hid hbx2
      have HPV := Lib.hid hpv2
      have HOW := Lib.hid ho2
      have HOLD := Lib.hid hold2
      have HWB := Lib.hid hbw
      have HT2 := Lib.hid ht2
      have HBL := Lib.hid ho.lt
      have HGLC := Lib.hid hgl
      have HPLC := Lib.hid (show ∀ k, pv.ownBlock = some k → k < wc.heap.size from fun k hk => Nat.lt_of_lt_of_le (HPL.out k hk) hgw.size)
      have hgbn := Lib.hid hgb
      clear happ z0 z1 hn1 ho1 hb1 hbw ho2 hb hn ho hpv hold2 hpb hb2 hbx2 hpv2 HBX hgw hgl hgl2 hbxl
      go_wp2_with fail
      refine wp_region_factsC 10 ntCons (· == 7) (NtF g pv (Cv.rem bn).fn false w2.heap.size (cs ++ [(Cv.rem bn)])) (NtC w2 pv cs) (fun w w' => w.grownBy w' pv.ownBlock) ⟨⟨rfl, rfl, rfl, Nat.le_refl _, fun _ _ _ => rfl⟩, fun _ => HPV.out⟩ (by kernel_rfl) (by kernel_rfl) (by rfl) (NtF.stable _ _ _ _ _ _)
        (fun d i w w' h hn _ hb => h.step (by simpa using hn) hb) (fun d i w w' h hn _ hg => h.app' hn hg) (fun b j v w1 w' hb hc hne hj h _ => NtF.big _ _ _ _ _ _ b j v w1 w' hb hc hne hj h) ?_ ?_
      · intro i o hi0 ho1 dn x w3 hcl3 hdn hC hd3
        have hc : i = 0 ∨ i = 1 ∨ i = 2 ∨ i = 3 ∨ i = 4 ∨ i = 5 ∨ i = 6 ∨ i = 7 ∨ i = 8 ∨ i = 9 := by omega
        obtain ⟨hg3, how3⟩ := hC
        have hgb3 : w3.heap[g]? = some (blk s.cap dv (.map (some b)) pv s.off (decide (0 < s.left)) fuse) := (hg3.block g HGL2.out (fun q => (HPB.out g q.symm).2 rfl)).trans HB2.out
        have hbx3 : w3.heap[w.heap.size]? = some (.cells #[(Cv.rem bn).fn, .bool false] 89) := (hg3.block _ hB2 (fun q => Nat.lt_irrefl _ (HPL.out _ q.symm))).trans HBX2.out
        obtain ⟨-, -, -, z3, -, -, -, -⟩ := blk_cells hgb3
        have y0 : w3.cell? ⟨w.heap.size, 0, none⟩ = some (Cv.rem bn).fn := by simp [World.cell?, hbx3]
        have y1 : w3.cell? ⟨w.heap.size, 1, none⟩ = some (.bool false) := by simp [World.cell?, hbx3]
        simp only [List.take_succ_cons, List.take_zero, putFrom, Act.put, List.setIfInBounds_toArray, List.set_cons_succ, List.set_cons_zero, Nat.zero_add, Nat.reduceAdd]
        clear hgb3 hbx3 HB2 HBX2 HPB HOW HOLD HPV HPL HPG HPLC
        rcases hc with rfl | rfl | rfl | rfl | rfl | rfl | rfl | rfl | rfl | rfl
        all_goals
          simp only [List.getElem?_cons_succ, List.getElem?_cons_zero, Option.some.injEq] at ho1
          subst ho1
          simp [NeedsB, Region.binds, NtF, ntCons, ptr] at hd3
        · go_wp2_with fail
          exact ⟨rfl, rfl, rfl, Below.refl _ _⟩
        · go_wp2_with fail
          exact ⟨rfl, rfl, rfl, Below.refl _ _⟩
        · go_wp2_with fail
          exact ⟨rfl, rfl, rfl, Below.refl _ _⟩
        · go_wp2_with fail
          exact ⟨rfl, rfl, rfl, Below.refl _ _⟩
        · go_wp2_with fail
          exact ⟨rfl, rfl, rfl, Below.refl _ _⟩
        · go_wp2_with fail
          exact ⟨rfl, rfl, rfl, Below.refl _ _⟩
        · go_wp2_with fail
          exact ⟨rfl, rfl, ⟨_, rfl, heap_alloc_new _ _⟩, (Below.refl _ _).alloc (Nat.le_refl _) _⟩
        · obtain ⟨h4, x1, h6, hx1⟩ := hd3
          have how := how3 hdn
          rw [← h4] at how
          have hsr : SrcV w3 2 (x 6) 1 ([(Cv.rem bn)].flatMap encV) := by rw [h6]; exact src_ch hx1
          have H4 := Lib.hid h4
          have hsz3 := hg3.size
          clear h4 h6 hx1 z3 y0 y1
          go_wp2_with (at_builtin; refine wpList_append_any rfl _ _ _ rfl 0 89 i0 _ 2 16 und_chs hi hz0 hz1 hz2 rfl (by decide) _ cs.length (cs.flatMap encV) rfl how _ 1 ([(Cv.rem bn)].flatMap encV) rfl hsr ?ap1 ?ap2 (Nat.zero_le _) ?_)
          case ap1 => unfold maxLen; omega
          case ap2 => omega
          intro v' w4 ha
          have hown := Own.apd (m := [(Cv.rem bn)]) how rfl rfl rfl rfl ha
          have hblk : v'.ownBlock = pv.ownBlock ∨ ∃ y, v'.ownBlock = some y ∧ w2.heap.size ≤ y := by
            rcases ha.blk with q | q
            · left; rw [q, H4.out]
            · exact .inr ⟨_, q, hsz3⟩
          have hgr := ha.grown
          rw [H4.out] at hgr
          clear ha
          go_wp2_with fail
          exact ⟨rfl, rfl, ⟨hown, hblk⟩, hgr⟩
        · go_wp2_with fail
          exact ⟨rfl, rfl, rfl, Below.refl _ _⟩
        · go_wp2_with fail
          exact ⟨rfl, rfl, rfl, Below.refl _ _⟩
      · intro dn x w3 hC hf1
        have f0 := hf1 0 (by omega) (fun c hc => by simp [ntCons] at hc)
        have f1 := hf1 1 (by omega) (fun c hc => by simp [ntCons] at hc)
        have f2 := hf1 2 (by omega) (fun c hc => by simp [ntCons] at hc)
        have f3 := hf1 3 (by omega) (fun c hc => by simp [ntCons] at hc)
        have f4 := hf1 4 (by omega) (fun c hc => by simp [ntCons] at hc)
        have f5 := hf1 5 (by omega) (fun c hc => by simp [ntCons] at hc)
        have f7 := hf1 7 (by omega) (fun c hc => by simp [ntCons] at hc)
        have f8 := hf1 8 (by omega) (fun c hc => by simp [ntCons] at hc)
        have f9 := hf1 9 (by omega) (fun c hc => by simp [ntCons] at hc)
        simp only [NtF, ptr] at f0 f1 f2 f3 f4 f5 f7 f8 f9
        clear hf1
        obtain ⟨hown7, hblk7⟩ := f7
        obtain ⟨hg3, -⟩ := hC
        have hgb3 : w3.heap[g]? = some (blk s.cap dv (.map (some b)) pv s.off (decide (0 < s.left)) fuse) := (hg3.block g HGL2.out (fun q => (HPB.out g q.symm).2 rfl)).trans HB2.out
        obtain ⟨-, -, -, z3, -, -, -, zf⟩ := blk_cells hgb3
        have z3f := zf 3
        simp only [List.take_succ_cons, List.take_zero, List.drop_succ_cons, List.drop_zero, putFrom, Act.put, List.setIfInBounds_toArray, List.set_cons_succ, List.set_cons_zero, Nat.zero_add, Nat.reduceAdd, f0, f1, f2, f3, f4, f5, f8, f9]
        clear f0 f1 f2 f3 f4 f5 f8 f9
        generalize x 7 = pv' at *
        generalize x 6 = y6 at *
        have hdb4 : DB (w3.setCell ⟨g, 3, none⟩ pv') g { s with ops := s.ops ++ [(Ch.rem n)] } dv (.map (some b)) pv' := by
          refine ⟨fuse, ?_, hfu⟩
          unfold blk at hgb3
          rw [blk_set 3 pv' hgb3]; rfl
        have hdone := done_any g _ _ _ _ _ hdb4 hlf
        have HG3 := Lib.hid hg3
        have HO7 := Lib.hid hown7
        have HK7 := Lib.hid hblk7
        obtain ⟨pa, pn, pc, hpf⟩ : ∃ a n c, pv' = .slice a n c := by
          rcases hown7.2 with ⟨hv, _⟩ | ⟨_, _, _, hv, _⟩
          · exact ⟨_, _, _, hv⟩
          · exact ⟨_, _, _, hv⟩
        have hmk := fun (w4 : World) (h34 : (w3.setCell ⟨g, 3, none⟩ pv').grownBy w4 (some g)) (hdb : DB w4 g (s.add (Ch.rem n)) dv (.map (some b)) pv') =>
          HPOST.out w4 (mk_end hgbn.out HGLC.out HBL.out HPLC.out HPB.out HWB.out HT2.out.grown HG3.out h34 hdb HOW.out HO7.out HK7.out)
        have HMK := Lib.hid hmk
        subst hpf
        clear hgb3 zf hdb4 hg3 hown7 hblk7 hfu hmk
        go_wp2_with fail
        go_at_call 66
        refine hdone.mono ?_
        rintro e w4 ⟨rfl, hdb5, hg5⟩
        have hM := Lib.hid (HMK.out w4 hg5 hdb5)
        clear hdb5 hg5 hdone
        go_wp2
        go_ret
        exact ⟨rfl, hM.out⟩

end Go.Proofs.YtbfgkcgnhgfkmaaGreat.Dk
