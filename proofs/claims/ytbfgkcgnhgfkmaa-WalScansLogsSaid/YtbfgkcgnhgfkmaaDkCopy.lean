/-
  Copy of the program's disk.
-/
import Derived.Test.YtbfgkcgnhgfkmaaDkCrash
import Derived.Test.YtbfgkcgnhgfkmaaFactsB
import Derived.Test.YtbfgkcgnhgfkmaaSlc
import Derived.WalkSpells
namespace Go.Proofs.Ytbfgkcgnhgfkmaa.Dk
open Go Go.Maps Go.RowKit Go.Proofs.Ytbfgkcgnhgfkmaa.Slc
set_option linter.unusedVariables false
set_option linter.unusedSimpArgs false

set_option maxRecDepth 10000 in
theorem clone_ch (w : World) (v : Value) (cs : List Cv) (h : Rd w encV v cs) (hl : cs.length ≤ 100000) :
    Calls Try.prog 74 #[v] w fun e w' => ∃ u, e = .returned u ∧ Own w' w.heap.size 85 2 encV u cs ∧ Below w.heap.size w w' := by
  obtain ⟨i0, hi, hz0, hz1, hz2⟩ := info_parts info_ch
  have hsrc := h.src encV_ok
  rcases h with ⟨rfl, rfl⟩ | ⟨b, o, c, rfl, hlt, hc, hcell⟩
  · have hq := fun W : World => Lib.run_eql_slice_nil (P := Try.prog) W 55 _ none 0 0 0 0 und_chs
    go_enter Try.func74, Try.ntmps74
    go_wp2
    go_ret
    exact ⟨_, rfl, Own.nil _ _, Below.refl _ _⟩
  · clear hcell
    have hs1 := hsrc.below ((Below.refl w.heap.size w).alloc (Nat.le_refl _) (.cells #[] 85))
    have HS := Lib.hid hs1
    have hn := heap_alloc_new w (.cells #[] 85)
    have HN := Lib.hid hn
    have hq := fun W : World => Lib.run_eql_slice_nil (P := Try.prog) W 55 _ (some ⟨b, o, none⟩) cs.length c 0 0 und_chs
    clear hs1 hsrc hn
    go_enter Try.func74, Try.ntmps74
    have hs2 := HS.out
    have hn2 := HN.out
    go_wp2_with (at_builtin; refine wpList_append_fresh rfl _ _ _ rfl w.heap.size 85 i0 _ 2 16 und_chs hi hz0 hz1 hz2 rfl (by decide) w.heap.size rfl hn2 (Nat.le_refl _) (by simp) _ cs.length (cs.flatMap encV) rfl hs2 ?ap1 ?ap2 ?_)
    case ap1 => unfold maxLen; omega
    case ap2 => omega
    intro v' w4 hown hb _
    have HO := Lib.hid hown
    have HB := Lib.hid (((Below.refl w.heap.size w).alloc (Nat.le_refl _) (.cells #[] 85)).trans (hb.mono (by simp)))
    clear hown hb hs2 hn2 hq
    go_wp2
    go_ret
    exact ⟨_, rfl, HO.out, HB.out⟩

/-- the facts of the region that copies -/
def CpF (W : World) (g : Nat) (dv fv pv : Value) (s : St) (cs : List Cv) : Nat → (Nat → Value) → World → Prop
  | 0, x, _ => x 0 = ptr g
  | 1, x, _ => x 1 = ptr g
  | 2, x, _ => x 2 = .pointer (some ⟨g, 1, none⟩)
  | 3, x, _ => x 3 = dv
  | 4, x, w => MapV w (fun k => W.heap.size ≤ k ∧ k < w.heap.size) (x 4) s.dur
  | 5, x, _ => x 5 = ptr g
  | 6, x, _ => x 6 = ptr g
  | 7, x, _ => x 7 = .pointer (some ⟨g, 2, none⟩)
  | 8, x, _ => x 8 = fv
  | 9, x, w => MapV w (fun k => W.heap.size ≤ k ∧ k < w.heap.size ∧ x 4 ≠ .map (some k)) (x 9) s.files
  | 10, x, _ => x 10 = ptr g
  | 11, x, _ => x 11 = ptr g
  | 12, x, _ => x 12 = .pointer (some ⟨g, 3, none⟩)
  | 13, x, _ => x 13 = pv
  | 14, x, w => Own w W.heap.size 85 2 encV (x 14) cs
  | _, _, _ => True
theorem CpF.stable (W : World) (g : Nat) (dv fv pv : Value) (s : St) (cs : List Cv) (i : Nat) (x : Nat → Value) (w w' : World) (h : CpF W g dv fv pv s cs i x w) (hb : Below w.heap.size w w') : CpF W g dv fv pv s cs i x w' := by
  have hs := hb.size
  match i with
  | 0 | 1 | 2 | 3 | 5 | 6 | 7 | 8 | 10 | 11 | 12 | 13 => exact h
  | 4 => exact MapV.keep (F := fun k => W.heap.size ≤ k ∧ k < w.heap.size) h (fun k q => ⟨q.1, by omega⟩) fun k q hk => hb.block k hk
  | 9 => exact MapV.keep (F := fun k => W.heap.size ≤ k ∧ k < w.heap.size ∧ x 4 ≠ .map (some k)) h (fun k q => ⟨q.1, by omega, q.2.2⟩) fun k q hk => hb.block k hk
  | 14 => exact Own.below (t := 85) h hb
  | _ + 15 => exact trivial

theorem own_nomap {w : World} {v : Value} {cs : List Cv} {b : Nat} {l : Fs} (h : Own w 0 85 2 encV v cs) (hb : v.ownBlock = some b) (ho : OwnM w Try.prog 9 b l) : False := by
  rcases h.2 with ⟨rfl, _⟩ | ⟨gp, cap, cur, rfl, _, hgp, _⟩
  · cases hb
  · cases hb
    obtain ⟨D, ⟨es, cl, hm, _⟩, _⟩ := ho
    rw [hgp] at hm; cases hm
/-- behind Copy -/
theorem next_copy {w w1 w' : World} {g c : Nat} {s : St} {F R : Nat → Prop} {x4 x9 x14 : Value} {cs : List Cv} (h : RepP w g s F R) (hc : c = w.heap.size) (hW : Below w.heap.size w w1) (hcs : Cvs w R cs s.ops)
    (h4 : MapV w1 (fun k => w.heap.size < k ∧ k < w1.heap.size) x4 s.dur) (h9 : MapV w1 (fun k => w.heap.size < k ∧ k < w1.heap.size ∧ x4 ≠ .map (some k)) x9 s.files) (h14 : Own w1 (w.heap.size + 1) 85 2 encV x14 cs)
    (hg : w1.grownBy w' (some c)) (hc1 : c < w1.heap.size) (hdb : DB w' c s x4 x9 x14) : NextP w w' c s (fun _ => False) R := by
  subst hc
  have s1 := hW.size
  have s2 := hg.size
  have hk : ∀ k, k < w1.heap.size → k ≠ w.heap.size → w'.heap[k]? = w1.heap[k]? := fun k hk hn => hg.block k hk fun q => hn (Option.some.inj q)
  have h14' : Own w' 0 85 2 encV x14 cs := (h14.keep fun k q hl => hk k hl (by have := (h14.lt k q).1; omega)).mono (Nat.zero_le _)
  have e4 : MapV w' (fun k => x4 = .map (some k) ∨ R k) x4 s.dur := by
    rcases h4 with q | ⟨b, rfl, hb, ho⟩
    · exact .inl q
    · exact .inr ⟨b, rfl, .inl rfl, ho.kept hg fun q => by have := Option.some.inj q; omega⟩
  have e9 : MapV w' (fun k => k = w.heap.size ∨ x9 = .map (some k) ∨ x14.ownBlock = some k) x9 s.files := by
    rcases h9 with q | ⟨b, rfl, hb, ho⟩
    · exact .inl q
    · exact .inr ⟨b, rfl, .inr (.inl rfl), ho.kept hg fun q => by have := Option.some.inj q; omega⟩
  have b4 : ∀ k, x4 = .map (some k) → w.heap.size < k ∧ k < w1.heap.size := by
    intro k q
    rcases h4 with ⟨z, _⟩ | ⟨b, rfl, hb, ho⟩
    · rw [z] at q; cases q
    · cases q; exact hb
  have b9 : ∀ k, x9 = .map (some k) → (w.heap.size < k ∧ k < w1.heap.size) ∧ x4 ≠ .map (some k) := by
    intro k q
    rcases h9 with ⟨z, _⟩ | ⟨b, rfl, hb, ho⟩
    · rw [z] at q; cases q
    · cases q; exact ⟨⟨hb.1, hb.2.1⟩, hb.2.2⟩
  refine ⟨fun k => k = w.heap.size ∨ x9 = .map (some k) ∨ x14.ownBlock = some k, fun k => x4 = .map (some k) ∨ R k, ⟨h.ok, ⟨x4, x9, x14, cs, hdb, e4, e9, h14', ?_, fun k q => .inr (.inr q)⟩, .inl rfl, ?_, ?_, ?_⟩, ?_, ?_, ?_⟩
  · exact hcs.keep (fun k q => .inr q) fun k q hl => (hk k (by omega) (by omega)).trans (hW.block k hl)
  · rintro k (rfl | q | q)
    · omega
    · have := (b9 k q).1; omega
    · have := (h14.lt k q).2; omega
  · rintro k (q | q)
    · have := b4 k q; omega
    · have := h.Rlt k q; omega
  · rintro k (rfl | q | q) (z | z)
    · have := b4 _ z; omega
    · have := h.Rlt _ z; omega
    · exact (b9 k q).2 z
    · have := (b9 k q).1; have := h.Rlt k z; omega
    · rcases h4 with ⟨z', _⟩ | ⟨b, z', hb, ho⟩
      · rw [z] at z'; cases z'
      · rw [z] at z'; cases z'
        exact own_nomap (h14.mono (Nat.zero_le _)) q ho
    · have := (h14.lt k q).1; have := h.Rlt k z; omega
  · rintro k (rfl | q | q)
    · exact .inr (Nat.le_refl _)
    · have := (b9 k q).1; right; omega
    · have := (h14.lt k q).1; right; omega
  · rintro k (q | q)
    · have := b4 k q; right; omega
    · exact .inl q
  · exact Fr.below ((hW.grown hg s1 fun k hk => by cases hk; exact Nat.le_refl _))

theorem copy_end {w : World} {g : Nat} {cap : Int} {dv fv pv : Value} {off fused : Bool} {fuse : Int} (h : w.heap[g]? = some (blk cap dv fv pv off fused fuse)) (x y z : Value) :
    (((w.setCell ⟨g, 1, none⟩ x).setCell ⟨g, 2, none⟩ y).setCell ⟨g, 3, none⟩ z).heap[g]? = some (blk cap x y z off fused fuse) ∧
    w.grownBy (((w.setCell ⟨g, 1, none⟩ x).setCell ⟨g, 2, none⟩ y).setCell ⟨g, 3, none⟩ z) (some g) ∧
    w.frozen? ⟨g, 1, none⟩ = false ∧ (w.setCell ⟨g, 1, none⟩ x).frozen? ⟨g, 2, none⟩ = false ∧ ((w.setCell ⟨g, 1, none⟩ x).setCell ⟨g, 2, none⟩ y).frozen? ⟨g, 3, none⟩ = false := by
  have e1 : (w.setCell ⟨g, 1, none⟩ x).heap[g]? = some (blk cap x fv pv off fused fuse) := by unfold blk at h; rw [blk_set 1 _ h]; rfl
  have e2 : ((w.setCell ⟨g, 1, none⟩ x).setCell ⟨g, 2, none⟩ y).heap[g]? = some (blk cap x y pv off fused fuse) := by unfold blk at e1; rw [blk_set 2 _ e1]; rfl
  have e3 : (((w.setCell ⟨g, 1, none⟩ x).setCell ⟨g, 2, none⟩ y).setCell ⟨g, 3, none⟩ z).heap[g]? = some (blk cap x y z off fused fuse) := by unfold blk at e2; rw [blk_set 3 _ e2]; rfl
  exact ⟨e3, grown_trans (grown_trans (grown_set w g 1 x) (grown_set _ g 2 y)) (grown_set _ g 3 _),
    (blk_cells h).2.2.2.2.2.2.2 1, (blk_cells e1).2.2.2.2.2.2.2 2, (blk_cells e2).2.2.2.2.2.2.2 3⟩

set_option maxHeartbeats 2000000 in
set_option maxRecDepth 10000 in
theorem copy_any (w : World) (g : Nat) (s : St) (F R : Nat → Prop) (h : RepP w g s F R) (ho : s.ops.length ≤ 10000) :
    Calls Try.prog 37 #[ptr g] w fun e w' => e = .returned (ptr w.heap.size) ∧ NextP w w' w.heap.size s (fun _ => False) R := by
  obtain ⟨dv, fv, pv, cs, ⟨fuse, hblk, hfu⟩, hdv, hfv, hpv, hcs, hpF⟩ := h.body
  have hlen := Cvs.length hcs
  obtain ⟨dm, hdm⟩ : ∃ m, dv = .map m := by rcases hdv with ⟨q, _⟩ | ⟨b, q, _⟩ <;> exact ⟨_, q⟩
  obtain ⟨fm, hfm⟩ : ∃ m, fv = .map m := by rcases hfv with ⟨q, _⟩ | ⟨b, q, _⟩ <;> exact ⟨_, q⟩
  obtain ⟨pa, pc, hpm, -⟩ := hpv.rd.form
  subst hdm hfm hpm
  have hbW : Below w.heap.size w (w.alloc (blk s.cap (.map dm) (.map fm) (.slice pa cs.length pc) s.off (decide (0 < s.left)) fuse)) := (Below.refl _ w).alloc (Nat.le_refl _) _
  have hcW := heap_alloc_new w (blk s.cap (.map dm) (.map fm) (.slice pa cs.length pc) s.off (decide (0 < s.left)) fuse)
  have hsW : (w.alloc (blk s.cap (.map dm) (.map fm) (.slice pa cs.length pc) s.off (decide (0 < s.left)) fuse)).heap.size = w.heap.size + 1 := by simp
  obtain ⟨c0, c1, c2, c3, c4, c5, c6, -⟩ := blk_cells hblk
  have HB := Lib.hid hblk
  have HF := Lib.hid hfu
  have HDV := Lib.hid hdv
  have HFV := Lib.hid hfv
  have HPV := Lib.hid hpv
  have HCS := Lib.hid hcs
  have HLEN := Lib.hid hlen
  have H := Lib.hid h
  clear hblk hfu hdv hfv hpv hcs hpF hlen h
  unfold ptr
  go_enter Try.func37, Try.ntmps37
  go_wp2_with fail
  change Code.wp _ _ _ _ (w.alloc (blk s.cap (.map dm) (.map fm) (.slice pa cs.length pc) s.off (decide (0 < s.left)) fuse))
  generalize hWd : w.alloc (blk s.cap (.map dm) (.map fm) (.slice pa cs.length pc) s.off (decide (0 < s.left)) fuse) = W at *
  have HBW := Lib.hid hbW
  have HCW := Lib.hid hcW
  have HSW := Lib.hid hsW
  clear hbW hcW hsW hWd c0 c1 c2 c3 c4 c5 c6
  refine wp_region_factsE 15 (CpF W g (.map dm) (.map fm) (.slice pa cs.length pc) s cs) (by kernel_rfl) (by kernel_rfl) (by rfl) ?_ (CpF.stable W g (.map dm) (.map fm) (.slice pa cs.length pc) s cs) ?_ ?_
  · intro j oj x y w1 hoj hj e hd hF
    have hc : j = 0 ∨ j = 1 ∨ j = 2 ∨ j = 3 ∨ j = 4 ∨ j = 5 ∨ j = 6 ∨ j = 7 ∨ j = 8 ∨ j = 9 ∨ j = 10 ∨ j = 11 ∨ j = 12 ∨ j = 13 ∨ j = 14 := by omega
    rcases hc with rfl | rfl | rfl | rfl | rfl | rfl | rfl | rfl | rfl | rfl | rfl | rfl | rfl | rfl | rfl
    all_goals
      simp only [List.getElem?_cons_succ, List.getElem?_cons_zero, Option.some.injEq] at hoj
      subst hoj
      simp [Region.binds] at hd
      simp only [CpF] at hF ⊢
      first
        | (rw [← e]; exact hF)
        | (rw [← e, ← hd.2]; exact hF)
        | (rw [← e, ← hd.1]; exact hF)
  · intro i o hi0 ho1 x w1 hb1 hd1
    have hc : i = 0 ∨ i = 1 ∨ i = 2 ∨ i = 3 ∨ i = 4 ∨ i = 5 ∨ i = 6 ∨ i = 7 ∨ i = 8 ∨ i = 9 ∨ i = 10 ∨ i = 11 ∨ i = 12 ∨ i = 13 ∨ i = 14 := by omega
    have hbw : Below w.heap.size w w1 := HBW.out.trans (hb1.mono (by rw [HSW.out]; omega))
    have hb1g := (hbw.block g (lt_of_block HB.out)).trans HB.out
    obtain ⟨-, z1, z2, z3, -, -, -, -⟩ := blk_cells hb1g
    have HBW1 := Lib.hid hbw
    have HB1 := Lib.hid hb1
    have hcl4 := clone_any w1 R (.map dm) s.dur (HDV.out.keep (fun _ q => q) fun k q hk => hbw.block k hk)
    have hcl9 := clone_any w1 F (.map fm) s.files (HFV.out.keep (fun _ q => q) fun k q hk => hbw.block k hk)
    have hcl14 := clone_ch w1 (.slice pa cs.length pc) cs (HPV.out.rd.below hbw) (by have := HLEN.out; omega)
    simp only [List.take_succ_cons, List.take_zero, putFrom, Act.put, List.setIfInBounds_toArray, List.set_cons_succ, List.set_cons_zero, Nat.zero_add, Nat.reduceAdd]
    clear hb1g hb1 hbw HB HF HDV HFV HPV HCS H
    rcases hc with rfl | rfl | rfl | rfl | rfl | rfl | rfl | rfl | rfl | rfl | rfl | rfl | rfl | rfl | rfl
    all_goals
      simp only [List.getElem?_cons_succ, List.getElem?_cons_zero, Option.some.injEq] at ho1
      subst ho1
      simp [NeedsB, Region.binds, CpF, ptr] at hd1
    all_goals clear hi0
    all_goals first
      | (clear hcl4 hcl9 hcl14; go_wp2_with fail; exact ⟨rfl, rfl, rfl, Below.refl _ _⟩)
      | skip
    · clear hcl9 hcl14
      go_wp2_with fail
      go_at_call 66
      refine hcl4.mono ?_
      rintro e w2 ⟨u, rfl, hu, hb⟩
      have HU := Lib.hid hu
      have HBB := Lib.hid hb
      clear hu hb hcl4
      go_wp2_with fail
      refine ⟨rfl, rfl, ?_, HBB.out⟩
      simp only [CpF, upd, if_true]
      exact HU.out.keep (fun k q => ⟨Nat.le_trans HB1.out.size q.1, q.2⟩) fun k q hk => rfl
    · obtain ⟨hd1, hd4⟩ := hd1
      have HD4 := Lib.hid hd4
      clear hcl4 hcl14 hd4
      go_wp2_with fail
      go_at_call 66
      refine hcl9.mono ?_
      rintro e w2 ⟨u, rfl, hu, hb⟩
      have HU := Lib.hid hu
      have HBB := Lib.hid hb
      clear hu hb hcl9
      go_wp2_with fail
      refine ⟨rfl, rfl, ?_, HBB.out⟩
      simp only [CpF, upd, if_true]
      refine HU.out.keep (fun k q => ⟨Nat.le_trans HB1.out.size q.1, q.2, ?_⟩) fun k q hk => rfl
      show x 4 ≠ _
      intro z
      rcases HD4.out with ⟨z', _⟩ | ⟨b, z', hb, _⟩
      · rw [z] at z'; cases z'
      · rw [z] at z'; cases z'; omega
    · clear hcl4 hcl9
      go_wp2_with fail
      go_at_call 74
      refine hcl14.mono ?_
      rintro e w2 ⟨u, rfl, hu, hb⟩
      have HU := Lib.hid hu
      have HBB := Lib.hid hb
      clear hu hb hcl14
      go_wp2_with fail
      refine ⟨rfl, rfl, ?_, HBB.out⟩
      simp only [CpF, upd, if_true]
      exact HU.out.mono HB1.out.size
  · intro x w1 hb1 hf
    have f4 := hf 4 (by omega)
    have f9 := hf 9 (by omega)
    have f14 := hf 14 (by omega)
    simp only [CpF] at f4 f9 f14
    simp only [List.take_succ_cons, List.take_zero, List.drop_succ_cons, List.drop_zero, putFrom, Act.put, List.setIfInBounds_toArray, List.set_cons_succ, List.set_cons_zero, Nat.zero_add, Nat.reduceAdd]
    clear hf
    obtain ⟨m4, h4⟩ : ∃ m, x 4 = .map m := by rcases f4 with ⟨q, _⟩ | ⟨b, q, _⟩ <;> exact ⟨_, q⟩
    obtain ⟨m9, h9⟩ : ∃ m, x 9 = .map m := by rcases f9 with ⟨q, _⟩ | ⟨b, q, _⟩ <;> exact ⟨_, q⟩
    obtain ⟨a14, c14, h14, -⟩ := f14.rd.form
    rw [h4] at f4 f9
    rw [h9] at f9
    rw [h14] at f14
    have hbw : Below w.heap.size w w1 := HBW.out.trans (hb1.mono (by rw [HSW.out]; omega))
    have hk1 := (hb1.block w.heap.size (by rw [HSW.out]; omega)).trans HCW.out
    obtain ⟨-, z1, z2, z3, -, -, -, -⟩ := blk_cells hk1
    obtain ⟨h5, hg5, q1, q2, q3⟩ := copy_end hk1 (.map m4) (.map m9) (.slice a14 cs.length c14)
    have hl1 : w.heap.size < w1.heap.size := lt_of_block hk1
    have HM := Lib.hid (next_copy H.out rfl hbw HCS.out (f4.keep (fun k q => ⟨by have := HSW.out; omega, q.2⟩) fun k q hk => rfl) (f9.keep (fun k q => ⟨by have := HSW.out; omega, q.2⟩) fun k q hk => rfl) (by have := HSW.out; rw [← this]; exact f14) hg5 hl1 ⟨fuse, h5, HF.out⟩)
    simp only [h4, h9, h14]
    clear f4 f9 f14 hbw hk1 h5 hg5 h4 h9 h14 hb1
    go_wp2
    go_ret
    exact ⟨rfl, HM.out⟩

end Go.Proofs.Ytbfgkcgnhgfkmaa.Dk
