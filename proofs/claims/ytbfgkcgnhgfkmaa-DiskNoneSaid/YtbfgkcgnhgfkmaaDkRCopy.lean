/-
  Copy of the reference's disk. (Written by wip/gen/gen_rcopy.py.)
-/
import Derived.Test.YtbfgkcgnhgfkmaaDkRAdd
import Derived.Test.YtbfgkcgnhgfkmaaFactsB
namespace Go.Proofs.Ytbfgkcgnhgfkmaa.Dk
open Go Go.Maps Go.RowKit Go.Proofs.Ytbfgkcgnhgfkmaa.Slc
set_option linter.unusedVariables false
set_option linter.unusedSimpArgs false

def RcF (W : World) (g : Nat) (fv ov : Value) (s : St) : Nat → Value → World → Prop
  | 0, v, _ => v = ptr g
  | 1, v, _ => v = ptr g
  | 2, v, _ => v = .pointer (some ⟨g, 0, none⟩)
  | 3, v, _ => v = .int .i64 s.cap
  | 4, v, w => ∃ g0, v = .slice (some ⟨g0, 0, none⟩) 0 0 ∧ w.heap[g0]? = some (.cells #[] 98 (0, 0)) ∧ W.heap.size ≤ g0
  | 5, v, _ => v = ptr g
  | 6, v, _ => v = ptr g
  | 7, v, _ => v = .pointer (some ⟨g, 1, none⟩)
  | 8, v, _ => v = fv
  | 9, v, w => Own w W.heap.size 98 2 encF v s.dur
  | 10, v, w => ∃ g0, v = .slice (some ⟨g0, 0, none⟩) 0 0 ∧ w.heap[g0]? = some (.cells #[] 101 (0, 0)) ∧ W.heap.size ≤ g0
  | 11, v, _ => v = ptr g
  | 12, v, _ => v = ptr g
  | 13, v, _ => v = .pointer (some ⟨g, 2, none⟩)
  | 14, v, _ => v = ov
  | 15, v, w => Own w W.heap.size 101 3 encO v s.ops
  | 16, v, _ => v = ptr g
  | 17, v, _ => v = ptr g
  | 18, v, _ => v = .pointer (some ⟨g, 3, none⟩)
  | 19, v, _ => v = .int .i64 s.left
  | 20, v, _ => v = ptr g
  | 21, v, _ => v = ptr g
  | 22, v, _ => v = .pointer (some ⟨g, 4, none⟩)
  | 23, v, _ => v = .bool s.off
  | _, _, _ => True
theorem RcF.stable (W : World) (g : Nat) (fv ov : Value) (s : St) (i : Nat) (v : Value) (w w' : World) (h : RcF W g fv ov s i v w) (hb : Below w.heap.size w w') : RcF W g fv ov s i v w' := by
  match i with
  | 0 | 1 | 2 | 3 | 5 | 6 | 7 | 8 | 11 | 12 | 13 | 14 | 16 | 17 | 18 | 19 | 20 | 21 | 22 | 23 => exact h
  | 4 => obtain ⟨g, h1, h2, h3⟩ := h; exact ⟨g, h1, (hb.block g (lt_of_block h2)).trans h2, h3⟩
  | 10 => obtain ⟨g, h1, h2, h3⟩ := h; exact ⟨g, h1, (hb.block g (lt_of_block h2)).trans h2, h3⟩
  | 9 => exact Own.below (t := 98) h hb
  | 15 => exact Own.below (t := 101) h hb
  | _ + 24 => exact trivial

theorem own_types {w : World} {u v : Value} {l : Fs} {o : List Ch} {b : Nat} (h : Own w 0 98 2 encF u l) (h' : Own w 0 101 3 encO v o) (hu : u.ownBlock = some b) (hv : v.ownBlock = some b) : False := by
  rcases h.2 with ⟨rfl, _⟩ | ⟨g1, c1, k1, rfl, _, hg1, _⟩
  · cases hu
  · rcases h'.2 with ⟨rfl, _⟩ | ⟨g2, c2, k2, rfl, _, hg2, _⟩
    · cases hv
    · cases hu; cases hv
      rw [hg1] at hg2
      simp at hg2
/-- behind Copy -/
theorem next_rcopy {w w1 w' : World} {g c : Nat} {s : St} {F R : Nat → Prop} {u v : Value} (h : RepR w g s F R) (hb : Below w.heap.size w w1) (hu : Own w1 w.heap.size 98 2 encF u s.dur) (hv : Own w1 w.heap.size 101 3 encO v s.ops)
    (hc : c = w1.heap.size) (h' : w' = w1.alloc (rblk s.cap u v s.left s.off)) : NextR w w' c s (fun _ => False) (fun _ => False) ∧ Below w.heap.size w w' := by
  subst hc h'
  have hs := hb.size
  have hB : Below w1.heap.size w1 (w1.alloc (rblk s.cap u v s.left s.off)) := (Below.refl _ _).alloc (Nat.le_refl _) _
  have hB' := hb.trans (hB.mono hs)
  refine ⟨⟨fun k => k = w1.heap.size ∨ v.ownBlock = some k, fun k => u.ownBlock = some k, ⟨h.ok, ⟨u, v, heap_alloc_new _ _, (hu.below hB).rd, fun k q => q, (hv.below hB).mono (Nat.zero_le _), fun k q => .inr q⟩, .inl rfl, ?_, ?_, ?_⟩, ?_, ?_, Fr.below hB'⟩, hB'⟩
  · rintro k (rfl | q)
    · simp
    · have := (hv.lt k q).2; simp; omega
  · intro k q; have := (hu.lt k q).2; simp; omega
  · rintro k (rfl | q) z
    · have := (hu.lt _ z).2; omega
    · exact own_types (hu.mono (Nat.zero_le _)) (hv.mono (Nat.zero_le _)) z q
  · rintro k (rfl | q)
    · exact .inr hs
    · exact .inr (hv.lt k q).1
  · intro k q; exact .inr (hu.lt k q).1

set_option maxHeartbeats 2000000 in
set_option maxRecDepth 10000 in
theorem rcopy_any (w : World) (g : Nat) (s : St) (F R : Nat → Prop) (h : RepR w g s F R) (ho : s.ops.length ≤ 10000) :
    Calls Try.prog 38 #[ptr g] w fun e w' => ∃ c, e = .returned (ptr c) ∧ NextR w w' c s (fun _ => False) (fun _ => False) ∧ Below w.heap.size w w' := by
  obtain ⟨a0, ai, a1, a2, a3⟩ := info_parts info_file
  obtain ⟨b0, bi, b1, b2, b3⟩ := info_parts info_op
  have H := Lib.hid h
  have h16 : s.dur.length ≤ 1000 := by have := h.ok.cnt 0 (Nat.zero_le _); rw [List.take_zero, aps_nil] at this; omega
  have HLN := Lib.hid (show s.dur.length ≤ 1000 ∧ s.ops.length ≤ 10000 from ⟨h16, ho⟩)
  obtain ⟨fv, ov, hdr, hfv, hfR, hov, hoF⟩ := h.body
  obtain ⟨oa, oc, hof, -⟩ := hov.rd.form
  obtain ⟨fa, fc, hff, -⟩ := hfv.form
  subst hof hff
  have hblk : w.heap[g]? = some (rblk s.cap (.slice fa s.dur.length fc) (.slice oa s.ops.length oc) s.left s.off) := hdr
  have HB := Lib.hid hblk
  have HFV := Lib.hid hfv
  have HOV := Lib.hid hov
  clear h hdr hblk hfv hfR hov hoF h16 ho
  unfold ptr
  go_enter Try.func38, Try.ntmps38
  go_wp2_with fail
  refine wp_region_facts 24 (RcF w g (.slice fa s.dur.length fc) (.slice oa s.ops.length oc) s) (by kernel_rfl) (by kernel_rfl) (by rfl) (RcF.stable _ _ _ _ _) ?_ ?_
  · intro i o hi9 ho1 x w1 hb1 hd1
    have hc : i = 0 ∨ i = 1 ∨ i = 2 ∨ i = 3 ∨ i = 4 ∨ i = 5 ∨ i = 6 ∨ i = 7 ∨ i = 8 ∨ i = 9 ∨ i = 10 ∨ i = 11 ∨ i = 12 ∨ i = 13 ∨ i = 14 ∨ i = 15 ∨ i = 16 ∨ i = 17 ∨ i = 18 ∨ i = 19 ∨ i = 20 ∨ i = 21 ∨ i = 22 ∨ i = 23 := by omega
    have hk := (hb1.block g (lt_of_block HB.out)).trans HB.out
    obtain ⟨z0, z1, z2, z3, z4, -⟩ := rblk_cells hk
    have hsf := (HFV.out.below hb1).src encF_ok
    have hso := (HOV.out.rd.below hb1).src encO_ok
    have HB1 := Lib.hid hb1
    simp only [List.take_succ_cons, List.take_zero, putFrom, Act.put, List.setIfInBounds_toArray, List.set_cons_succ, List.set_cons_zero, Nat.zero_add, Nat.reduceAdd]
    clear hb1 hk HB HFV HOV H
    rcases hc with rfl | rfl | rfl | rfl | rfl | rfl | rfl | rfl | rfl | rfl | rfl | rfl | rfl | rfl | rfl | rfl | rfl | rfl | rfl | rfl | rfl | rfl | rfl | rfl
    all_goals
      simp only [List.getElem?_cons_succ, List.getElem?_cons_zero, Option.some.injEq] at ho1
      subst ho1
      simp [Needs, Region.binds, RcF, ptr] at hd1
    all_goals clear hi9
    · go_wp2_with fail
      exact ⟨rfl, rfl, rfl, Below.refl _ _⟩
    · go_wp2_with fail
      exact ⟨rfl, rfl, rfl, Below.refl _ _⟩
    · go_wp2_with fail
      exact ⟨rfl, rfl, rfl, Below.refl _ _⟩
    · go_wp2_with fail
      exact ⟨rfl, rfl, rfl, Below.refl _ _⟩
    · have HS := Lib.hid HB1.out.size
      go_wp2_with fail
      exact ⟨rfl, rfl, ⟨_, rfl, heap_alloc_new _ _, HS.out⟩, (Below.refl _ _).alloc (Nat.le_refl _) _⟩
    · go_wp2_with fail
      exact ⟨rfl, rfl, rfl, Below.refl _ _⟩
    · go_wp2_with fail
      exact ⟨rfl, rfl, rfl, Below.refl _ _⟩
    · go_wp2_with fail
      exact ⟨rfl, rfl, rfl, Below.refl _ _⟩
    · go_wp2_with fail
      exact ⟨rfl, rfl, rfl, Below.refl _ _⟩
    · obtain ⟨⟨g0, h0, hg0, hl0⟩, h3⟩ := hd1
      have hsr := hsf
      rw [← h3] at hsr
      have hsz := HB1.out.size
      have hln := HLN.out
      clear h3 hsf hso
      go_wp2_with (at_builtin; refine wpList_append_fresh rfl _ _ _ rfl w.heap.size 98 a0 _ 2 32 und_files ai a1 a2 a3 rfl (by decide) g0 h0 hg0 hl0 hsz (x 8) s.dur.length (s.dur.flatMap encF) rfl hsr ?ap1 ?ap2 ?_)
      case ap1 => unfold maxLen; omega
      case ap2 => omega
      intro v' w4 hown hb4 _
      have HO4 := Lib.hid (Own.of (l := s.dur) hown rfl rfl)
      have HB4 := Lib.hid hb4
      clear hown hb4 hsr hsz hln
      go_wp2_with fail
      exact ⟨rfl, rfl, HO4.out, HB4.out⟩
    · have HS := Lib.hid HB1.out.size
      go_wp2_with fail
      exact ⟨rfl, rfl, ⟨_, rfl, heap_alloc_new _ _, HS.out⟩, (Below.refl _ _).alloc (Nat.le_refl _) _⟩
    · go_wp2_with fail
      exact ⟨rfl, rfl, rfl, Below.refl _ _⟩
    · go_wp2_with fail
      exact ⟨rfl, rfl, rfl, Below.refl _ _⟩
    · go_wp2_with fail
      exact ⟨rfl, rfl, rfl, Below.refl _ _⟩
    · go_wp2_with fail
      exact ⟨rfl, rfl, rfl, Below.refl _ _⟩
    · obtain ⟨⟨g0, h0, hg0, hl0⟩, h3, -⟩ := hd1
      have hsr := hso
      rw [← h3] at hsr
      have hsz := HB1.out.size
      have hln := HLN.out
      clear h3 hsf hso
      go_wp2_with (at_builtin; refine wpList_append_fresh rfl _ _ _ rfl w.heap.size 101 b0 _ 3 40 und_ops bi b1 b2 b3 rfl (by decide) g0 h0 hg0 hl0 hsz (x 14) s.ops.length (s.ops.flatMap encO) rfl hsr ?ap1 ?ap2 ?_)
      case ap1 => unfold maxLen; omega
      case ap2 => omega
      intro v' w4 hown hb4 _
      have HO4 := Lib.hid (Own.of (l := s.ops) hown rfl rfl)
      have HB4 := Lib.hid hb4
      clear hown hb4 hsr hsz hln
      go_wp2_with fail
      exact ⟨rfl, rfl, HO4.out, HB4.out⟩
    · go_wp2_with fail
      exact ⟨rfl, rfl, rfl, Below.refl _ _⟩
    · go_wp2_with fail
      exact ⟨rfl, rfl, rfl, Below.refl _ _⟩
    · go_wp2_with fail
      exact ⟨rfl, rfl, rfl, Below.refl _ _⟩
    · go_wp2_with fail
      exact ⟨rfl, rfl, rfl, Below.refl _ _⟩
    · go_wp2_with fail
      exact ⟨rfl, rfl, rfl, Below.refl _ _⟩
    · go_wp2_with fail
      exact ⟨rfl, rfl, rfl, Below.refl _ _⟩
    · go_wp2_with fail
      exact ⟨rfl, rfl, rfl, Below.refl _ _⟩
    · go_wp2_with fail
      exact ⟨rfl, rfl, rfl, Below.refl _ _⟩
  · intro x w1 hb1 hf
    have f3 := hf 3 (by omega)
    have f9 := hf 9 (by omega)
    have f15 := hf 15 (by omega)
    have f19 := hf 19 (by omega)
    have f23 := hf 23 (by omega)
    simp only [RcF] at f3 f9 f15 f19 f23
    simp only [List.take_succ_cons, List.take_zero, List.drop_succ_cons, List.drop_zero, putFrom, Act.put, List.setIfInBounds_toArray, List.set_cons_succ, List.set_cons_zero, Nat.zero_add, Nat.reduceAdd, f3, f19, f23]
    clear hf
    obtain ⟨a9, c9, h9, -⟩ := f9.rd.form
    obtain ⟨a15, c15, h15, -⟩ := f15.rd.form
    have HM := Lib.hid (next_rcopy H.out hb1 f9 f15 rfl rfl)
    rw [h9, h15] at HM
    simp only [h9, h15]
    clear f3 f9 f15 f19 f23 h9 h15 hb1
    go_wp2
    go_ret
    exact ⟨_, rfl, HM.out⟩

end Go.Proofs.Ytbfgkcgnhgfkmaa.Dk
