/-
  The reference's apply. (Written by wip/gen/gen_rapply.py.)
-/
import Derived.Test.YtbfgkcgnhgfkmaaGreatDkRWithout
namespace Go.Proofs.YtbfgkcgnhgfkmaaGreat.Dk
open Go Go.Maps Go.RowKit Go.Proofs.YtbfgkcgnhgfkmaaGreat.Slc
set_option linter.unusedVariables false
set_option linter.unusedSimpArgs false

theorem cells_at {w : World} {g : Nat} {cs : Array Value} {t : TypeId} (h : w.heap[g]? = some (.cells cs t (0, 0))) (i : Nat) : w.cell? ⟨g, i, none⟩ = cs[i]? := by simp [World.cell?, h]
theorem whI_no {l : Fs} {n : B} (h : has l n = false) : whI l n = -1 := by unfold whI; rw [h]; rfl
theorem whI_yes {l : Fs} {n : B} (h : has l n = true) : whI l n = (wh l n : Nat) := by unfold whI; rw [if_pos h]
theorem ap_app_no {l : Fs} {n d : B} (h : has l n = false) : ap l (.app n d) = l ++ [(n, d)] := by unfold ap; simp [h]
theorem ap_app_yes {l : Fs} {n d : B} (h : has l n = true) : ap l (.app n d) = l.set (wh l n) (n, (get l n).getD [] ++ d) := by unfold ap; simp [h]
theorem ap_ren_no {l : Fs} {a b : B} (h : has l a = false ∨ a = b) : ap l (.ren a b) = l := by
  unfold ap; rcases h with h | h <;> simp [h]
theorem ap_ren_yes {l : Fs} {a b : B} (h : has l a = true) (hab : a ≠ b) : ap l (.ren a b) = (if has (drop l a) b = true then drop (drop l a) b else drop l a) ++ [(b, (get l a).getD [])] := by
  unfold ap; simp [h, hab]
theorem ap_rem_no {l : Fs} {n : B} (h : has l n = false) : ap l (.rem n) = l := by unfold ap; simp [h]
theorem ap_rem_yes {l : Fs} {n : B} (h : has l n = true) : ap l (.rem n) = l.eraseIdx (wh l n) := by unfold ap; simp [h]; rfl

theorem src_file {w : World} {x : Nat} {p : B × B} (h : w.heap[x]? = some (.cells #[.string (bstr p.1), .string (bstr p.2)] 75 (0, 0))) : SrcV w 2 (.slice (some ⟨x, 0, none⟩) 1 1) 1 ([p].flatMap encF) := by
  refine .ro _ _ _ _ rfl ?_ (one_mem encF_ok [p])
  intro j u hj
  rw [add_at]
  match j, hj with
  | 0, hj => simp [encF] at hj; subst hj; simp [World.cell?, h]
  | 1, hj => simp [encF] at hj; subst hj; simp [World.cell?, h]

set_option maxHeartbeats 1000000 in
set_option maxRecDepth 10000 in
theorem apply_app0 (w : World) (sv : Value) (l : Fs) (n d : B) (hh : has l n = false) (h : Rd w encF sv l) (hl : l.length ≤ 100000) :
    Calls Tryz.prog 57 #[sv, .agg #[.int .i64 1, .string (bstr n), .string (bstr d)]] w fun e w' => ∃ u, e = .returned u ∧ Own w' w.heap.size 75 2 encF u (ap l (.app n d)) ∧ Below w.heap.size w w' := by
  obtain ⟨i0, hi0, hz0, hz1, hz2⟩ := info_parts info_file
  have hW : Below w.heap.size w ((w.alloc (.cells #[.int .i64 1, .string (bstr n), .string (bstr d)] 92)).alloc (.cells #[] 75)) := ((Below.refl _ w).alloc (Nat.le_refl _) _).alloc (by simp) _
  have hW1 : ((w.alloc (.cells #[.int .i64 1, .string (bstr n), .string (bstr d)] 92)).alloc (.cells #[] 75)).heap[w.heap.size + 1]? = some (.cells #[] 75 (0, 0)) := by
    have := heap_alloc_new (w.alloc (.cells #[.int .i64 1, .string (bstr n), .string (bstr d)] 92)) (.cells #[] 75)
    rwa [show (w.alloc (.cells #[.int .i64 1, .string (bstr n), .string (bstr d)] 92)).heap.size = w.heap.size + 1 by simp] at this
  have hW0 : ((w.alloc (.cells #[.int .i64 1, .string (bstr n), .string (bstr d)] 92)).alloc (.cells #[] 75)).heap[w.heap.size]? = some (.cells #[.int .i64 1, .string (bstr n), .string (bstr d)] 92 (0, 0)) :=
    (Below.heap_alloc _ _ w.heap.size (by simp)).trans (heap_alloc_new _ _)
  have hsr := (h.below hW).src encF_ok
  have HW := Lib.hid hW
  have HW0 := Lib.hid hW0
  have HAP := Lib.hid (ap_app_no (d := d) hh)
  have HRES := Lib.hid (whI_no hh)
  clear hh
  obtain ⟨ad, cp, hv, hcp⟩ := h.form
  subst hv
  clear h hW hW0
  go_enter Tryz.func57, Tryz.ntmps57
  go_wp2_with (at_builtin; refine wpList_append_fresh rfl _ _ _ rfl w.heap.size 75 i0 _ 2 32 und_files hi0 hz0 hz1 hz2 rfl (by decide) (w.heap.size + 1) rfl hW1 (by omega) (by simp; omega) _ l.length (l.flatMap encF) rfl hsr ?ap1 ?ap2 ?_)
  case ap1 => unfold maxLen; omega
  case ap2 => omega
  intro v1 w1 hown hb1 hblk1
  have hbw : Below w.heap.size w w1 := HW.out.trans (hb1.mono (by omega))
  have hop := (hb1.block w.heap.size (by omega)).trans HW0.out
  have k0 := cells_at hop 0
  have k1 := cells_at hop 1
  have k2 := cells_at hop 2
  simp only [List.getElem?_toArray, List.getElem?_cons_zero, List.getElem?_cons_succ] at k0 k1 k2
  have hown : Own w1 w.heap.size 75 2 encF v1 l := hown
  have hwh := fun n => where_any v1 l n w1 hown.rd (by omega)
  have HWH := Lib.hid hwh
  have HO1 := Lib.hid hown
  have HBW := Lib.hid hbw
  have HOP := Lib.hid hop
  obtain ⟨a1, c1, hv1, hc1⟩ := hown.rd.form
  subst hv1
  clear hb1 hbw hop hwh hown hW1 hsr hblk1
  go_wp2_with fail
  go_at_call 38
  refine (HWH.out n).mono ?_
  rw [HRES.out]
  rintro e w' ⟨rfl, rfl⟩
  have HBX := Lib.hid ((Below.refl w1.heap.size w1).alloc (Nat.le_refl _) (.cells #[.string (bstr n), .string (bstr d)] 75))
  have HON := Lib.hid (HO1.out.below HBX.out)
  have HSN := Lib.hid (src_file (p := (n, d)) (heap_alloc_new w1 (.cells #[.string (bstr n), .string (bstr d)] 75)))
  have HBN := Lib.hid (HBW.out.trans (HBX.out.mono HBW.out.size))
  have HLN := Lib.hid HBN.out.size
  have HLL := Lib.hid hl
  clear hcp hc1
  go_wp2_with (at_builtin; refine wpList_append_any rfl _ _ _ rfl w.heap.size 75 i0 _ 2 32 und_files hi0 hz0 hz1 hz2 rfl (by decide) _ (l).length ((l).flatMap encF) rfl HON.out _ 1 ([(n, d)].flatMap encF) rfl HSN.out ?ap1 ?ap2 HLN.out ?_)
  case ap1 => have := HLL.out; unfold maxLen; omega
  case ap2 => have := HLL.out; omega
  intro v4 w4 ha
  have HO4 := Lib.hid (Own.apd (m := [(n, d)]) HON.out rfl rfl rfl rfl ha)
  have HB4 := Lib.hid (HBN.out.grown ha.grown HLN.out fun k hk => (World.ownsRow.lt HON.out k hk).1)
  clear ha
  go_wp2
  go_ret
  exact ⟨_, rfl, by rw [HAP.out]; exact HO4.out, HB4.out⟩

set_option maxHeartbeats 1000000 in
set_option maxRecDepth 10000 in
theorem apply_app1 (w : World) (sv : Value) (l : Fs) (n d : B) (hh : has l n = true) (hd : ((get l n).getD []).length + d.length ≤ 100000000) (h : Rd w encF sv l) (hl : l.length ≤ 100000) :
    Calls Tryz.prog 57 #[sv, .agg #[.int .i64 1, .string (bstr n), .string (bstr d)]] w fun e w' => ∃ u, e = .returned u ∧ Own w' w.heap.size 75 2 encF u (ap l (.app n d)) ∧ Below w.heap.size w w' := by
  obtain ⟨i0, hi0, hz0, hz1, hz2⟩ := info_parts info_file
  have hW : Below w.heap.size w ((w.alloc (.cells #[.int .i64 1, .string (bstr n), .string (bstr d)] 92)).alloc (.cells #[] 75)) := ((Below.refl _ w).alloc (Nat.le_refl _) _).alloc (by simp) _
  have hW1 : ((w.alloc (.cells #[.int .i64 1, .string (bstr n), .string (bstr d)] 92)).alloc (.cells #[] 75)).heap[w.heap.size + 1]? = some (.cells #[] 75 (0, 0)) := by
    have := heap_alloc_new (w.alloc (.cells #[.int .i64 1, .string (bstr n), .string (bstr d)] 92)) (.cells #[] 75)
    rwa [show (w.alloc (.cells #[.int .i64 1, .string (bstr n), .string (bstr d)] 92)).heap.size = w.heap.size + 1 by simp] at this
  have hW0 : ((w.alloc (.cells #[.int .i64 1, .string (bstr n), .string (bstr d)] 92)).alloc (.cells #[] 75)).heap[w.heap.size]? = some (.cells #[.int .i64 1, .string (bstr n), .string (bstr d)] 92 (0, 0)) :=
    (Below.heap_alloc _ _ w.heap.size (by simp)).trans (heap_alloc_new _ _)
  have hsr := (h.below hW).src encF_ok
  have HW := Lib.hid hW
  have HW0 := Lib.hid hW0
  have HAP := Lib.hid (ap_app_yes (d := d) hh)
  have hiw : wh l n < l.length := (wh_lt l n).1 hh
  have hres : whI l n = (wh l n : Nat) := whI_yes hh
  obtain ⟨hat1, hat2⟩ := wh_at l n hiw
  obtain ⟨i, hii⟩ : ∃ i, wh l n = i := ⟨_, rfl⟩
  have hi : i < l.length := by omega
  have hli : l[i]'hi = (n, (get l n).getD []) := by
    subst hii
    apply Prod.ext
    · exact hat1
    · rw [hat2]; rfl
  rw [hii] at hres HAP
  have HRES := Lib.hid hres
  have HLI := Lib.hid hli
  have HD := Lib.hid hd
  clear hh hres hat1 hat2 hiw hd hii hli
  generalize (get l n).getD [] = od at *
  obtain ⟨ad, cp, hv, hcp⟩ := h.form
  subst hv
  clear h hW hW0
  go_enter Tryz.func57, Tryz.ntmps57
  go_wp2_with (at_builtin; refine wpList_append_fresh rfl _ _ _ rfl w.heap.size 75 i0 _ 2 32 und_files hi0 hz0 hz1 hz2 rfl (by decide) (w.heap.size + 1) rfl hW1 (by omega) (by simp; omega) _ l.length (l.flatMap encF) rfl hsr ?ap1 ?ap2 ?_)
  case ap1 => unfold maxLen; omega
  case ap2 => omega
  intro v1 w1 hown hb1 hblk1
  have hbw : Below w.heap.size w w1 := HW.out.trans (hb1.mono (by omega))
  have hop := (hb1.block w.heap.size (by omega)).trans HW0.out
  have k0 := cells_at hop 0
  have k1 := cells_at hop 1
  have k2 := cells_at hop 2
  simp only [List.getElem?_toArray, List.getElem?_cons_zero, List.getElem?_cons_succ] at k0 k1 k2
  have hown : Own w1 w.heap.size 75 2 encF v1 l := hown
  have hwh := fun n => where_any v1 l n w1 hown.rd (by omega)
  have HWH := Lib.hid hwh
  have HO1 := Lib.hid hown
  have HBW := Lib.hid hbw
  have HOP := Lib.hid hop
  obtain ⟨a1, c1, hv1, hc1⟩ := hown.rd.form
  subst hv1
  clear hb1 hbw hop hwh hown hW1 hsr hblk1
  have HLI := Lib.hid (show l[i]'hi = (n, od) from HLI.out)
  obtain ⟨g1, cp1, hvg, hg1, hgl, hfz, hown2, hgr⟩ := HO1.out.set1 encF_ok i 1 hi (by omega) (.string (bstr (od ++ d))) (n, od ++ d) (by rw [HLI.out]; rfl)
  simp only [Value.slice.injEq] at hvg
  obtain ⟨rfl, -, rfl⟩ := hvg
  have hcl := HO1.out.cell encF_ok i hi 1 (by omega) (.string (bstr od)) (by rw [HLI.out]; rfl)
  have hf1 := hfz (i * 2 + 1)
  have HFIN := Lib.hid (show ∀ e : Ext w1, e.out.frozen? ⟨g1, i * 2 + 1, none⟩ = false ∧ Own (e.out.setCell ⟨g1, i * 2 + 1, none⟩ (.string (bstr (od ++ d)))) w.heap.size 75 2 encF (.slice (some ⟨g1, 0, none⟩) l.length c1) (ap l (.app n d)) ∧ Below w.heap.size w (e.out.setCell ⟨g1, i * 2 + 1, none⟩ (.string (bstr (od ++ d)))) from fun e => by
    have hO := HO1.out.below e.bel
    obtain ⟨g2, cp2, hv2, hg2, hgl2, hfz2, hown3, hgr2⟩ := hO.set1 encF_ok i 1 hi (by omega) (.string (bstr (od ++ d))) (n, od ++ d) (by rw [HLI.out]; rfl)
    simp only [Value.slice.injEq, Option.some.injEq, Addr.mk.injEq, and_true, true_and] at hv2
    obtain ⟨rfl, rfl⟩ := hv2
    have hbe : Below w.heap.size w e.out := HBW.out.trans (e.bel.mono HBW.out.size)
    exact ⟨hfz2 _, by rw [HAP.out]; exact hown3, hbe.grown hgr2 hbe.size fun k hk => by cases hk; exact hg2⟩)
  have a1 := fun W : World => run_string_add_sum (P := Tryz.prog) W (bstr od) (bstr d) (by rw [bstr_size, bstr_size]; have := HD.out; omega)
  have hcat : (bstr od : ByteArray) ++ bstr d = bstr (od ++ d) := by apply ByteArray.ext; simp [bstr]
  rw [hcat] at a1
  clear hown2 hgr hg1 hgl hfz hcat
  generalize bstr (od ++ d) = OD2 at *
  go_wp2_with fail
  go_at_call 38
  refine (HWH.out n).mono ?_
  rw [HRES.out]
  rintro e w' ⟨rfl, rfl⟩
  have t0 : decide ((i : Int) < 0) = false := by simp
  generalize bstr od = OD at *
  generalize bstr d = DD at *
  generalize bstr n = NN at *
  go_wp2_with fail
  refine wp_region_ext_tail 8 (Ext.self w1) (by kernel_rfl) (by kernel_rfl) rfl rfl ?_
  simp only [List.take_succ_cons, List.take_zero, List.drop_succ_cons, List.drop_zero]
  have hlt1 := lt_of_block HOP.out
  have hltg : g1 < w1.heap.size := World.block_lt_of_cell? w1 _ hcl
  have m0 : ∀ e : Ext w1, e.out.cell? ⟨g1, i * 2 + 1, none⟩ = some (.string OD) := fun e => (e.cell hltg).trans hcl
  have m1 : ∀ e : Ext w1, e.out.cell? ⟨w.heap.size, 2, none⟩ = some (.string DD) := fun e => (e.cell hlt1).trans k2
  have q1 : (i : Int) < l.length := by omega
  repeat (go_big_quiet_step (fail))
  refine wpQuiet_nil ?_
  rintro _ ⟨e1, rfl⟩
  have m0' := m0 e1
  obtain ⟨hf2, hO3, hB3⟩ := HFIN.out e1
  have HO3 := Lib.hid hO3
  have HB3 := Lib.hid hB3
  clear m0 m1 hO3 hB3 hcl k0 k1 k2
  go_wp2
  go_ret
  exact ⟨_, rfl, HO3.out, HB3.out⟩

set_option maxHeartbeats 1000000 in
set_option maxRecDepth 10000 in
theorem apply_ren0 (w : World) (sv : Value) (l : Fs) (n d : B) (hh : has l n = false) (h : Rd w encF sv l) (hl : l.length ≤ 100000) :
    Calls Tryz.prog 57 #[sv, .agg #[.int .i64 2, .string (bstr n), .string (bstr d)]] w fun e w' => ∃ u, e = .returned u ∧ Own w' w.heap.size 75 2 encF u (ap l (.ren n d)) ∧ Below w.heap.size w w' := by
  obtain ⟨i0, hi0, hz0, hz1, hz2⟩ := info_parts info_file
  have hW : Below w.heap.size w ((w.alloc (.cells #[.int .i64 2, .string (bstr n), .string (bstr d)] 92)).alloc (.cells #[] 75)) := ((Below.refl _ w).alloc (Nat.le_refl _) _).alloc (by simp) _
  have hW1 : ((w.alloc (.cells #[.int .i64 2, .string (bstr n), .string (bstr d)] 92)).alloc (.cells #[] 75)).heap[w.heap.size + 1]? = some (.cells #[] 75 (0, 0)) := by
    have := heap_alloc_new (w.alloc (.cells #[.int .i64 2, .string (bstr n), .string (bstr d)] 92)) (.cells #[] 75)
    rwa [show (w.alloc (.cells #[.int .i64 2, .string (bstr n), .string (bstr d)] 92)).heap.size = w.heap.size + 1 by simp] at this
  have hW0 : ((w.alloc (.cells #[.int .i64 2, .string (bstr n), .string (bstr d)] 92)).alloc (.cells #[] 75)).heap[w.heap.size]? = some (.cells #[.int .i64 2, .string (bstr n), .string (bstr d)] 92 (0, 0)) :=
    (Below.heap_alloc _ _ w.heap.size (by simp)).trans (heap_alloc_new _ _)
  have hsr := (h.below hW).src encF_ok
  have HW := Lib.hid hW
  have HW0 := Lib.hid hW0
  have HAP := Lib.hid (ap_ren_no (b := d) (.inl hh))
  have HRES := Lib.hid (whI_no hh)
  clear hh
  obtain ⟨ad, cp, hv, hcp⟩ := h.form
  subst hv
  clear h hW hW0
  go_enter Tryz.func57, Tryz.ntmps57
  go_wp2_with (at_builtin; refine wpList_append_fresh rfl _ _ _ rfl w.heap.size 75 i0 _ 2 32 und_files hi0 hz0 hz1 hz2 rfl (by decide) (w.heap.size + 1) rfl hW1 (by omega) (by simp; omega) _ l.length (l.flatMap encF) rfl hsr ?ap1 ?ap2 ?_)
  case ap1 => unfold maxLen; omega
  case ap2 => omega
  intro v1 w1 hown hb1 hblk1
  have hbw : Below w.heap.size w w1 := HW.out.trans (hb1.mono (by omega))
  have hop := (hb1.block w.heap.size (by omega)).trans HW0.out
  have k0 := cells_at hop 0
  have k1 := cells_at hop 1
  have k2 := cells_at hop 2
  simp only [List.getElem?_toArray, List.getElem?_cons_zero, List.getElem?_cons_succ] at k0 k1 k2
  have hown : Own w1 w.heap.size 75 2 encF v1 l := hown
  have hwh := fun n => where_any v1 l n w1 hown.rd (by omega)
  have HWH := Lib.hid hwh
  have HO1 := Lib.hid hown
  have HBW := Lib.hid hbw
  have HOP := Lib.hid hop
  obtain ⟨a1, c1, hv1, hc1⟩ := hown.rd.form
  subst hv1
  clear hb1 hbw hop hwh hown hW1 hsr hblk1
  go_wp2_with fail
  go_at_call 38
  refine (HWH.out n).mono ?_
  rw [HRES.out]
  rintro e w' ⟨rfl, rfl⟩
  have HFIN := Lib.hid (show Own w1 w.heap.size 75 2 encF (.slice a1 l.length c1) (ap l (.ren n d)) ∧ Below w.heap.size w w1 from ⟨by rw [HAP.out]; exact HO1.out, HBW.out⟩)
  go_wp2
  go_ret
  exact ⟨_, rfl, HFIN.out⟩

set_option maxHeartbeats 1000000 in
set_option maxRecDepth 10000 in
theorem apply_rem0 (w : World) (sv : Value) (l : Fs) (n : B) (hh : has l n = false) (h : Rd w encF sv l) (hl : l.length ≤ 100000) :
    Calls Tryz.prog 57 #[sv, .agg #[.int .i64 3, .string (bstr n), .string (bstr [])]] w fun e w' => ∃ u, e = .returned u ∧ Own w' w.heap.size 75 2 encF u (ap l (.rem n)) ∧ Below w.heap.size w w' := by
  obtain ⟨i0, hi0, hz0, hz1, hz2⟩ := info_parts info_file
  have hW : Below w.heap.size w ((w.alloc (.cells #[.int .i64 3, .string (bstr n), .string (bstr [])] 92)).alloc (.cells #[] 75)) := ((Below.refl _ w).alloc (Nat.le_refl _) _).alloc (by simp) _
  have hW1 : ((w.alloc (.cells #[.int .i64 3, .string (bstr n), .string (bstr [])] 92)).alloc (.cells #[] 75)).heap[w.heap.size + 1]? = some (.cells #[] 75 (0, 0)) := by
    have := heap_alloc_new (w.alloc (.cells #[.int .i64 3, .string (bstr n), .string (bstr [])] 92)) (.cells #[] 75)
    rwa [show (w.alloc (.cells #[.int .i64 3, .string (bstr n), .string (bstr [])] 92)).heap.size = w.heap.size + 1 by simp] at this
  have hW0 : ((w.alloc (.cells #[.int .i64 3, .string (bstr n), .string (bstr [])] 92)).alloc (.cells #[] 75)).heap[w.heap.size]? = some (.cells #[.int .i64 3, .string (bstr n), .string (bstr [])] 92 (0, 0)) :=
    (Below.heap_alloc _ _ w.heap.size (by simp)).trans (heap_alloc_new _ _)
  have hsr := (h.below hW).src encF_ok
  have HW := Lib.hid hW
  have HW0 := Lib.hid hW0
  have HAP := Lib.hid (ap_rem_no hh)
  have HRES := Lib.hid (whI_no hh)
  clear hh
  obtain ⟨ad, cp, hv, hcp⟩ := h.form
  subst hv
  clear h hW hW0
  go_enter Tryz.func57, Tryz.ntmps57
  go_wp2_with (at_builtin; refine wpList_append_fresh rfl _ _ _ rfl w.heap.size 75 i0 _ 2 32 und_files hi0 hz0 hz1 hz2 rfl (by decide) (w.heap.size + 1) rfl hW1 (by omega) (by simp; omega) _ l.length (l.flatMap encF) rfl hsr ?ap1 ?ap2 ?_)
  case ap1 => unfold maxLen; omega
  case ap2 => omega
  intro v1 w1 hown hb1 hblk1
  have hbw : Below w.heap.size w w1 := HW.out.trans (hb1.mono (by omega))
  have hop := (hb1.block w.heap.size (by omega)).trans HW0.out
  have k0 := cells_at hop 0
  have k1 := cells_at hop 1
  have k2 := cells_at hop 2
  simp only [List.getElem?_toArray, List.getElem?_cons_zero, List.getElem?_cons_succ] at k0 k1 k2
  have hown : Own w1 w.heap.size 75 2 encF v1 l := hown
  have hwh := fun n => where_any v1 l n w1 hown.rd (by omega)
  have HWH := Lib.hid hwh
  have HO1 := Lib.hid hown
  have HBW := Lib.hid hbw
  have HOP := Lib.hid hop
  obtain ⟨a1, c1, hv1, hc1⟩ := hown.rd.form
  subst hv1
  clear hb1 hbw hop hwh hown hW1 hsr hblk1
  go_wp2_with fail
  go_at_call 38
  refine (HWH.out n).mono ?_
  rw [HRES.out]
  rintro e w' ⟨rfl, rfl⟩
  have HFIN := Lib.hid (show Own w1 w.heap.size 75 2 encF (.slice a1 l.length c1) (ap l (.rem n)) ∧ Below w.heap.size w w1 from ⟨by rw [HAP.out]; exact HO1.out, HBW.out⟩)
  go_wp2
  go_ret
  exact ⟨_, rfl, HFIN.out⟩

set_option maxHeartbeats 1000000 in
set_option maxRecDepth 10000 in
theorem apply_ren1 (w : World) (sv : Value) (l : Fs) (n d : B) (hh : has l n = true) (hab : n = d) (h : Rd w encF sv l) (hl : l.length ≤ 100000) :
    Calls Tryz.prog 57 #[sv, .agg #[.int .i64 2, .string (bstr n), .string (bstr d)]] w fun e w' => ∃ u, e = .returned u ∧ Own w' w.heap.size 75 2 encF u (ap l (.ren n d)) ∧ Below w.heap.size w w' := by
  obtain ⟨i0, hi0, hz0, hz1, hz2⟩ := info_parts info_file
  have hW : Below w.heap.size w ((w.alloc (.cells #[.int .i64 2, .string (bstr n), .string (bstr d)] 92)).alloc (.cells #[] 75)) := ((Below.refl _ w).alloc (Nat.le_refl _) _).alloc (by simp) _
  have hW1 : ((w.alloc (.cells #[.int .i64 2, .string (bstr n), .string (bstr d)] 92)).alloc (.cells #[] 75)).heap[w.heap.size + 1]? = some (.cells #[] 75 (0, 0)) := by
    have := heap_alloc_new (w.alloc (.cells #[.int .i64 2, .string (bstr n), .string (bstr d)] 92)) (.cells #[] 75)
    rwa [show (w.alloc (.cells #[.int .i64 2, .string (bstr n), .string (bstr d)] 92)).heap.size = w.heap.size + 1 by simp] at this
  have hW0 : ((w.alloc (.cells #[.int .i64 2, .string (bstr n), .string (bstr d)] 92)).alloc (.cells #[] 75)).heap[w.heap.size]? = some (.cells #[.int .i64 2, .string (bstr n), .string (bstr d)] 92 (0, 0)) :=
    (Below.heap_alloc _ _ w.heap.size (by simp)).trans (heap_alloc_new _ _)
  have hsr := (h.below hW).src encF_ok
  have HW := Lib.hid hW
  have HW0 := Lib.hid hW0
  have HAP := Lib.hid (ap_ren_no (l := l) (b := d) (.inr hab))
  have hiw : wh l n < l.length := (wh_lt l n).1 hh
  have hres : whI l n = (wh l n : Nat) := whI_yes hh
  obtain ⟨i, hii⟩ : ∃ i, wh l n = i := ⟨_, rfl⟩
  have hi : i < l.length := by omega
  rw [hii] at hres
  have HRES := Lib.hid hres
  have HEQ := Lib.hid (show ((bstr n).toList == (bstr d).toList) = true by rw [hab]; exact beq_self_eq_true _)
  clear hh hiw hii hres hab
  obtain ⟨ad, cp, hv, hcp⟩ := h.form
  subst hv
  clear h hW hW0
  go_enter Tryz.func57, Tryz.ntmps57
  go_wp2_with (at_builtin; refine wpList_append_fresh rfl _ _ _ rfl w.heap.size 75 i0 _ 2 32 und_files hi0 hz0 hz1 hz2 rfl (by decide) (w.heap.size + 1) rfl hW1 (by omega) (by simp; omega) _ l.length (l.flatMap encF) rfl hsr ?ap1 ?ap2 ?_)
  case ap1 => unfold maxLen; omega
  case ap2 => omega
  intro v1 w1 hown hb1 hblk1
  have hbw : Below w.heap.size w w1 := HW.out.trans (hb1.mono (by omega))
  have hop := (hb1.block w.heap.size (by omega)).trans HW0.out
  have k0 := cells_at hop 0
  have k1 := cells_at hop 1
  have k2 := cells_at hop 2
  simp only [List.getElem?_toArray, List.getElem?_cons_zero, List.getElem?_cons_succ] at k0 k1 k2
  have hown : Own w1 w.heap.size 75 2 encF v1 l := hown
  have hwh := fun n => where_any v1 l n w1 hown.rd (by omega)
  have HWH := Lib.hid hwh
  have HO1 := Lib.hid hown
  have HBW := Lib.hid hbw
  have HOP := Lib.hid hop
  obtain ⟨a1, c1, hv1, hc1⟩ := hown.rd.form
  subst hv1
  clear hb1 hbw hop hwh hown hW1 hsr hblk1
  go_wp2_with fail
  go_at_call 38
  refine (HWH.out n).mono ?_
  rw [HRES.out]
  rintro e w' ⟨rfl, rfl⟩
  have t0 : decide ((i : Int) < 0) = false := by simp
  have heq := HEQ.out
  have HFIN := Lib.hid (show Own w1 w.heap.size 75 2 encF (.slice a1 l.length c1) (ap l (.ren n d)) ∧ Below w.heap.size w w1 from ⟨by rw [HAP.out]; exact HO1.out, HBW.out⟩)
  generalize bstr n = NN at *
  generalize bstr d = DD at *
  go_wp2
  go_ret
  exact ⟨_, rfl, HFIN.out⟩

set_option maxHeartbeats 1000000 in
set_option maxRecDepth 10000 in
theorem apply_rem1 (w : World) (sv : Value) (l : Fs) (n : B) (hh : has l n = true) (h : Rd w encF sv l) (hl : l.length ≤ 100000) :
    Calls Tryz.prog 57 #[sv, .agg #[.int .i64 3, .string (bstr n), .string (bstr [])]] w fun e w' => ∃ u, e = .returned u ∧ Own w' w.heap.size 75 2 encF u (ap l (.rem n)) ∧ Below w.heap.size w w' := by
  obtain ⟨i0, hi0, hz0, hz1, hz2⟩ := info_parts info_file
  have hW : Below w.heap.size w ((w.alloc (.cells #[.int .i64 3, .string (bstr n), .string (bstr [])] 92)).alloc (.cells #[] 75)) := ((Below.refl _ w).alloc (Nat.le_refl _) _).alloc (by simp) _
  have hW1 : ((w.alloc (.cells #[.int .i64 3, .string (bstr n), .string (bstr [])] 92)).alloc (.cells #[] 75)).heap[w.heap.size + 1]? = some (.cells #[] 75 (0, 0)) := by
    have := heap_alloc_new (w.alloc (.cells #[.int .i64 3, .string (bstr n), .string (bstr [])] 92)) (.cells #[] 75)
    rwa [show (w.alloc (.cells #[.int .i64 3, .string (bstr n), .string (bstr [])] 92)).heap.size = w.heap.size + 1 by simp] at this
  have hW0 : ((w.alloc (.cells #[.int .i64 3, .string (bstr n), .string (bstr [])] 92)).alloc (.cells #[] 75)).heap[w.heap.size]? = some (.cells #[.int .i64 3, .string (bstr n), .string (bstr [])] 92 (0, 0)) :=
    (Below.heap_alloc _ _ w.heap.size (by simp)).trans (heap_alloc_new _ _)
  have hsr := (h.below hW).src encF_ok
  have HW := Lib.hid hW
  have HW0 := Lib.hid hW0
  have HAP := Lib.hid (ap_rem_yes hh)
  have hiw : wh l n < l.length := (wh_lt l n).1 hh
  have hres : whI l n = (wh l n : Nat) := whI_yes hh
  obtain ⟨i, hii⟩ : ∃ i, wh l n = i := ⟨_, rfl⟩
  have hi : i < l.length := by omega
  rw [hii] at hres HAP
  have HRES := Lib.hid hres
  have HLL := Lib.hid hl
  clear hh hiw hii hres
  obtain ⟨ad, cp, hv, hcp⟩ := h.form
  subst hv
  clear h hW hW0
  go_enter Tryz.func57, Tryz.ntmps57
  go_wp2_with (at_builtin; refine wpList_append_fresh rfl _ _ _ rfl w.heap.size 75 i0 _ 2 32 und_files hi0 hz0 hz1 hz2 rfl (by decide) (w.heap.size + 1) rfl hW1 (by omega) (by simp; omega) _ l.length (l.flatMap encF) rfl hsr ?ap1 ?ap2 ?_)
  case ap1 => unfold maxLen; omega
  case ap2 => omega
  intro v1 w1 hown hb1 hblk1
  have hbw : Below w.heap.size w w1 := HW.out.trans (hb1.mono (by omega))
  have hop := (hb1.block w.heap.size (by omega)).trans HW0.out
  have k0 := cells_at hop 0
  have k1 := cells_at hop 1
  have k2 := cells_at hop 2
  simp only [List.getElem?_toArray, List.getElem?_cons_zero, List.getElem?_cons_succ] at k0 k1 k2
  have hown : Own w1 w.heap.size 75 2 encF v1 l := hown
  have hwh := fun n => where_any v1 l n w1 hown.rd (by omega)
  have HWH := Lib.hid hwh
  have HO1 := Lib.hid hown
  have HBW := Lib.hid hbw
  have HOP := Lib.hid hop
  obtain ⟨a1, c1, hv1, hc1⟩ := hown.rd.form
  subst hv1
  clear hb1 hbw hop hwh hown hW1 hsr hblk1
  go_wp2_with fail
  go_at_call 38
  refine (HWH.out n).mono ?_
  rw [HRES.out]
  rintro e w' ⟨rfl, rfl⟩
  have t0 : decide ((i : Int) < 0) = false := by simp
  have hwo := without_any w1 _ l i HO1.out.rd hi (by omega)
  go_wp2_with fail
  go_at_call 75
  refine hwo.mono ?_
  rintro e w2 ⟨u2, rfl, ho2, hb2⟩
  have HO2 := Lib.hid (ho2.mono HBW.out.size)
  have HB2 := Lib.hid (HBW.out.trans (hb2.mono HBW.out.size))
  obtain ⟨a2, c2, hv2, -⟩ := ho2.rd.form
  subst hv2
  clear ho2 hb2 hwo
  go_wp2
  go_ret
  exact ⟨_, rfl, by rw [HAP.out]; exact HO2.out, HB2.out⟩

set_option maxHeartbeats 1000000 in
set_option maxRecDepth 10000 in
theorem apply_ren2 (w : World) (sv : Value) (l : Fs) (n d : B) (hh : has l n = true) (hab : n ≠ d) (hhb : has (drop l n) d = true) (h : Rd w encF sv l) (hl : l.length ≤ 100000) :
    Calls Tryz.prog 57 #[sv, .agg #[.int .i64 2, .string (bstr n), .string (bstr d)]] w fun e w' => ∃ u, e = .returned u ∧ Own w' w.heap.size 75 2 encF u (ap l (.ren n d)) ∧ Below w.heap.size w w' := by
  obtain ⟨i0, hi0, hz0, hz1, hz2⟩ := info_parts info_file
  have hW : Below w.heap.size w ((w.alloc (.cells #[.int .i64 2, .string (bstr n), .string (bstr d)] 92)).alloc (.cells #[] 75)) := ((Below.refl _ w).alloc (Nat.le_refl _) _).alloc (by simp) _
  have hW1 : ((w.alloc (.cells #[.int .i64 2, .string (bstr n), .string (bstr d)] 92)).alloc (.cells #[] 75)).heap[w.heap.size + 1]? = some (.cells #[] 75 (0, 0)) := by
    have := heap_alloc_new (w.alloc (.cells #[.int .i64 2, .string (bstr n), .string (bstr d)] 92)) (.cells #[] 75)
    rwa [show (w.alloc (.cells #[.int .i64 2, .string (bstr n), .string (bstr d)] 92)).heap.size = w.heap.size + 1 by simp] at this
  have hW0 : ((w.alloc (.cells #[.int .i64 2, .string (bstr n), .string (bstr d)] 92)).alloc (.cells #[] 75)).heap[w.heap.size]? = some (.cells #[.int .i64 2, .string (bstr n), .string (bstr d)] 92 (0, 0)) :=
    (Below.heap_alloc _ _ w.heap.size (by simp)).trans (heap_alloc_new _ _)
  have hsr := (h.below hW).src encF_ok
  have HW := Lib.hid hW
  have HW0 := Lib.hid hW0
  have hiw : wh l n < l.length := (wh_lt l n).1 hh
  have hres : whI l n = (wh l n : Nat) := whI_yes hh
  obtain ⟨i, hii⟩ : ∃ i, wh l n = i := ⟨_, rfl⟩
  have hi : i < l.length := by omega
  obtain ⟨hat1, hat2⟩ := wh_at l n hiw
  have hli : l[i]'hi = (n, (get l n).getD []) := by
    subst hii
    apply Prod.ext
    · exact hat1
    · rw [hat2]; rfl
  have hdr : drop l n = l.eraseIdx i := by unfold drop; rw [hii]
  have hap := ap_ren_yes hh hab
  rw [hhb, hdr] at hap
  rw [hdr] at hhb
  rw [hii] at hres
  have HRES := Lib.hid hres
  have HLI := Lib.hid hli
  have HLL := Lib.hid hl
  have HEQ := Lib.hid (show ((bstr n).toList == (bstr d).toList) = false by rw [ByteArray.toList_eq, ByteArray.toList_eq, bstr_list, bstr_list, beq_eq_false_iff_ne]; exact hab)
  clear hh hiw hii hres hat1 hat2 hdr hab hli
  generalize (get l n).getD [] = od at *
  obtain ⟨L1, hL1⟩ : ∃ L, l.eraseIdx i = L := ⟨_, rfl⟩
  rw [hL1] at hap hhb
  have hlen1 : L1.length ≤ 100000 := by rw [← hL1, List.length_eraseIdx]; split <;> omega
  have hkw : wh L1 d < L1.length := (wh_lt L1 d).1 hhb
  have hres2 : whI L1 d = (wh L1 d : Nat) := whI_yes hhb
  rw [if_pos rfl, show drop L1 d = L1.eraseIdx (wh L1 d) from rfl] at hap
  obtain ⟨k, hkk⟩ : ∃ k, wh L1 d = k := ⟨_, rfl⟩
  have hk : k < L1.length := by omega
  rw [hkk] at hres2 hap
  obtain ⟨L2, hL2⟩ : ∃ L, L1.eraseIdx k = L := ⟨_, rfl⟩
  rw [hL2] at hap
  have hlen2 : L2.length ≤ 100000 := by rw [← hL2, List.length_eraseIdx]; split <;> omega
  have HK := Lib.hid hk
  have HL2 := Lib.hid hL2
  have HLEN2 := Lib.hid hlen2
  clear hkw hkk hk hL2 hlen2
  have HRES2 := Lib.hid hres2
  have HAP := Lib.hid hap
  have HL1 := Lib.hid hL1
  have HLEN1 := Lib.hid hlen1
  clear hap hhb hL1 hlen1 hres2
  obtain ⟨ad, cp, hv, hcp⟩ := h.form
  subst hv
  clear h hW hW0
  go_enter Tryz.func57, Tryz.ntmps57
  go_wp2_with (at_builtin; refine wpList_append_fresh rfl _ _ _ rfl w.heap.size 75 i0 _ 2 32 und_files hi0 hz0 hz1 hz2 rfl (by decide) (w.heap.size + 1) rfl hW1 (by omega) (by simp; omega) _ l.length (l.flatMap encF) rfl hsr ?ap1 ?ap2 ?_)
  case ap1 => unfold maxLen; omega
  case ap2 => omega
  intro v1 w1 hown hb1 hblk1
  have hbw : Below w.heap.size w w1 := HW.out.trans (hb1.mono (by omega))
  have hop := (hb1.block w.heap.size (by omega)).trans HW0.out
  have k0 := cells_at hop 0
  have k1 := cells_at hop 1
  have k2 := cells_at hop 2
  simp only [List.getElem?_toArray, List.getElem?_cons_zero, List.getElem?_cons_succ] at k0 k1 k2
  have hown : Own w1 w.heap.size 75 2 encF v1 l := hown
  have hwh := fun n => where_any v1 l n w1 hown.rd (by omega)
  have HWH := Lib.hid hwh
  have HO1 := Lib.hid hown
  have HBW := Lib.hid hbw
  have HOP := Lib.hid hop
  obtain ⟨a1, c1, hv1, hc1⟩ := hown.rd.form
  subst hv1
  clear hb1 hbw hop hwh hown hW1 hsr hblk1
  obtain ⟨g1, cp1, hvg, hg1, hgl, hcl⟩ : ∃ g cap, Value.slice a1 l.length c1 = .slice (some ⟨g, 0, none⟩) l.length cap ∧ w.heap.size ≤ g ∧ g < w1.heap.size ∧ w1.cell? ⟨g, i * 2 + 1, none⟩ = some (.string (bstr od)) := by
    obtain ⟨g, cap, hv, h1, h2, -, -, -⟩ := HO1.out.set1 encF_ok i 1 hi (by omega) (.string (bstr od)) (l[i]'hi) (by rw [HLI.out]; rfl)
    refine ⟨g, cap, hv, h1, h2, ?_⟩
    have hO := HO1.out
    rw [hv] at hO
    exact hO.cell encF_ok i hi 1 (by omega) (.string (bstr od)) (by rw [HLI.out]; rfl)
  simp only [Value.slice.injEq] at hvg
  obtain ⟨rfl, -, rfl⟩ := hvg
  clear hg1 hgl
  go_wp2_with fail
  go_at_call 38
  refine (HWH.out n).mono ?_
  rw [HRES.out]
  rintro e w' ⟨rfl, rfl⟩
  have t0 : decide ((i : Int) < 0) = false := by simp
  have heq := HEQ.out
  have q1 : (i : Int) < l.length := by omega
  have hwo := without_any w1 _ l i HO1.out.rd hi (by omega)
  rw [HL1.out] at hwo
  have HWO := Lib.hid hwo
  clear hwo
  generalize hNN : bstr n = NN at *
  generalize hOD : bstr od = OD at *
  have HOD := Lib.hid hOD
  clear hNN hOD
  generalize hDD : bstr d = DD at *
  have HDD := Lib.hid hDD
  clear hDD
  go_wp2_with fail
  go_at_call 75
  refine HWO.out.mono ?_
  rintro e w2 ⟨u2, rfl, ho2, hb2⟩
  have k2' := (hb2.cell (p := ⟨w.heap.size, 2, none⟩) (lt_of_block HOP.out)).trans k2
  have hwh2 := where_any u2 L1 d w2 ho2.rd (by have := HLEN1.out; omega)
  rw [HRES2.out, HDD.out] at hwh2
  obtain ⟨a2, c2, hv2, -⟩ := ho2.rd.form
  subst hv2
  have HWH2 := Lib.hid hwh2
  have HO2 := Lib.hid (ho2.mono HBW.out.size)
  have HB2 := Lib.hid (HBW.out.trans (hb2.mono HBW.out.size))
  clear ho2 hb2 hwh2 k0 k1 k2 hcl
  go_wp2_with fail
  go_at_call 38
  refine HWH2.out.mono ?_
  rintro e w' ⟨rfl, rfl⟩
  have t1 : decide (0 ≤ ((wh L1 d : Nat) : Int)) = true := by simp
  have hwo2 := without_any w2 _ L1 k HO2.out.rd HK.out (by have := HLEN1.out; omega)
  rw [HL2.out] at hwo2
  have HWO2 := Lib.hid hwo2
  clear hwo2
  go_wp2_with fail
  go_at_call 75
  refine HWO2.out.mono ?_
  rintro e w3 ⟨u3, rfl, ho3, hb3⟩
  have k3' := (hb3.cell (p := ⟨w.heap.size, 2, none⟩) (World.block_lt_of_cell? w2 _ k2')).trans k2'
  have HBX := Lib.hid ((Below.refl w3.heap.size w3).alloc (Nat.le_refl _) (.cells #[.string DD, .string OD] 75))
  have HB3 := Lib.hid (HB2.out.trans (hb3.mono HB2.out.size))
  have HO3 := Lib.hid (ho3.mono HB2.out.size)
  have HON := Lib.hid (HO3.out.below HBX.out)
  have hsn := src_file (p := (d, od)) (w := w3.alloc (.cells #[.string (bstr d), .string (bstr od)] 75)) (heap_alloc_new w3 _)
  rw [HDD.out, HOD.out] at hsn
  have HSN := Lib.hid hsn
  have HBN := Lib.hid (HB3.out.trans (HBX.out.mono HB3.out.size))
  have HLN := Lib.hid HBN.out.size
  have HLL := Lib.hid HLEN2.out
  obtain ⟨a3, c3, hv3, -⟩ := ho3.rd.form
  subst hv3
  clear hcp hc1 hsn ho3 hb3 k2'
  go_wp2_with (at_builtin; refine wpList_append_any rfl _ _ _ rfl w.heap.size 75 i0 _ 2 32 und_files hi0 hz0 hz1 hz2 rfl (by decide) _ (L2).length ((L2).flatMap encF) rfl HON.out _ 1 ([(d, od)].flatMap encF) rfl HSN.out ?ap1 ?ap2 HLN.out ?_)
  case ap1 => have := HLL.out; unfold maxLen; omega
  case ap2 => have := HLL.out; omega
  intro v4 w4 ha
  have HO4 := Lib.hid (Own.apd (m := [(d, od)]) HON.out rfl rfl rfl rfl ha)
  have HB4 := Lib.hid (HBN.out.grown ha.grown HLN.out fun k hk => (World.ownsRow.lt HON.out k hk).1)
  clear ha
  go_wp2
  go_ret
  exact ⟨_, rfl, by rw [HAP.out]; exact HO4.out, HB4.out⟩

set_option maxHeartbeats 1000000 in
set_option maxRecDepth 10000 in
theorem apply_ren3 (w : World) (sv : Value) (l : Fs) (n d : B) (hh : has l n = true) (hab : n ≠ d) (hhb : has (drop l n) d = false) (h : Rd w encF sv l) (hl : l.length ≤ 100000) :
    Calls Tryz.prog 57 #[sv, .agg #[.int .i64 2, .string (bstr n), .string (bstr d)]] w fun e w' => ∃ u, e = .returned u ∧ Own w' w.heap.size 75 2 encF u (ap l (.ren n d)) ∧ Below w.heap.size w w' := by
  obtain ⟨i0, hi0, hz0, hz1, hz2⟩ := info_parts info_file
  have hW : Below w.heap.size w ((w.alloc (.cells #[.int .i64 2, .string (bstr n), .string (bstr d)] 92)).alloc (.cells #[] 75)) := ((Below.refl _ w).alloc (Nat.le_refl _) _).alloc (by simp) _
  have hW1 : ((w.alloc (.cells #[.int .i64 2, .string (bstr n), .string (bstr d)] 92)).alloc (.cells #[] 75)).heap[w.heap.size + 1]? = some (.cells #[] 75 (0, 0)) := by
    have := heap_alloc_new (w.alloc (.cells #[.int .i64 2, .string (bstr n), .string (bstr d)] 92)) (.cells #[] 75)
    rwa [show (w.alloc (.cells #[.int .i64 2, .string (bstr n), .string (bstr d)] 92)).heap.size = w.heap.size + 1 by simp] at this
  have hW0 : ((w.alloc (.cells #[.int .i64 2, .string (bstr n), .string (bstr d)] 92)).alloc (.cells #[] 75)).heap[w.heap.size]? = some (.cells #[.int .i64 2, .string (bstr n), .string (bstr d)] 92 (0, 0)) :=
    (Below.heap_alloc _ _ w.heap.size (by simp)).trans (heap_alloc_new _ _)
  have hsr := (h.below hW).src encF_ok
  have HW := Lib.hid hW
  have HW0 := Lib.hid hW0
  have hiw : wh l n < l.length := (wh_lt l n).1 hh
  have hres : whI l n = (wh l n : Nat) := whI_yes hh
  obtain ⟨i, hii⟩ : ∃ i, wh l n = i := ⟨_, rfl⟩
  have hi : i < l.length := by omega
  obtain ⟨hat1, hat2⟩ := wh_at l n hiw
  have hli : l[i]'hi = (n, (get l n).getD []) := by
    subst hii
    apply Prod.ext
    · exact hat1
    · rw [hat2]; rfl
  have hdr : drop l n = l.eraseIdx i := by unfold drop; rw [hii]
  have hap := ap_ren_yes hh hab
  rw [hhb, hdr] at hap
  rw [hdr] at hhb
  rw [hii] at hres
  have HRES := Lib.hid hres
  have HLI := Lib.hid hli
  have HLL := Lib.hid hl
  have HEQ := Lib.hid (show ((bstr n).toList == (bstr d).toList) = false by rw [ByteArray.toList_eq, ByteArray.toList_eq, bstr_list, bstr_list, beq_eq_false_iff_ne]; exact hab)
  clear hh hiw hii hres hat1 hat2 hdr hab hli
  generalize (get l n).getD [] = od at *
  obtain ⟨L1, hL1⟩ : ∃ L, l.eraseIdx i = L := ⟨_, rfl⟩
  rw [hL1] at hap hhb
  have hlen1 : L1.length ≤ 100000 := by rw [← hL1, List.length_eraseIdx]; split <;> omega
  have hres2 : whI L1 d = -1 := whI_no hhb
  rw [if_neg (by simp)] at hap
  have HRES2 := Lib.hid hres2
  have HAP := Lib.hid hap
  have HL1 := Lib.hid hL1
  have HLEN1 := Lib.hid hlen1
  clear hap hhb hL1 hlen1 hres2
  obtain ⟨ad, cp, hv, hcp⟩ := h.form
  subst hv
  clear h hW hW0
  go_enter Tryz.func57, Tryz.ntmps57
  go_wp2_with (at_builtin; refine wpList_append_fresh rfl _ _ _ rfl w.heap.size 75 i0 _ 2 32 und_files hi0 hz0 hz1 hz2 rfl (by decide) (w.heap.size + 1) rfl hW1 (by omega) (by simp; omega) _ l.length (l.flatMap encF) rfl hsr ?ap1 ?ap2 ?_)
  case ap1 => unfold maxLen; omega
  case ap2 => omega
  intro v1 w1 hown hb1 hblk1
  have hbw : Below w.heap.size w w1 := HW.out.trans (hb1.mono (by omega))
  have hop := (hb1.block w.heap.size (by omega)).trans HW0.out
  have k0 := cells_at hop 0
  have k1 := cells_at hop 1
  have k2 := cells_at hop 2
  simp only [List.getElem?_toArray, List.getElem?_cons_zero, List.getElem?_cons_succ] at k0 k1 k2
  have hown : Own w1 w.heap.size 75 2 encF v1 l := hown
  have hwh := fun n => where_any v1 l n w1 hown.rd (by omega)
  have HWH := Lib.hid hwh
  have HO1 := Lib.hid hown
  have HBW := Lib.hid hbw
  have HOP := Lib.hid hop
  obtain ⟨a1, c1, hv1, hc1⟩ := hown.rd.form
  subst hv1
  clear hb1 hbw hop hwh hown hW1 hsr hblk1
  obtain ⟨g1, cp1, hvg, hg1, hgl, hcl⟩ : ∃ g cap, Value.slice a1 l.length c1 = .slice (some ⟨g, 0, none⟩) l.length cap ∧ w.heap.size ≤ g ∧ g < w1.heap.size ∧ w1.cell? ⟨g, i * 2 + 1, none⟩ = some (.string (bstr od)) := by
    obtain ⟨g, cap, hv, h1, h2, -, -, -⟩ := HO1.out.set1 encF_ok i 1 hi (by omega) (.string (bstr od)) (l[i]'hi) (by rw [HLI.out]; rfl)
    refine ⟨g, cap, hv, h1, h2, ?_⟩
    have hO := HO1.out
    rw [hv] at hO
    exact hO.cell encF_ok i hi 1 (by omega) (.string (bstr od)) (by rw [HLI.out]; rfl)
  simp only [Value.slice.injEq] at hvg
  obtain ⟨rfl, -, rfl⟩ := hvg
  clear hg1 hgl
  go_wp2_with fail
  go_at_call 38
  refine (HWH.out n).mono ?_
  rw [HRES.out]
  rintro e w' ⟨rfl, rfl⟩
  have t0 : decide ((i : Int) < 0) = false := by simp
  have heq := HEQ.out
  have q1 : (i : Int) < l.length := by omega
  have hwo := without_any w1 _ l i HO1.out.rd hi (by omega)
  rw [HL1.out] at hwo
  have HWO := Lib.hid hwo
  clear hwo
  generalize hNN : bstr n = NN at *
  generalize hOD : bstr od = OD at *
  have HOD := Lib.hid hOD
  clear hNN hOD
  generalize hDD : bstr d = DD at *
  have HDD := Lib.hid hDD
  clear hDD
  go_wp2_with fail
  go_at_call 75
  refine HWO.out.mono ?_
  rintro e w2 ⟨u2, rfl, ho2, hb2⟩
  have k2' := (hb2.cell (p := ⟨w.heap.size, 2, none⟩) (lt_of_block HOP.out)).trans k2
  have hwh2 := where_any u2 L1 d w2 ho2.rd (by have := HLEN1.out; omega)
  rw [HRES2.out, HDD.out] at hwh2
  obtain ⟨a2, c2, hv2, -⟩ := ho2.rd.form
  subst hv2
  have HWH2 := Lib.hid hwh2
  have HO2 := Lib.hid (ho2.mono HBW.out.size)
  have HB2 := Lib.hid (HBW.out.trans (hb2.mono HBW.out.size))
  clear ho2 hb2 hwh2 k0 k1 k2 hcl
  go_wp2_with fail
  go_at_call 38
  refine HWH2.out.mono ?_
  rintro e w' ⟨rfl, rfl⟩
  have HBX := Lib.hid ((Below.refl w2.heap.size w2).alloc (Nat.le_refl _) (.cells #[.string DD, .string OD] 75))
  have HON := Lib.hid (HO2.out.below HBX.out)
  have hsn := src_file (p := (d, od)) (w := w2.alloc (.cells #[.string (bstr d), .string (bstr od)] 75)) (heap_alloc_new w2 _)
  rw [HDD.out, HOD.out] at hsn
  have HSN := Lib.hid hsn
  have HBN := Lib.hid (HB2.out.trans (HBX.out.mono HB2.out.size))
  have HLN := Lib.hid HBN.out.size
  have HLL := Lib.hid HLEN1.out
  clear hcp hc1 hsn
  go_wp2_with (at_builtin; refine wpList_append_any rfl _ _ _ rfl w.heap.size 75 i0 _ 2 32 und_files hi0 hz0 hz1 hz2 rfl (by decide) _ (L1).length ((L1).flatMap encF) rfl HON.out _ 1 ([(d, od)].flatMap encF) rfl HSN.out ?ap1 ?ap2 HLN.out ?_)
  case ap1 => have := HLL.out; unfold maxLen; omega
  case ap2 => have := HLL.out; omega
  intro v4 w4 ha
  have HO4 := Lib.hid (Own.apd (m := [(d, od)]) HON.out rfl rfl rfl rfl ha)
  have HB4 := Lib.hid (HBN.out.grown ha.grown HLN.out fun k hk => (World.ownsRow.lt HON.out k hk).1)
  clear ha
  go_wp2
  go_ret
  exact ⟨_, rfl, by rw [HAP.out]; exact HO4.out, HB4.out⟩

end Go.Proofs.YtbfgkcgnhgfkmaaGreat.Dk
