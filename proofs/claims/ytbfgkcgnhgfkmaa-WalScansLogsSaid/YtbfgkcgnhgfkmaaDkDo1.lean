/-
  The law's do. (Written by wip/gen/gen_do.py.)
-/
/-
  The law's do. (Written by wip/gen/gen_do.py.)
-/
/-
  The law's do. (Written by wip/gen/gen_do.py.)
-/
/-
  The law's do. (Written by wip/gen/gen_do.py.)
-/
import Derived.Test.YtbfgkcgnhgfkmaaDkDo
import Derived.Test.YtbfgkcgnhgfkmaaFactsB
namespace Go.Proofs.Ytbfgkcgnhgfkmaa.Dk
open Go Go.Maps Go.RowKit Go.Proofs.Ytbfgkcgnhgfkmaa.Slc
set_option linter.unusedVariables false
set_option linter.unusedSimpArgs false

/-- the facts of the region that appends to both -/
def DoF (d r b : Nat) (N D : ByteArray) (es et : Int) : Nat → (Nat → Value) → World → Prop
  | 0, x, _ => x 0 = ptr d
  | 1, x, _ => x 1 = .string N
  | 2, x, _ => x 2 = .pointer (some ⟨b, 6, none⟩)
  | 3, x, _ => x 3 = .string D
  | 4, x, _ => x 4 = .int .i64 es
  | 5, x, _ => x 5 = ptr r
  | 6, x, _ => x 6 = .string N
  | 7, x, _ => x 7 = .pointer (some ⟨b, 6, none⟩)
  | 8, x, _ => x 8 = .string D
  | 9, x, _ => x 9 = .int .i64 et
  | _, _, _ => True
theorem DoF.loc {d r b : Nat} {N D : ByteArray} {es et : Int} {j : Nat} {x y : Nat → Value} {w : World} (e : x j = y j) (h : DoF d r b N D es et j x w) : DoF d r b N D es et j y w := by
  match j with
  | 0 | 1 | 2 | 3 | 4 | 5 | 6 | 7 | 8 | 9 => exact e.symm.trans h
  | _ + 10 => trivial
theorem DoF.world {d r b : Nat} {N D : ByteArray} {es et : Int} {j : Nat} {x : Nat → Value} {w : World} (h : DoF d r b N D es et j x w) (w' : World) : DoF d r b N D es et j x w' := by
  match j with
  | 0 | 1 | 2 | 3 | 4 | 5 | 6 | 7 | 8 | 9 => exact h
  | _ + 10 => trivial
/-- the worlds of that region -/
def DoC (wx : World) (d r : Nat) (s' t' : St) (F R G Q : Nat → Prop) (dd : Nat → Bool) (w : World) : Prop :=
  if dd 9 = true then (if dd 4 = true then Both wx w d r s' t' F R G Q else False) else if dd 4 = true then NextP wx w d s' F R else Below wx.heap.size wx w
theorem DoC.step {wx : World} {d r : Nat} {s' t' : St} {F R G Q : Nat → Prop} {dd : Nat → Bool} {i : Nat} {w w' : World} (h : DoC wx d r s' t' F R G Q dd w) (hi : i ≠ 4 ∧ i ≠ 9) (hb : Below w.heap.size w w') : DoC wx d r s' t' F R G Q (mark dd i) w' := by
  have e4 : mark dd i 4 = dd 4 := by unfold mark; rw [if_neg (Ne.symm hi.1)]
  have e9 : mark dd i 9 = dd 9 := by unfold mark; rw [if_neg (Ne.symm hi.2)]
  unfold DoC at h ⊢
  rw [e4, e9]
  split
  · rename_i q
    rw [if_pos q] at h
    split
    · rename_i q2; rw [if_pos q2] at h; exact h.below hb
    · rename_i q2; rw [if_neg q2] at h; exact h
  · rename_i q
    rw [if_neg q] at h
    split
    · rename_i q2; rw [if_pos q2] at h; exact h.below hb
    · rename_i q2; rw [if_neg q2] at h; exact h.trans (hb.mono h.size)
theorem DoC.zero {wx : World} {d r : Nat} {s' t' : St} {F R G Q : Nat → Prop} {dd : Nat → Bool} {w : World} (h : DoC wx d r s' t' F R G Q dd w) (h4 : dd 4 = false) (h9 : dd 9 = false) : Below wx.heap.size wx w := by
  unfold DoC at h
  rwa [h9, if_neg (by simp), h4, if_neg (by simp)] at h
theorem DoC.mid {wx : World} {d r : Nat} {s' t' : St} {F R G Q : Nat → Prop} {dd : Nat → Bool} {w : World} (h : DoC wx d r s' t' F R G Q dd w) (h9 : dd 9 = false) (h4 : dd 4 = true) : NextP wx w d s' F R := by
  unfold DoC at h
  rwa [h9, if_neg (by simp), h4, if_pos rfl] at h
theorem DoC.fin {wx : World} {d r : Nat} {s' t' : St} {F R G Q : Nat → Prop} {dd : Nat → Bool} {w : World} (h : DoC wx d r s' t' F R G Q dd w) (h9 : dd 9 = true) (h4 : dd 4 = true) : Both wx w d r s' t' F R G Q := by
  unfold DoC at h
  rwa [h9, if_pos rfl, h4, if_pos rfl] at h
theorem DoC.one {wx : World} {d r : Nat} {s' t' : St} {F R G Q : Nat → Prop} {dd : Nat → Bool} {w w' : World} (h : DoC wx d r s' t' F R G Q dd w) (h4 : dd 4 = false) (hg : NextP w w' d s' F R) : DoC wx d r s' t' F R G Q (mark dd 4) w' := by
  have e4 : mark dd 4 4 = true := by simp [mark]
  have e9 : mark dd 4 9 = dd 9 := by simp [mark]
  unfold DoC at h ⊢
  rw [e4, e9, if_pos rfl]
  rw [h4] at h
  split
  · rename_i q
    rw [if_pos q, if_neg (by simp)] at h
    exact h.elim
  · rename_i q
    rw [if_neg q, if_neg (by simp)] at h
    rw [if_pos rfl]
    exact NextP.of_below h hg
theorem DoC.two {wx : World} {d r : Nat} {s' t t' : St} {F R G Q : Nat → Prop} {dd : Nat → Bool} {w w' : World} (h : DoC wx d r s' t' F R G Q dd w) (hR : RepR wx r t G Q) (hA : Apart F R G Q) (h9 : dd 9 = false) (h4 : dd 4 = true) (hg : NextR w w' r t' G Q) : DoC wx d r s' t' F R G Q (mark dd 9) w' := by
  have hm := h.mid h9 h4
  have e4 : mark dd 9 4 = dd 4 := by simp [mark]
  have e9 : mark dd 9 9 = true := by simp [mark]
  unfold DoC
  rw [e4, e9, if_pos rfl, h4, if_pos rfl]
  exact both_of hR hA hm hg
theorem doC_block {wx : World} {d r : Nat} {s' t' : St} {F R G Q : Nat → Prop} {dd : Nat → Bool} {w : World} (h : DoC wx d r s' t' F R G Q dd w) {b : Nat} (hb : b < wx.heap.size) (hF : ¬ F b) (hG : ¬ G b) : w.heap[b]? = wx.heap[b]? := by
  unfold DoC at h
  split at h
  · split at h
    · obtain ⟨_, _, _, _, _, _, _, _, _, _, _, hf⟩ := h
      exact hf.block b hb fun z => z.elim hF hG
    · exact h.elim
  · split at h
    · obtain ⟨_, _, _, _, _, hf⟩ := h
      exact hf.block b hb hF
    · exact h.block b hb

set_option maxHeartbeats 4000000 in
set_option maxRecDepth 20000 in
theorem do_0 (w : World) (d r : Nat) (s t : St) (F R G Q : Nat → Prop) (c : Cl) (hP : RepP w d s F R) (hR : RepR w r t G Q) (hA : Apart F R G Q) (hc : c.Fit) (hs : s.Fit) (ht : t.Fit) (hk : c.kind % 6 = 0) :
    Calls Try.prog 28 #[ptr d, ptr r, .agg c.cells.toArray] w fun e w' => e = .returned (.bool ((s.call c).2 == (t.call c).2)) ∧ Both w w' d r (s.call c).1 (t.call c).1 F R G Q := by
  have hbW : Below w.heap.size w (w.alloc (boxC c)) := (Below.refl _ w).alloc (Nat.le_refl _) _
  have hbox := heap_alloc_new w (boxC c)
  have hcl : ∀ e : Ext (w.alloc (boxC c)), e.out.heap[w.heap.size]? = some (boxC c) := fun e => (e.bel.block _ (by simp)).trans hbox
  have m0 := fun e => (boxC_cells (hcl e)).1
  have m1 := fun e => (boxC_cells (hcl e)).2.1
  have m2 := fun e => (boxC_cells (hcl e)).2.2.1
  have m3 := fun e => (boxC_cells (hcl e)).2.2.2.1
  have m4 := fun e => (boxC_cells (hcl e)).2.2.2.2.1
  have m5 := fun e => (boxC_cells (hcl e)).2.2.2.2.2.1
  have m6 := fun e => (boxC_cells (hcl e)).2.2.2.2.2.2.1
  have m7 := fun e => (boxC_cells (hcl e)).2.2.2.2.2.2.2
  have HN1 := Lib.hid (fun W : World => name_any c c.frm W hc.ok.frm)
  have HN2 := Lib.hid (fun W : World => name_any c c.tgt W hc.ok.tgt)
  have HSM := Lib.hid (fun W : World => small_any c.kind 6 W hc.ok.kind.1 hc.ok.kind.2 (by omega) (by omega))
  have HLN := Lib.hid (c.nm_len c.frm hc.name)
  have HLT := Lib.hid (c.nm_len c.tgt hc.name)
  have HC := Lib.hid hc
  have HS := Lib.hid hs
  have HT := Lib.hid ht
  have HP := Lib.hid hP
  have HRR := Lib.hid hR
  have HA := Lib.hid hA
  have HBX := Lib.hid hcl
  have HBW := Lib.hid hbW
  have HK := Lib.hid hk
  have HSZ := Lib.hid (show (w.alloc (boxC c)).heap.size = w.heap.size + 1 by simp)
  clear hP hR hA hs ht hc hcl hbW hbox hk
  unfold ptr
  go_enter Try.func28, Try.ntmps28
  go_wp2_with fail
  change Code.wp _ _ _ _ (w.alloc (boxC c))
  generalize hWd : w.alloc (boxC c) = W at *
  clear hWd
  refine wp_region_self (by kernel_rfl) (by kernel_rfl) ?_
  repeat (go_big_quiet_step (fail))
  go_big_quiet_step ((go_at_call 34; exact ext_of (HN1.out _)))
  repeat (go_big_quiet_step (fail))
  go_big_quiet_step ((go_at_call 34; exact ext_of (HN2.out _)))
  repeat (go_big_quiet_step (fail))
  refine wpQuiet_nil ?_
  rintro _ ⟨e1, rfl⟩
  have HB1 := Lib.hid (HBW.out.trans (e1.bel.mono HBW.out.size))
  have y0 := m0 e1
  have y3 := m3 e1
  have y4 := m4 e1
  have y6 := m6 e1
  have y7 := m7 e1
  have HBOX := Lib.hid (HBX.out e1)
  clear m0 m1 m2 m3 m4 m5 m6 m7
  have HPW := Lib.hid (HP.out.below HB1.out)
  have HRW := Lib.hid (HRR.out.below HB1.out)
  generalize e1.out = wx at *
  go_wp2_with fail
  go_at_call 23
  refine (HSM.out wx).mono ?_
  rw [HK.out]
  rintro e w' ⟨rfl, rfl⟩
  clear e1 HBX
  have HCS := Lib.hid (show s.call c = s.append (c.nm c.frm) c.data by unfold St.call; rw [if_pos HK.out])
  have HCT := Lib.hid (show t.call c = t.append (c.nm c.frm) c.data by unfold St.call; rw [if_pos HK.out])
  have HCP := Lib.hid (fun (w0 : World) (hb : Below wx.heap.size wx w0) => append_any w0 d s F R (c.nm c.frm) c.data (HPW.out.below hb) (by have := HLN.out; omega) (by have := HC.out.data; omega) HS.out.ops)
  have HCR := Lib.hid (fun (w1 : World) (h : NextP wx w1 d (s.append (c.nm c.frm) c.data).1 F R) => rappend_any w1 r t G Q (c.nm c.frm) c.data (keepR HRW.out HA.out h) (by have := HLN.out; omega) (by have := HC.out.data; omega) HRW.out.ok.cap1 HT.out.ops (by have := HT.out.wt; omega))
  have hq : ((s.append (c.nm c.frm) c.data).2 == (t.append (c.nm c.frm) c.data).2) = ((s.call c).2 == (t.call c).2) := by rw [HCS.out, HCT.out]
  have HQ := Lib.hid hq
  have HBXC := Lib.hid (show ∀ dd w', DoC wx d r (s.append (c.nm c.frm) c.data).1 (t.append (c.nm c.frm) c.data).1 F R G Q dd w' → w'.heap[w.heap.size]? = some (boxC c) from fun dd w' h => (doC_block h (lt_of_block HBOX.out) (fun z => by have := HP.out.Flt _ z; omega) (fun z => by have := HRR.out.Flt _ z; omega)).trans HBOX.out)
  clear hq y0 y3 y4 y6 y7
  go_wp2_with fail
  refine wp_region_factsD 10 (fun _ => none) (fun i => i == 4 || i == 9) (DoF d r w.heap.size (bstr (c.nm c.frm)) (bstr c.data) (s.append (c.nm c.frm) c.data).2 (t.append (c.nm c.frm) c.data).2) (DoC wx d r (s.append (c.nm c.frm) c.data).1 (t.append (c.nm c.frm) c.data).1 F R G Q)
    (fun i w1 w2 => if i = 4 then NextP w1 w2 d (s.append (c.nm c.frm) c.data).1 F R else NextR w1 w2 r (t.append (c.nm c.frm) c.data).1 G Q) ?_ (by kernel_rfl) (by kernel_rfl) (by rfl) ?_ ?_ ?_ ?_ ?_ ?_ ?_
  · exact ⟨rfl, rfl, rfl, Nat.le_refl _, fun _ _ => rfl⟩
  · intro j oj x y w1 _ _ e _ h
    exact DoF.loc e h
  · exact fun i x w1 w2 h _ => h.world w2
  · exact fun dd i w1 w2 h hb hd hB => h.step (by simpa using hb) hB
  · intro dd i oi w1 w2 hoi hrd h hb hd hg
    rcases (show i = 4 ∨ i = 9 by simpa using hb) with rfl | rfl
    · rw [if_pos rfl] at hg
      exact h.one hd hg
    · rw [if_neg (by omega)] at hg
      simp only [List.getElem?_cons_succ, List.getElem?_cons_zero, Option.some.injEq] at hoi
      subst hoi
      exact h.two HRW.out HA.out hd (hrd ⟨4, .chain⟩ (by simp) rfl) hg
  · exact fun b ob j x dd w1 w2 _ _ _ _ _ _ h _ => h.world w2
  · intro i o hi9 ho1 dd x w1 hcl hdn hrd hC hd1
    have hc : i = 0 ∨ i = 1 ∨ i = 2 ∨ i = 3 ∨ i = 4 ∨ i = 5 ∨ i = 6 ∨ i = 7 ∨ i = 8 ∨ i = 9 := by omega
    have y6 := (boxC_cells (HBXC.out dd w1 hC)).2.2.2.2.2.2.1
    have HCC := Lib.hid hC
    have HCL := Lib.hid hcl
    have HDN := Lib.hid hdn
    have HRD := Lib.hid hrd
    simp only [List.take_succ_cons, List.take_zero, putFrom, Act.put, List.setIfInBounds_toArray, List.set_cons_succ, List.set_cons_zero, Nat.zero_add, Nat.reduceAdd]
    clear hC hcl hdn hrd
    rcases hc with rfl | rfl | rfl | rfl | rfl | rfl | rfl | rfl | rfl | rfl
    all_goals
      simp only [List.getElem?_cons_succ, List.getElem?_cons_zero, Option.some.injEq] at ho1
      subst ho1
      simp [NeedsB, Region.binds, DoF, ptr] at hd1
    all_goals clear hi9
    · go_wp2_with fail
      exact ⟨rfl, rfl, rfl, Below.refl _ _⟩
    · go_wp2_with fail
      exact ⟨rfl, rfl, rfl, Below.refl _ _⟩
    · go_wp2_with fail
      exact ⟨rfl, rfl, rfl, Below.refl _ _⟩
    · go_wp2_with fail
      exact ⟨rfl, rfl, rfl, Below.refl _ _⟩
    · have hB : Below wx.heap.size wx w1 := HCC.out.zero HDN.out (by
        have h9 := HCL.out 9 _ rfl
        cases q : dd 9 with
        | false => rfl
        | true => have := h9 q ⟨4, .chain⟩ (by simp) rfl; rw [HDN.out] at this; cases this)
      have hcp := HCP.out w1 hB
      unfold ptr at hcp
      clear y6 hB
      go_wp2_with fail
      go_at_call 21
      refine hcp.mono ?_
      rintro e w2 ⟨rfl, hn1⟩
      have HN := Lib.hid hn1
      clear hn1 hcp
      go_wp2_with fail
      exact ⟨rfl, rfl, rfl, HN.out⟩
    · go_wp2_with fail
      exact ⟨rfl, rfl, rfl, Below.refl _ _⟩
    · go_wp2_with fail
      exact ⟨rfl, rfl, rfl, Below.refl _ _⟩
    · go_wp2_with fail
      exact ⟨rfl, rfl, rfl, Below.refl _ _⟩
    · go_wp2_with fail
      exact ⟨rfl, rfl, rfl, Below.refl _ _⟩
    · have hB : NextP wx w1 d (s.append (c.nm c.frm) c.data).1 F R := HCC.out.mid HDN.out (HRD.out ⟨4, .chain⟩ (by simp) rfl)
      have hcr := HCR.out w1 hB
      unfold ptr at hcr
      clear y6 hB
      go_wp2_with fail
      go_at_call 40
      refine hcr.mono ?_
      rintro e w2 ⟨rfl, hn1⟩
      have HN := Lib.hid hn1
      clear hn1 hcr
      go_wp2_with fail
      exact ⟨rfl, rfl, rfl, HN.out⟩
  · intro dd x w1 hdone hC hf
    have f4 := hf 4 (by omega) (fun q hq => by cases hq)
    have f9 := hf 9 (by omega) (fun q hq => by cases hq)
    simp only [DoF] at f4 f9
    simp only [List.take_succ_cons, List.take_zero, List.drop_succ_cons, List.drop_zero, putFrom, Act.put, List.setIfInBounds_toArray, List.set_cons_succ, List.set_cons_zero, Nat.zero_add, Nat.reduceAdd, f4, f9]
    have HC9 := Lib.hid (hC.fin (hdone 9 (by omega)) (hdone 4 (by omega)))
    clear hf f4 f9 hC hdone
    generalize hes : (s.append (c.nm c.frm) c.data).2 = es at *
    generalize het : (t.append (c.nm c.frm) c.data).2 = et at *
    have HES := Lib.hid hes
    have HET := Lib.hid het
    clear hes het
    go_wp2
    go_ret
    exact ⟨by rw [← HQ.out]; rfl, by rw [HCS.out, HCT.out]; exact Both.of_below HB1.out HC9.out⟩

end Go.Proofs.Ytbfgkcgnhgfkmaa.Dk

namespace Go.Proofs.Ytbfgkcgnhgfkmaa.Dk
open Go Go.Maps Go.RowKit Go.Proofs.Ytbfgkcgnhgfkmaa.Slc
set_option linter.unusedVariables false
set_option linter.unusedSimpArgs false

set_option maxHeartbeats 4000000 in
set_option maxRecDepth 20000 in
theorem do_1 (w : World) (d r : Nat) (s t : St) (F R G Q : Nat → Prop) (c : Cl) (hP : RepP w d s F R) (hR : RepR w r t G Q) (hA : Apart F R G Q) (hc : c.Fit) (hs : s.Fit) (ht : t.Fit) (hk : c.kind % 6 = 1) :
    Calls Try.prog 28 #[ptr d, ptr r, .agg c.cells.toArray] w fun e w' => e = .returned (.bool ((s.call c).2 == (t.call c).2)) ∧ Both w w' d r (s.call c).1 (t.call c).1 F R G Q := by
  have hbW : Below w.heap.size w (w.alloc (boxC c)) := (Below.refl _ w).alloc (Nat.le_refl _) _
  have hbox := heap_alloc_new w (boxC c)
  have hcl : ∀ e : Ext (w.alloc (boxC c)), e.out.heap[w.heap.size]? = some (boxC c) := fun e => (e.bel.block _ (by simp)).trans hbox
  have m0 := fun e => (boxC_cells (hcl e)).1
  have m1 := fun e => (boxC_cells (hcl e)).2.1
  have m2 := fun e => (boxC_cells (hcl e)).2.2.1
  have m3 := fun e => (boxC_cells (hcl e)).2.2.2.1
  have m4 := fun e => (boxC_cells (hcl e)).2.2.2.2.1
  have m5 := fun e => (boxC_cells (hcl e)).2.2.2.2.2.1
  have m6 := fun e => (boxC_cells (hcl e)).2.2.2.2.2.2.1
  have m7 := fun e => (boxC_cells (hcl e)).2.2.2.2.2.2.2
  have HN1 := Lib.hid (fun W : World => name_any c c.frm W hc.ok.frm)
  have HN2 := Lib.hid (fun W : World => name_any c c.tgt W hc.ok.tgt)
  have HSM := Lib.hid (fun W : World => small_any c.kind 6 W hc.ok.kind.1 hc.ok.kind.2 (by omega) (by omega))
  have HLN := Lib.hid (c.nm_len c.frm hc.name)
  have HLT := Lib.hid (c.nm_len c.tgt hc.name)
  have HC := Lib.hid hc
  have HS := Lib.hid hs
  have HT := Lib.hid ht
  have HP := Lib.hid hP
  have HRR := Lib.hid hR
  have HA := Lib.hid hA
  have HBX := Lib.hid hcl
  have HBW := Lib.hid hbW
  have HK := Lib.hid hk
  have HSZ := Lib.hid (show (w.alloc (boxC c)).heap.size = w.heap.size + 1 by simp)
  clear hP hR hA hs ht hc hcl hbW hbox hk
  unfold ptr
  go_enter Try.func28, Try.ntmps28
  go_wp2_with fail
  change Code.wp _ _ _ _ (w.alloc (boxC c))
  generalize hWd : w.alloc (boxC c) = W at *
  clear hWd
  refine wp_region_self (by kernel_rfl) (by kernel_rfl) ?_
  repeat (go_big_quiet_step (fail))
  go_big_quiet_step ((go_at_call 34; exact ext_of (HN1.out _)))
  repeat (go_big_quiet_step (fail))
  go_big_quiet_step ((go_at_call 34; exact ext_of (HN2.out _)))
  repeat (go_big_quiet_step (fail))
  refine wpQuiet_nil ?_
  rintro _ ⟨e1, rfl⟩
  have HB1 := Lib.hid (HBW.out.trans (e1.bel.mono HBW.out.size))
  have y0 := m0 e1
  have y3 := m3 e1
  have y4 := m4 e1
  have y6 := m6 e1
  have y7 := m7 e1
  have HBOX := Lib.hid (HBX.out e1)
  clear m0 m1 m2 m3 m4 m5 m6 m7
  have HPW := Lib.hid (HP.out.below HB1.out)
  have HRW := Lib.hid (HRR.out.below HB1.out)
  generalize e1.out = wx at *
  go_wp2_with fail
  go_at_call 23
  refine (HSM.out wx).mono ?_
  rw [HK.out]
  rintro e w' ⟨rfl, rfl⟩
  clear e1 HBX
  have HCS := Lib.hid (show s.call c = s.rename (c.nm c.frm) (c.nm c.tgt) by have hk := HK.out; unfold St.call; rw [if_neg (by omega), if_pos HK.out])
  have HCT := Lib.hid (show t.call c = t.rename (c.nm c.frm) (c.nm c.tgt) by have hk := HK.out; unfold St.call; rw [if_neg (by omega), if_pos HK.out])
  have hcp := rename_any wx d s F R (c.nm c.frm) (c.nm c.tgt) HPW.out (by have := HLN.out; omega) (by have := HLT.out; omega) HS.out.ops
  have HCR := Lib.hid (fun (w1 : World) (h : NextP wx w1 d (s.rename (c.nm c.frm) (c.nm c.tgt)).1 F R) => rrename_any w1 r t G Q (c.nm c.frm) (c.nm c.tgt) (keepR HRW.out HA.out h) (by have := HLN.out; omega) (by have := HLT.out; omega) HT.out.ops (by have := HT.out.wt; omega))
  have hq : ((s.rename (c.nm c.frm) (c.nm c.tgt)).2 == (t.rename (c.nm c.frm) (c.nm c.tgt)).2) = ((s.call c).2 == (t.call c).2) := by rw [HCS.out, HCT.out]
  have HQ := Lib.hid hq
  unfold ptr at hcp
  clear hq y0 y3 y4 y6 y7
  generalize (s.rename (c.nm c.frm) (c.nm c.tgt)).2 = es at *
  generalize (t.rename (c.nm c.frm) (c.nm c.tgt)).2 = et at *
  go_wp2_with fail
  go_at_call 35
  refine hcp.mono ?_
  rintro e w1 ⟨rfl, hn1⟩
  have hcr := HCR.out w1 hn1
  have HN := Lib.hid hn1
  unfold ptr at hcr
  clear hn1 hcp
  go_wp2_with fail
  go_at_call 69
  refine hcr.mono ?_
  rintro e w2 ⟨rfl, hn2⟩
  have HM := Lib.hid (Both.of_below HB1.out (both_of HRW.out HA.out HN.out hn2))
  clear hn2 hcr
  go_wp2
  go_ret
  exact ⟨by rw [← HQ.out]; rfl, by rw [HCS.out, HCT.out]; exact HM.out⟩

set_option maxHeartbeats 4000000 in
set_option maxRecDepth 20000 in
theorem do_2 (w : World) (d r : Nat) (s t : St) (F R G Q : Nat → Prop) (c : Cl) (hP : RepP w d s F R) (hR : RepR w r t G Q) (hA : Apart F R G Q) (hc : c.Fit) (hs : s.Fit) (ht : t.Fit) (hk : c.kind % 6 = 2) :
    Calls Try.prog 28 #[ptr d, ptr r, .agg c.cells.toArray] w fun e w' => e = .returned (.bool ((s.call c).2 == (t.call c).2)) ∧ Both w w' d r (s.call c).1 (t.call c).1 F R G Q := by
  have hbW : Below w.heap.size w (w.alloc (boxC c)) := (Below.refl _ w).alloc (Nat.le_refl _) _
  have hbox := heap_alloc_new w (boxC c)
  have hcl : ∀ e : Ext (w.alloc (boxC c)), e.out.heap[w.heap.size]? = some (boxC c) := fun e => (e.bel.block _ (by simp)).trans hbox
  have m0 := fun e => (boxC_cells (hcl e)).1
  have m1 := fun e => (boxC_cells (hcl e)).2.1
  have m2 := fun e => (boxC_cells (hcl e)).2.2.1
  have m3 := fun e => (boxC_cells (hcl e)).2.2.2.1
  have m4 := fun e => (boxC_cells (hcl e)).2.2.2.2.1
  have m5 := fun e => (boxC_cells (hcl e)).2.2.2.2.2.1
  have m6 := fun e => (boxC_cells (hcl e)).2.2.2.2.2.2.1
  have m7 := fun e => (boxC_cells (hcl e)).2.2.2.2.2.2.2
  have HN1 := Lib.hid (fun W : World => name_any c c.frm W hc.ok.frm)
  have HN2 := Lib.hid (fun W : World => name_any c c.tgt W hc.ok.tgt)
  have HSM := Lib.hid (fun W : World => small_any c.kind 6 W hc.ok.kind.1 hc.ok.kind.2 (by omega) (by omega))
  have HLN := Lib.hid (c.nm_len c.frm hc.name)
  have HLT := Lib.hid (c.nm_len c.tgt hc.name)
  have HC := Lib.hid hc
  have HS := Lib.hid hs
  have HT := Lib.hid ht
  have HP := Lib.hid hP
  have HRR := Lib.hid hR
  have HA := Lib.hid hA
  have HBX := Lib.hid hcl
  have HBW := Lib.hid hbW
  have HK := Lib.hid hk
  have HSZ := Lib.hid (show (w.alloc (boxC c)).heap.size = w.heap.size + 1 by simp)
  clear hP hR hA hs ht hc hcl hbW hbox hk
  unfold ptr
  go_enter Try.func28, Try.ntmps28
  go_wp2_with fail
  change Code.wp _ _ _ _ (w.alloc (boxC c))
  generalize hWd : w.alloc (boxC c) = W at *
  clear hWd
  refine wp_region_self (by kernel_rfl) (by kernel_rfl) ?_
  repeat (go_big_quiet_step (fail))
  go_big_quiet_step ((go_at_call 34; exact ext_of (HN1.out _)))
  repeat (go_big_quiet_step (fail))
  go_big_quiet_step ((go_at_call 34; exact ext_of (HN2.out _)))
  repeat (go_big_quiet_step (fail))
  refine wpQuiet_nil ?_
  rintro _ ⟨e1, rfl⟩
  have HB1 := Lib.hid (HBW.out.trans (e1.bel.mono HBW.out.size))
  have y0 := m0 e1
  have y3 := m3 e1
  have y4 := m4 e1
  have y6 := m6 e1
  have y7 := m7 e1
  have HBOX := Lib.hid (HBX.out e1)
  clear m0 m1 m2 m3 m4 m5 m6 m7
  have HPW := Lib.hid (HP.out.below HB1.out)
  have HRW := Lib.hid (HRR.out.below HB1.out)
  generalize e1.out = wx at *
  go_wp2_with fail
  go_at_call 23
  refine (HSM.out wx).mono ?_
  rw [HK.out]
  rintro e w' ⟨rfl, rfl⟩
  clear e1 HBX
  have HCS := Lib.hid (show s.call c = s.remove (c.nm c.frm) by have hk := HK.out; unfold St.call; rw [if_neg (by omega), if_neg (by omega), if_pos HK.out])
  have HCT := Lib.hid (show t.call c = t.remove (c.nm c.frm) by have hk := HK.out; unfold St.call; rw [if_neg (by omega), if_neg (by omega), if_pos HK.out])
  have hcp := remove_any wx d s F R (c.nm c.frm) HPW.out (by have := HLN.out; omega) HS.out.ops
  have HCR := Lib.hid (fun (w1 : World) (h : NextP wx w1 d (s.remove (c.nm c.frm)).1 F R) => rremove_any w1 r t G Q (c.nm c.frm) (keepR HRW.out HA.out h) (by have := HLN.out; omega) HT.out.ops (by have := HT.out.wt; omega))
  have hq : ((s.remove (c.nm c.frm)).2 == (t.remove (c.nm c.frm)).2) = ((s.call c).2 == (t.call c).2) := by rw [HCS.out, HCT.out]
  have HQ := Lib.hid hq
  unfold ptr at hcp
  clear hq y0 y3 y4 y6 y7
  generalize (s.remove (c.nm c.frm)).2 = es at *
  generalize (t.remove (c.nm c.frm)).2 = et at *
  go_wp2_with fail
  go_at_call 36
  refine hcp.mono ?_
  rintro e w1 ⟨rfl, hn1⟩
  have hcr := HCR.out w1 hn1
  have HN := Lib.hid hn1
  unfold ptr at hcr
  clear hn1 hcp
  go_wp2_with fail
  go_at_call 70
  refine hcr.mono ?_
  rintro e w2 ⟨rfl, hn2⟩
  have HM := Lib.hid (Both.of_below HB1.out (both_of HRW.out HA.out HN.out hn2))
  clear hn2 hcr
  go_wp2
  go_ret
  exact ⟨by rw [← HQ.out]; rfl, by rw [HCS.out, HCT.out]; exact HM.out⟩

set_option maxHeartbeats 4000000 in
set_option maxRecDepth 20000 in
theorem do_3 (w : World) (d r : Nat) (s t : St) (F R G Q : Nat → Prop) (c : Cl) (hP : RepP w d s F R) (hR : RepR w r t G Q) (hA : Apart F R G Q) (hc : c.Fit) (hs : s.Fit) (ht : t.Fit) (hk : c.kind % 6 = 3) :
    Calls Try.prog 28 #[ptr d, ptr r, .agg c.cells.toArray] w fun e w' => e = .returned (.bool ((s.call c).2 == (t.call c).2)) ∧ Both w w' d r (s.call c).1 (t.call c).1 F R G Q := by
  have hbW : Below w.heap.size w (w.alloc (boxC c)) := (Below.refl _ w).alloc (Nat.le_refl _) _
  have hbox := heap_alloc_new w (boxC c)
  have hcl : ∀ e : Ext (w.alloc (boxC c)), e.out.heap[w.heap.size]? = some (boxC c) := fun e => (e.bel.block _ (by simp)).trans hbox
  have m0 := fun e => (boxC_cells (hcl e)).1
  have m1 := fun e => (boxC_cells (hcl e)).2.1
  have m2 := fun e => (boxC_cells (hcl e)).2.2.1
  have m3 := fun e => (boxC_cells (hcl e)).2.2.2.1
  have m4 := fun e => (boxC_cells (hcl e)).2.2.2.2.1
  have m5 := fun e => (boxC_cells (hcl e)).2.2.2.2.2.1
  have m6 := fun e => (boxC_cells (hcl e)).2.2.2.2.2.2.1
  have m7 := fun e => (boxC_cells (hcl e)).2.2.2.2.2.2.2
  have HN1 := Lib.hid (fun W : World => name_any c c.frm W hc.ok.frm)
  have HN2 := Lib.hid (fun W : World => name_any c c.tgt W hc.ok.tgt)
  have HSM := Lib.hid (fun W : World => small_any c.kind 6 W hc.ok.kind.1 hc.ok.kind.2 (by omega) (by omega))
  have HLN := Lib.hid (c.nm_len c.frm hc.name)
  have HLT := Lib.hid (c.nm_len c.tgt hc.name)
  have HC := Lib.hid hc
  have HS := Lib.hid hs
  have HT := Lib.hid ht
  have HP := Lib.hid hP
  have HRR := Lib.hid hR
  have HA := Lib.hid hA
  have HBX := Lib.hid hcl
  have HBW := Lib.hid hbW
  have HK := Lib.hid hk
  have HSZ := Lib.hid (show (w.alloc (boxC c)).heap.size = w.heap.size + 1 by simp)
  clear hP hR hA hs ht hc hcl hbW hbox hk
  unfold ptr
  go_enter Try.func28, Try.ntmps28
  go_wp2_with fail
  change Code.wp _ _ _ _ (w.alloc (boxC c))
  generalize hWd : w.alloc (boxC c) = W at *
  clear hWd
  refine wp_region_self (by kernel_rfl) (by kernel_rfl) ?_
  repeat (go_big_quiet_step (fail))
  go_big_quiet_step ((go_at_call 34; exact ext_of (HN1.out _)))
  repeat (go_big_quiet_step (fail))
  go_big_quiet_step ((go_at_call 34; exact ext_of (HN2.out _)))
  repeat (go_big_quiet_step (fail))
  refine wpQuiet_nil ?_
  rintro _ ⟨e1, rfl⟩
  have HB1 := Lib.hid (HBW.out.trans (e1.bel.mono HBW.out.size))
  have y0 := m0 e1
  have y3 := m3 e1
  have y4 := m4 e1
  have y6 := m6 e1
  have y7 := m7 e1
  have HBOX := Lib.hid (HBX.out e1)
  clear m0 m1 m2 m3 m4 m5 m6 m7
  have HPW := Lib.hid (HP.out.below HB1.out)
  have HRW := Lib.hid (HRR.out.below HB1.out)
  generalize e1.out = wx at *
  go_wp2_with fail
  go_at_call 23
  refine (HSM.out wx).mono ?_
  rw [HK.out]
  rintro e w' ⟨rfl, rfl⟩
  clear e1 HBX
  have HCS := Lib.hid (show s.call c = s.sync by have hk := HK.out; unfold St.call; rw [if_neg (by omega), if_neg (by omega), if_neg (by omega), if_pos HK.out])
  have HCT := Lib.hid (show t.call c = t.sync by have hk := HK.out; unfold St.call; rw [if_neg (by omega), if_neg (by omega), if_neg (by omega), if_pos HK.out])
  have hcp := sync_any wx d s F R  HPW.out 
  have HCR := Lib.hid (fun (w1 : World) (h : NextP wx w1 d (s.sync).1 F R) => rsync_any w1 r t G Q  (keepR HRW.out HA.out h) HT.out.ops (by have := HT.out.wt; omega))
  have hq : ((s.sync).2 == (t.sync).2) = ((s.call c).2 == (t.call c).2) := by rw [HCS.out, HCT.out]
  have HQ := Lib.hid hq
  unfold ptr at hcp
  clear hq y0 y3 y4 y6 y7
  generalize (s.sync).2 = es at *
  generalize (t.sync).2 = et at *
  go_wp2_with fail
  go_at_call 22
  refine hcp.mono ?_
  rintro e w1 ⟨rfl, hn1⟩
  have hcr := HCR.out w1 hn1
  have HN := Lib.hid hn1
  unfold ptr at hcr
  clear hn1 hcp
  go_wp2_with fail
  go_at_call 41
  refine hcr.mono ?_
  rintro e w2 ⟨rfl, hn2⟩
  have HM := Lib.hid (Both.of_below HB1.out (both_of HRW.out HA.out HN.out hn2))
  clear hn2 hcr
  go_wp2
  go_ret
  exact ⟨by rw [← HQ.out]; rfl, by rw [HCS.out, HCT.out]; exact HM.out⟩

end Go.Proofs.Ytbfgkcgnhgfkmaa.Dk

namespace Go.Proofs.Ytbfgkcgnhgfkmaa.Dk
open Go Go.Maps Go.RowKit Go.Proofs.Ytbfgkcgnhgfkmaa.Slc
set_option linter.unusedVariables false
set_option linter.unusedSimpArgs false

set_option maxHeartbeats 4000000 in
set_option maxRecDepth 20000 in
theorem do_4 (w : World) (d r : Nat) (s t : St) (F R G Q : Nat → Prop) (c : Cl) (hP : RepP w d s F R) (hR : RepR w r t G Q) (hA : Apart F R G Q) (hc : c.Fit) (hs : s.Fit) (ht : t.Fit) (hk : c.kind % 6 = 4) :
    Calls Try.prog 28 #[ptr d, ptr r, .agg c.cells.toArray] w fun e w' => e = .returned (.bool ((s.call c).2 == (t.call c).2)) ∧ Both w w' d r (s.call c).1 (t.call c).1 F R G Q := by
  have hbW : Below w.heap.size w (w.alloc (boxC c)) := (Below.refl _ w).alloc (Nat.le_refl _) _
  have hbox := heap_alloc_new w (boxC c)
  have hcl : ∀ e : Ext (w.alloc (boxC c)), e.out.heap[w.heap.size]? = some (boxC c) := fun e => (e.bel.block _ (by simp)).trans hbox
  have m0 := fun e => (boxC_cells (hcl e)).1
  have m1 := fun e => (boxC_cells (hcl e)).2.1
  have m2 := fun e => (boxC_cells (hcl e)).2.2.1
  have m3 := fun e => (boxC_cells (hcl e)).2.2.2.1
  have m4 := fun e => (boxC_cells (hcl e)).2.2.2.2.1
  have m5 := fun e => (boxC_cells (hcl e)).2.2.2.2.2.1
  have m6 := fun e => (boxC_cells (hcl e)).2.2.2.2.2.2.1
  have m7 := fun e => (boxC_cells (hcl e)).2.2.2.2.2.2.2
  have HN1 := Lib.hid (fun W : World => name_any c c.frm W hc.ok.frm)
  have HN2 := Lib.hid (fun W : World => name_any c c.tgt W hc.ok.tgt)
  have HSM := Lib.hid (fun W : World => small_any c.kind 6 W hc.ok.kind.1 hc.ok.kind.2 (by omega) (by omega))
  have HLN := Lib.hid (c.nm_len c.frm hc.name)
  have HLT := Lib.hid (c.nm_len c.tgt hc.name)
  have HC := Lib.hid hc
  have HS := Lib.hid hs
  have HT := Lib.hid ht
  have HP := Lib.hid hP
  have HRR := Lib.hid hR
  have HA := Lib.hid hA
  have HBX := Lib.hid hcl
  have HBW := Lib.hid hbW
  have HK := Lib.hid hk
  have HSZ := Lib.hid (show (w.alloc (boxC c)).heap.size = w.heap.size + 1 by simp)
  clear hP hR hA hs ht hc hcl hbW hbox hk
  unfold ptr
  go_enter Try.func28, Try.ntmps28
  go_wp2_with fail
  change Code.wp _ _ _ _ (w.alloc (boxC c))
  generalize hWd : w.alloc (boxC c) = W at *
  clear hWd
  refine wp_region_self (by kernel_rfl) (by kernel_rfl) ?_
  repeat (go_big_quiet_step (fail))
  go_big_quiet_step ((go_at_call 34; exact ext_of (HN1.out _)))
  repeat (go_big_quiet_step (fail))
  go_big_quiet_step ((go_at_call 34; exact ext_of (HN2.out _)))
  repeat (go_big_quiet_step (fail))
  refine wpQuiet_nil ?_
  rintro _ ⟨e1, rfl⟩
  have HB1 := Lib.hid (HBW.out.trans (e1.bel.mono HBW.out.size))
  have y0 := m0 e1
  have y3 := m3 e1
  have y4 := m4 e1
  have y6 := m6 e1
  have y7 := m7 e1
  have HBOX := Lib.hid (HBX.out e1)
  clear m0 m1 m2 m3 m4 m5 m6 m7
  have HPW := Lib.hid (HP.out.below HB1.out)
  have HRW := Lib.hid (HRR.out.below HB1.out)
  generalize e1.out = wx at *
  go_wp2_with fail
  go_at_call 23
  refine (HSM.out wx).mono ?_
  rw [HK.out]
  rintro e w' ⟨rfl, rfl⟩
  clear e1 HBX
  have HCS := Lib.hid (show s.call c = (s.fuse c.fz, 0) by have hk := HK.out; unfold St.call; rw [if_neg (by omega), if_neg (by omega), if_neg (by omega), if_neg (by omega), if_pos HK.out])
  have HCT := Lib.hid (show t.call c = (t.fuse c.fz, 0) by have hk := HK.out; unfold St.call; rw [if_neg (by omega), if_neg (by omega), if_neg (by omega), if_neg (by omega), if_pos HK.out])
  have hcp := fuse_any wx d s F R c.fz HPW.out HC.out.fz.1 HC.out.fz.2
  have HCR := Lib.hid (fun (w1 : World) (h : NextP wx w1 d (s.fuse c.fz) F R) => rfuse_any w1 r t G Q c.fz (keepR HRW.out HA.out h) HC.out.fz.1 HC.out.fz.2)
  unfold ptr at hcp
  have HFZ := Lib.hid (show c.fz = if c.raw then c.n else c.n % 9 - 1 from rfl)
  have HS9 := Lib.hid (small_any c.n 9 wx HC.out.ok.n.1 HC.out.ok.n.2 (by omega) (by omega))
  clear y0 y4 y6
  cases hraw : c.raw with
  | true =>
    rw [hraw] at y7
    have HFE := Lib.hid (show c.fz = c.n by rw [HFZ.out, hraw]; rfl)
    rw [HFE.out] at hcp HCR HCS HCT
    clear hraw
    go_wp2_with fail
    go_at_call 30
    refine hcp.mono ?_
    rintro e w1 ⟨rfl, hn1⟩
    have hcr := HCR.out w1 hn1
    have HN := Lib.hid hn1
    unfold ptr at hcr
    clear hn1 hcp
    go_wp2_with fail
    go_at_call 57
    refine hcr.mono ?_
    rintro e w2 ⟨rfl, hn2⟩
    have HM := Lib.hid (Both.of_below HB1.out (both_of HRW.out HA.out HN.out hn2))
    clear hn2 hcr
    go_wp2
    go_ret
    exact ⟨by rw [HCS.out, HCT.out]; rfl, by rw [HCS.out, HCT.out]; exact HM.out⟩
  | false =>
    rw [hraw] at y7
    have HFE := Lib.hid (show c.fz = c.n % 9 - 1 by rw [HFZ.out, hraw]; rfl)
    rw [HFE.out] at hcp HCR HCS HCT
    have q1 : IntKind.i64.wrap (c.n % 9 - 1) = c.n % 9 - 1 := IntWalk.i64_in _ (by omega)
    clear hraw
    go_wp2_with fail
    go_at_call 23
    refine HS9.out.mono ?_
    rintro e w' ⟨rfl, rfl⟩
    generalize c.n % 9 = z at *
    go_wp2_with fail
    go_at_call 30
    refine hcp.mono ?_
    rintro e w1 ⟨rfl, hn1⟩
    have hcr := HCR.out w1 hn1
    have HN := Lib.hid hn1
    unfold ptr at hcr
    clear hn1 hcp
    go_wp2_with fail
    go_at_call 57
    refine hcr.mono ?_
    rintro e w2 ⟨rfl, hn2⟩
    have HM := Lib.hid (Both.of_below HB1.out (both_of HRW.out HA.out HN.out hn2))
    clear hn2 hcr
    go_wp2
    go_ret
    exact ⟨by rw [HCS.out, HCT.out]; rfl, by rw [HCS.out, HCT.out]; exact HM.out⟩

end Go.Proofs.Ytbfgkcgnhgfkmaa.Dk

namespace Go.Proofs.Ytbfgkcgnhgfkmaa.Dk
open Go Go.Maps Go.RowKit Go.Proofs.Ytbfgkcgnhgfkmaa.Slc
set_option linter.unusedVariables false
set_option linter.unusedSimpArgs false

set_option maxHeartbeats 4000000 in
set_option maxRecDepth 20000 in
theorem do_5 (w : World) (d r : Nat) (s t : St) (F R G Q : Nat → Prop) (c : Cl) (hP : RepP w d s F R) (hR : RepR w r t G Q) (hA : Apart F R G Q) (hc : c.Fit) (hs : s.Fit) (ht : t.Fit) (hk : c.kind % 6 = 5) :
    Calls Try.prog 28 #[ptr d, ptr r, .agg c.cells.toArray] w fun e w' => e = .returned (.bool ((s.call c).2 == (t.call c).2)) ∧ Both w w' d r (s.call c).1 (t.call c).1 F R G Q := by
  have hbW : Below w.heap.size w (w.alloc (boxC c)) := (Below.refl _ w).alloc (Nat.le_refl _) _
  have hbox := heap_alloc_new w (boxC c)
  have hcl : ∀ e : Ext (w.alloc (boxC c)), e.out.heap[w.heap.size]? = some (boxC c) := fun e => (e.bel.block _ (by simp)).trans hbox
  have m0 := fun e => (boxC_cells (hcl e)).1
  have m1 := fun e => (boxC_cells (hcl e)).2.1
  have m2 := fun e => (boxC_cells (hcl e)).2.2.1
  have m3 := fun e => (boxC_cells (hcl e)).2.2.2.1
  have m4 := fun e => (boxC_cells (hcl e)).2.2.2.2.1
  have m5 := fun e => (boxC_cells (hcl e)).2.2.2.2.2.1
  have m6 := fun e => (boxC_cells (hcl e)).2.2.2.2.2.2.1
  have m7 := fun e => (boxC_cells (hcl e)).2.2.2.2.2.2.2
  have HN1 := Lib.hid (fun W : World => name_any c c.frm W hc.ok.frm)
  have HN2 := Lib.hid (fun W : World => name_any c c.tgt W hc.ok.tgt)
  have HSM := Lib.hid (fun W : World => small_any c.kind 6 W hc.ok.kind.1 hc.ok.kind.2 (by omega) (by omega))
  have HLN := Lib.hid (c.nm_len c.frm hc.name)
  have HLT := Lib.hid (c.nm_len c.tgt hc.name)
  have HC := Lib.hid hc
  have HS := Lib.hid hs
  have HT := Lib.hid ht
  have HP := Lib.hid hP
  have HRR := Lib.hid hR
  have HA := Lib.hid hA
  have HBX := Lib.hid hcl
  have HBW := Lib.hid hbW
  have HK := Lib.hid hk
  have HSZ := Lib.hid (show (w.alloc (boxC c)).heap.size = w.heap.size + 1 by simp)
  clear hP hR hA hs ht hc hcl hbW hbox hk
  unfold ptr
  go_enter Try.func28, Try.ntmps28
  go_wp2_with fail
  change Code.wp _ _ _ _ (w.alloc (boxC c))
  generalize hWd : w.alloc (boxC c) = W at *
  clear hWd
  refine wp_region_self (by kernel_rfl) (by kernel_rfl) ?_
  repeat (go_big_quiet_step (fail))
  go_big_quiet_step ((go_at_call 34; exact ext_of (HN1.out _)))
  repeat (go_big_quiet_step (fail))
  go_big_quiet_step ((go_at_call 34; exact ext_of (HN2.out _)))
  repeat (go_big_quiet_step (fail))
  refine wpQuiet_nil ?_
  rintro _ ⟨e1, rfl⟩
  have HB1 := Lib.hid (HBW.out.trans (e1.bel.mono HBW.out.size))
  have y0 := m0 e1
  have y3 := m3 e1
  have y4 := m4 e1
  have y6 := m6 e1
  have y7 := m7 e1
  have HBOX := Lib.hid (HBX.out e1)
  clear m0 m1 m2 m3 m4 m5 m6 m7
  have HPW := Lib.hid (HP.out.below HB1.out)
  have HRW := Lib.hid (HRR.out.below HB1.out)
  generalize e1.out = wx at *
  go_wp2_with fail
  go_at_call 23
  refine (HSM.out wx).mono ?_
  rw [HK.out]
  rintro e w' ⟨rfl, rfl⟩
  clear e1 HBX
  have HCS := Lib.hid (show s.call c = (s.crash c.ck c.cm, 0) by have hk := HK.out; unfold St.call; rw [if_neg (by omega), if_neg (by omega), if_neg (by omega), if_neg (by omega), if_neg (by omega)])
  have HCT := Lib.hid (show t.call c = (t.crash c.ck c.cm, 0) by have hk := HK.out; unfold St.call; rw [if_neg (by omega), if_neg (by omega), if_neg (by omega), if_neg (by omega), if_neg (by omega)])
  have HCP := Lib.hid (fun (w0 : World) (hb : Below wx.heap.size wx w0) => crash_any w0 d s F R c.ck c.cm (HPW.out.below hb) HS.out.ops HC.out.ck.1 HC.out.ck.2 HC.out.cm.1 HC.out.cm.2)
  have HCR := Lib.hid (fun (w0 w1 : World) (hb : Below wx.heap.size wx w0) (h : NextP w0 w1 d (s.crash c.ck c.cm) F R) => rcrash_any w1 r t G Q c.ck c.cm (keepR (HRW.out.below hb) HA.out h) HT.out.ops (by have := HT.out.wt; omega) HC.out.ck.1 HC.out.ck.2 HC.out.cm.1 HC.out.cm.2)
  have HS7 := Lib.hid (fun W : World => small_any c.n 7 W HC.out.ok.n.1 HC.out.ok.n.2 (by omega) (by omega))
  have HS7m := Lib.hid (fun W : World => small_any c.m 7 W HC.out.ok.m.1 HC.out.ok.m.2 (by omega) (by omega))
  have HCK := Lib.hid (show c.ck = if c.raw then c.n else c.n % 7 - 1 from rfl)
  have HCM := Lib.hid (show c.cm = if c.raw then c.m else c.m % 7 - 1 from rfl)
  have hbx := HBOX.out
  have n3 : ∀ e : Ext wx, e.out.cell? ⟨w.heap.size, 3, none⟩ = some (.int .i64 c.n) := fun e => (e.cell (lt_of_block hbx)).trans y3
  have n4 : ∀ e : Ext wx, e.out.cell? ⟨w.heap.size, 4, none⟩ = some (.int .i64 c.m) := fun e => (e.cell (lt_of_block hbx)).trans y4
  have n7 : ∀ e : Ext wx, e.out.cell? ⟨w.heap.size, 7, none⟩ = some (.bool c.raw) := fun e => (e.cell (lt_of_block hbx)).trans y7
  clear y0 y3 y4 y6 y7 hbx
  go_wp2_with fail
  refine wp_region_self (by kernel_rfl) (by kernel_rfl) ?_
  repeat (go_big_quiet_step (fail))
  refine wpQuiet_nil ?_
  rintro _ ⟨e2, rfl⟩
  have y7 := n7 e2
  cases hraw : c.raw with
  | true =>
    rw [hraw] at y7
    have HCKE := Lib.hid (show c.ck = c.n by rw [HCK.out, hraw]; rfl)
    have HCME := Lib.hid (show c.cm = c.m by rw [HCM.out, hraw]; rfl)
    rw [HCKE.out, HCME.out] at HCP HCR HCS HCT
    clear hraw n3 n4 n7
    go_wp2_with fail
    go_at_call 24
    refine (HCP.out _ e2.bel).mono ?_
    rintro e w1 ⟨rfl, hn1⟩
    have HCR1 := Lib.hid (HCR.out _ w1 e2.bel hn1)
    have HN := Lib.hid hn1
    clear hn1
    go_wp2_with fail
    go_at_call 59
    refine HCR1.out.mono ?_
    rintro e w2 ⟨rfl, hn2⟩
    have HM := Lib.hid (Both.of_below HB1.out (Both.of_below e2.bel (both_of (HRW.out.below e2.bel) HA.out HN.out hn2)))
    clear hn2
    go_wp2
    go_ret
    exact ⟨by rw [HCS.out, HCT.out]; rfl, by rw [HCS.out, HCT.out]; exact HM.out⟩
  | false =>
    rw [hraw] at y7
    have HCKE := Lib.hid (show c.ck = c.n % 7 - 1 by rw [HCK.out, hraw]; rfl)
    have HCME := Lib.hid (show c.cm = c.m % 7 - 1 by rw [HCM.out, hraw]; rfl)
    rw [HCKE.out, HCME.out] at HCP HCR HCS HCT
    have q1 : IntKind.i64.wrap (c.n % 7 - 1) = c.n % 7 - 1 := IntWalk.i64_in _ (by omega)
    have q2 : IntKind.i64.wrap (c.m % 7 - 1) = c.m % 7 - 1 := IntWalk.i64_in _ (by omega)
    clear hraw n7
    generalize c.n % 7 = zn at *
    generalize c.m % 7 = zm at *
    go_wp2_with fail
    refine wp_region_ext e2 (by kernel_rfl) (by kernel_rfl) ?_
    repeat (go_big_quiet_step (fail))
    go_big_quiet_step ((go_at_call 23; exact ext_of_same (HS7.out _)))
    repeat (go_big_quiet_step (fail))
    go_big_quiet_step ((go_at_call 23; exact ext_of_same (HS7m.out _)))
    repeat (go_big_quiet_step (fail))
    refine wpQuiet_nil ?_
    rintro _ ⟨e3, rfl⟩
    clear n3 n4 y7
    go_wp2_with fail
    go_at_call 24
    refine (HCP.out _ e3.bel).mono ?_
    rintro e w1 ⟨rfl, hn1⟩
    have HCR1 := Lib.hid (HCR.out _ w1 e3.bel hn1)
    have HN := Lib.hid hn1
    clear hn1
    go_wp2_with fail
    go_at_call 59
    refine HCR1.out.mono ?_
    rintro e w2 ⟨rfl, hn2⟩
    have HM := Lib.hid (Both.of_below HB1.out (Both.of_below e3.bel (both_of (HRW.out.below e3.bel) HA.out HN.out hn2)))
    clear hn2
    go_wp2
    go_ret
    exact ⟨by rw [HCS.out, HCT.out]; rfl, by rw [HCS.out, HCT.out]; exact HM.out⟩

end Go.Proofs.Ytbfgkcgnhgfkmaa.Dk
