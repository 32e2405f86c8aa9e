/-
  PublishDeltas, walked.
-/
import Derived.Test.YtpagoinnkknkfaaLawCurWalk
import Derived.Test.YtpagoinnkknkfaaPbDelta
import Derived.Test.YtpagoinnkknkfaaFactsR
namespace Go.Proofs.Ytpagoinnkknkfaa.Pb
open Go Go.RowKit Go.Shelf Go.Proofs.Ytpagoinnkknkfaa.Slc
set_option linter.unusedVariables false
set_option linter.unusedSimpArgs false
attribute [local go_sem] Oper.semAt_some

theorem ints_one {w : World} {b : Nat} {t : TypeId} {k : Int} (h : w.heap[b]? = some (.cells #[.int .i64 k] t (0, 0))) : Ints w .i64 (.slice (some ⟨b, 0, none⟩) 1 1) [k] :=
  .some b 0 1 [k] (lt_of_block h) (by simp) (by simp) (by unfold maxLen; simp) fun j y hj => by
    have hjl : j = 0 := by have := (List.getElem?_eq_some_iff.1 hj).1; simpa using this
    subst hjl
    simp only [List.getElem?_cons_zero, Option.some.injEq] at hj
    subst hj
    rw [Nat.add_zero, cell_of_row _ _ 0 _ _ _ h]; rfl
/-- the facts of the region of the two states -/
def DlF (W : World) (K : Int) (nv hv : Value) (nm : Nm) (h : List Ch) : Nat → Value → World → Prop
  | 0, x, _ => x = .agg #[nv]
  | 1, x, _ => x = hv
  | 2, x, _ => x = .int .i64 K
  | 3, x, w => ∃ b : Nat, x = .slice (some ⟨b, 0, none⟩) 1 1 ∧ W.heap.size ≤ b ∧ w.heap[b]? = some (.cells #[.int .i64 K] 3 (0, 0))
  | 4, x, w => ∃ (g : Nat) (W2 : World) (v2 : Value), x = .pointer (some ⟨g, 0, none⟩) ∧ W.heap.size ≤ g ∧ Deck W2 v2 [K] w g
  | 5, x, _ => x = hv
  | 6, x, _ => x = .int .i64 (h.length : Nat)
  | 7, x, _ => x = .int .i64 ((h.length : Nat) + 1)
  | 8, x, _ => ∃ r : Nat, x = .int .i64 r ∧ r ≤ h.length
  | 9, x, w => ∃ r : Nat, r ≤ h.length ∧ Rd w encC x (h.take r)
  | 10, x, w => ∃ (r : Nat) (out : List Et), EL w x out ∧ ens out = curE nm (h.take r)
  | 11, x, _ => x = .agg #[nv]
  | 12, x, _ => x = hv
  | 13, x, w => ∃ out : List Et, EL w x out ∧ ens out = curE nm h
  | 14, x, w => ∃ (r : Nat) (out : List Et), EL w x out ∧ ens out = curE nm (h.take r)
  | 15, x, w => ∃ out : List Et, EL w x out ∧ ens out = curE nm h
  | _, _, _ => True
theorem DlF.stable (W : World) (K : Int) (nv hv : Value) (nm : Nm) (h : List Ch) (i : Nat) (x : Value) (w w' : World) (hf : DlF W K nv hv nm h i x w) (hb : Below w.heap.size w w') : DlF W K nv hv nm h i x w' := by
  match i with
  | 0 | 1 | 2 | 5 | 6 | 7 | 8 | 11 | 12 => exact hf
  | 3 => obtain ⟨b, h1, h2, h3⟩ := hf; exact ⟨b, h1, h2, (hb.block b (lt_of_block h3)).trans h3⟩
  | 4 => obtain ⟨g, W2, v2, h1, h2, h3⟩ := hf; exact ⟨g, W2, v2, h1, h2, h3.below hb⟩
  | 9 => obtain ⟨r, h1, h2⟩ := hf; exact ⟨r, h1, h2.below hb⟩
  | 10 | 14 => obtain ⟨r, out, h1, h2⟩ := hf; exact ⟨r, out, h1.below hb, h2⟩
  | 13 | 15 => obtain ⟨out, h1, h2⟩ := hf; exact ⟨out, h1.below hb, h2⟩
  | _ + 16 => exact trivial
/-- who uses the new deck up -/
def DlC : Nat → Option Nat
  | 3 => some 4
  | 4 => some 8
  | _ => none
theorem und_changesE : Try.prog.underlying 27 = some (.slice (Try.prog.elem 27)) := by kernel_rfl
theorem el_change : Try.prog.elem 27 = 24 := by kernel_rfl
set_option maxRecDepth 100000 in
set_option maxHeartbeats 8000000 in
theorem law_deltas (v : Value) (zs : List Int) (K tm : Int) (w : World) (hI : Ints w .i64 v zs) :
    Calls Try.prog 13 #[v, .int .i64 K, .int .i64 tm] w fun e w' => e = .returned (.bool true) ∧ Below w.heap.size w w' := by
  have haw := awake_any
  have hau := auth1
  have hnew := new_any w v zs w hI (Below.refl _ _)
  go_enter Try.func13, Try.ntmps13
  go_wp2_with fail
  refine hnew.mono ?_
  rintro e W3 ⟨rfl, hb23, hD3⟩
  clear hnew
  obtain ⟨g, hg⟩ : ∃ g, g = w.heap.size := ⟨_, rfl⟩
  rw [← hg] at hD3 hb23 ⊢
  have hhist := hist_any w v zs W3 g 30 hD3 (by omega)
  have HB23 := Bx.mk hb23
  have HG := Bx.mk hg
  have hgl := hD3.lt
  clear hb23 hD3 hg
  go_wp2_with fail
  refine hhist.mono ?_
  rintro e W4 ⟨hv, hc, rfl, hown, hlen, hIs, -, hg4⟩
  clear hhist
  have hO : Go.Proofs.Ytpagoinnkknkfaa.Slc.Own W4 W3.heap.size 24 4 encC hv hc := hown
  have HBW := Bx.mk (show Below w.heap.size w W4 from HG.out ▸ HB23.out.grown hg4 (by omega) (fun k hk => by simp only [Option.some.injEq] at hk; omega))
  have HH := Bx.mk hO.rd
  obtain ⟨ha, hca, rfl, -⟩ := hO.rd.form
  have HIS := Bx.mk hIs
  clear hO hown hg4 hIs
  go_wp2_with fail
  go_at_call 19
  refine (hau _).mono ?_
  rintro e w5 ⟨⟨na, nn, nc⟩, rfl, hnm, hb5⟩
  clear hau
  simp only [Sl.val] at hnm ⊢
  obtain ⟨p, hp⟩ : ∃ p, p = w5.heap.size := ⟨_, rfl⟩
  obtain ⟨W6, hW6⟩ : ∃ W6, W6 = w5.alloc (.cells #[.slice na nn nc] 36) := ⟨_, rfl⟩
  have hb56 : Below w5.heap.size w5 W6 := by rw [hW6]; exact (Below.refl _ _).alloc (Nat.le_refl _) _
  have hr6 : W6.heap[p]? = some (.cells #[.slice na nn nc] 36 (0, 0)) := by rw [hW6]; exact alloc_at hp
  have HN6 := Bx.mk (hnm.nat.below hb56)
  have hb46 := hb5.trans (hb56.mono hb5.size)
  have HB6 := Bx.mk (HBW.out.trans (hb46.mono HBW.out.size))
  have HH6 := Bx.mk (HH.out.below hb46)
  have HR6 := Bx.mk hr6
  clear hnm hb5 hb56 hb46 hr6
  go_wp2_with fail
  rw [← hW6]
  try rw [← hp]
  clear hp hW6
  refine wp_region_factsH 16 DlC (fun i => i == 8) (fun j x w => DlF W6 K (.slice na nn nc) (.slice ha hc.length hca) (authN 1) hc j (x j) w) (fun _ w' => Below W6.heap.size W6 w') (fun _ w1 w2 => ∃ g2 : Nat, W6.heap.size ≤ g2 ∧ w1.grownBy w2 (some g2)) ⟨rfl, rfl, rfl, Nat.le_refl _, fun _ _ => rfl⟩ (by kernel_rfl) (by kernel_rfl) (by rfl) ?_ (fun i x w w' => DlF.stable _ _ _ _ _ _ i (x i) w w') ?_ ?_ ?_ ?_ ?_
  · intro j oj x y w1 _ _ hxy _ hh
    show DlF _ _ _ _ _ _ j (y j) w1
    rw [← hxy]; exact hh
  · intro d i w1 w2 hC _ _ hb; exact hC.trans (hb.mono hC.size)
  · rintro d i oi w1 w2 _ _ hC _ _ ⟨g2, hg2, hgr⟩
    exact hC.grown hgr hC.size fun k hk => by simp only [Option.some.injEq] at hk; omega
  · rintro b ob j x d w1 w2 hbig hob hdep hcons hne hj hcl hdj hdb hphi ⟨g2, hg2, hgr⟩
    have hb8 : b = 8 := by simpa using hbig
    subst hb8
    have late : ∀ f, waitsB _ 8 f j = true → False := fun f hw => by
      have := waits_done hcl f j hw hdj
      rw [hdb] at this; cases this
    have hjc : j = 0 ∨ j = 1 ∨ j = 2 ∨ j = 3 ∨ j = 4 ∨ j = 5 ∨ j = 6 ∨ j = 7 ∨ j = 9 ∨ j = 10 ∨ j = 11 ∨ j = 12 ∨ j = 13 ∨ j = 14 ∨ j = 15 := by omega
    rcases hjc with rfl | rfl | rfl | rfl | rfl | rfl | rfl | rfl | rfl | rfl | rfl | rfl | rfl | rfl | rfl
    case inr.inr.inr.inl =>
      have h1 := hcons 4 rfl
      simp only [mark] at h1
      obtain rfl := Option.some.inj hob
      have h2 := hdep
      simp [Region.binds] at h2
      simp [h2] at h1
    case inr.inr.inr.inr.inl =>
      have h1 := hcons 8 rfl
      simp [mark] at h1
    all_goals first
      | exact hphi
      | exact (late 6 (by kernel_rfl)).elim
  · intro i oo hi ho d x w7 _ _ _ hb hN
    have hcs : i = 0 ∨ i = 1 ∨ i = 2 ∨ i = 3 ∨ i = 4 ∨ i = 5 ∨ i = 6 ∨ i = 7 ∨ i = 8 ∨ i = 9 ∨ i = 10 ∨ i = 11 ∨ i = 12 ∨ i = 13 ∨ i = 14 ∨ i = 15 := by omega
    simp only [List.take_succ_cons, List.take_zero, putFrom, Act.put, List.setIfInBounds_toArray, List.set_cons_succ, List.set_cons_zero, Nat.zero_add, Nat.reduceAdd]
    have bp := (hb.block p (lt_of_block HR6.out)).trans HR6.out
    have mp := cell_of_row _ _ 0 _ _ _ bp
    simp only [List.getElem?_toArray, List.getElem?_cons_zero, List.getElem?_cons_succ] at mp
    have HHB := Bx.mk (HH6.out.below hb)
    have HNB := Bx.mk (HN6.out.below hb)
    have HSB := Bx.mk hb.size
    clear bp
    rcases hcs with rfl | rfl | rfl | rfl | rfl | rfl | rfl | rfl | rfl | rfl | rfl | rfl | rfl | rfl | rfl | rfl
    all_goals
      simp only [List.getElem?_cons_succ, List.getElem?_cons_zero, Option.some.injEq] at ho
      subst ho
      simp [NeedsB, DlC, Region.binds, DlF, upd] at hN
      simp only [Nat.reduceBEq, Bool.false_eq_true, if_false, if_true, beq_self_eq_true]
    case inr.inr.inr.inl =>
      go_wp2_with fail
      exact ⟨rfl, rfl, ⟨w7.heap.size, rfl, HSB.out, heap_alloc_new _ _⟩, (Below.refl _ _).alloc (Nat.le_refl _) _⟩
    case inr.inr.inr.inr.inl =>
      obtain ⟨b, q1, q2, q3⟩ := hN
      have hnw := new_any w7 _ [K] w7 (ints_one q3) (Below.refl _ _)
      clear q3
      go_wp2_with (go_at_call 14; refine hnw.mono ?_; rintro e w8 ⟨rfl, hb8, hD8⟩)
      exact ⟨rfl, rfl, ⟨w7.heap.size, w7, _, rfl, HSB.out, hD8⟩, hb8⟩
    case inr.inr.inr.inr.inr.inr.inr.inr.inl =>
      obtain ⟨⟨g2, q1, q2, W2, v2, q3⟩, q4⟩ := hN
      have hnx := next_any W2 v2 [K] w7 g2 ((hc.length : Int) + 1) q3 (by omega) (by omega)
      clear q3
      go_wp2_with (go_at_call 25; refine hnx.mono ?_; rintro e w8 ⟨r, rfl, a1, b1, -, hg8⟩)
      exact ⟨rfl, rfl, ⟨r.toNat, by rw [Int.toNat_of_nonneg a1]; rfl, by omega⟩, g2, q2, hg8⟩
    case inr.inr.inr.inr.inr.inr.inr.inr.inr.inl =>
      obtain ⟨q1, r, q2, q3⟩ := hN
      obtain ⟨u, hu1, hu2⟩ := Rd.upto (P := Try.prog) encC_ok HHB.out und_changesE (fun W => by rw [el_change]; exact Try.sizeOf24 W) r q3
      go_wp2_with fail
      exact ⟨rfl, rfl, ⟨r, q3, hu2⟩, Below.refl _ _⟩
    case inr.inr.inr.inr.inr.inr.inr.inr.inr.inr.inl =>
      obtain ⟨q1, ⟨r, q2, q3⟩, -⟩ := hN
      have hpc := pcur_any w7 (.slice na nn nc) (authN 1) HNB.out (okA 1) _ _ q3 (by rw [List.length_take]; omega) (fun c hc => (HIS.out c (List.mem_of_mem_take hc)).i64)
      clear q3
      go_wp2_with (go_at_call 22; refine hpc.mono ?_; rintro e w8 ⟨rv, out, rfl, ho, heo, hb8⟩)
      exact ⟨rfl, rfl, ⟨r, out, heo.el, ho⟩, hb8⟩
    case inr.inr.inr.inr.inr.inr.inr.inr.inr.inr.inr.inr.inr.inl =>
      have hpc := pcur_any w7 (.slice na nn nc) (authN 1) HNB.out (okA 1) _ hc HHB.out (by omega) (fun c hc => (HIS.out c hc).i64)
      go_wp2_with (go_at_call 22; refine hpc.mono ?_; rintro e w8 ⟨rv, out, rfl, ho, heo, hb8⟩)
      exact ⟨rfl, rfl, ⟨out, heo.el, ho⟩, hb8⟩
    case inr.inr.inr.inr.inr.inr.inr.inr.inr.inr.inr.inr.inr.inr.inl =>
      obtain ⟨⟨r, out, q1, q2⟩, -⟩ := hN
      go_wp2_with fail
      exact ⟨rfl, rfl, ⟨r, out, q1, q2⟩, Below.refl _ _⟩
    case inr.inr.inr.inr.inr.inr.inr.inr.inr.inr.inr.inr.inr.inr.inr =>
      obtain ⟨⟨out, q1, q2⟩, -⟩ := hN
      go_wp2_with fail
      exact ⟨rfl, rfl, ⟨out, q1, q2⟩, Below.refl _ _⟩
    all_goals
      go_wp2_with fail
      exact ⟨rfl, rfl, rfl, Below.refl _ _⟩
  · intro d x w7 _ hb hf
    have f14 := hf 14 (by omega) (fun c hc => by cases hc)
    have f15 := hf 15 (by omega) (fun c hc => by cases hc)
    simp only [DlF] at f14 f15
    clear hf
    obtain ⟨r, old, ho1, ho2⟩ := f14
    obtain ⟨now, hn1, hn2⟩ := f15
    have HB7 := Bx.mk (HB6.out.trans (hb.mono HB6.out.size))
    have ol := cur_six (authN 1) (hc.take r) (fun c q => HIS.out c (List.mem_of_mem_take q))
    have nl := cur_six (authN 1) hc HIS.out
    rw [← ho2, List.length_map] at ol
    rw [← hn2, List.length_map] at nl
    obtain ⟨C, hC1, hC2⟩ := delta_plain (authN 1) (hc.take r) hc tm
    rw [← ho2, ← hn2] at hC1
    rw [← hn2] at hC2
    have HC2 := Bx.mk hC2
    have HDS := Bx.mk (show diffE (ens now) (ens now) tm = [] by rw [hn2]; exact diff_self (cur_nd _ _) tm)
    have HDL := Bx.mk (diff_len (old := ens old) (now := ens now) tm)
    have HC1 := Bx.mk hC1
    simp only [List.take_succ_cons, List.take_zero, List.drop_succ_cons, List.drop_zero, putFrom, Act.put, List.setIfInBounds_toArray, List.set_cons_succ, List.set_cons_zero, Nat.zero_add, Nat.reduceAdd]
    obtain ⟨oa, oc, hof, -⟩ := ho1.rd.form
    obtain ⟨nwa, nwc, hnf, -⟩ := hn1.rd.form
    rw [hof] at ho1 ⊢
    rw [hnf] at hn1 ⊢
    have hdif := pdiff_any w7 _ _ old now tm ho1 hn1 (by omega) (by omega) (by omega)
    have HO := Bx.mk ho1
    have HN := Bx.mk hn1
    clear hb hof hnf hC1 hC2 ho1 hn1 ho2 hn2
    generalize x 0 = x0, x 1 = x1, x 2 = x2, x 3 = x3, x 4 = x4, x 5 = x5, x 6 = x6, x 7 = x7, x 8 = x8, x 9 = x9, x 10 = x10, x 11 = x11, x 12 = x12, x 13 = x13
    go_wp2_with fail
    refine hdif.mono ?_
    rintro e w8 ⟨dv, dout, rfl, hdo, hdl, hb8⟩
    clear hdif
    have hdel := hdo.el
    have hdlen : dout.length ≤ 12 := by have h1 := congrArg List.length hdl; have h2 := HDL.out; simp only [ens, List.length_map] at h1 h2; omega
    have hcom := pcomb_any w8 _ _ old dout (HO.out.below hb8) hdel (by omega) (by omega) (by omega)
    rw [hdl, HC1.out] at hcom
    have HB8 := Bx.mk (HB7.out.trans (hb8.mono HB7.out.size))
    have HN8 := Bx.mk (HN.out.below hb8)
    clear hdo hdl hb8 hdel
    go_wp2_with fail
    refine hcom.mono ?_
    rintro e w9 ⟨cv, cout, rfl, hco, hcl, hb9⟩
    clear hcom
    have HCE := Bx.mk hco.el
    have HCL := Bx.mk hcl
    have hcs : sameB (ens cout) (ens now) = true := by rw [hcl]; exact HC2.out
    have hclen : cout.length = now.length := by have := congrArg List.length (sameB_iff.1 hcs); simpa using this
    have HN9 := Bx.mk (HN8.out.below hb9)
    have hsame := rsameE_any w9 _ _ cout now hco.el HN9.out (by omega) (by omega)
    rw [hcs] at hsame
    have HB9 := Bx.mk (HB8.out.trans (hb9.mono HB8.out.size))
    clear hco hcl hb9 hcs
    go_wp2_with fail
    go_at_call 21
    refine hsame.mono ?_
    rintro e w10 ⟨rfl, hb10⟩
    clear hsame
    have HB10 := Bx.mk (HB9.out.trans (hb10.mono HB9.out.size))
    have HN10 := HN9.out.below hb10
    have hdif2 := pdiff_any w10 _ _ now now tm HN10 HN10 (by omega) (by omega) (by omega)
    rw [HDS.out] at hdif2
    clear hb10 HN10
    go_wp2_with fail
    refine hdif2.mono ?_
    rintro e w11 ⟨ev, eout, rfl, heo, hel, hb11⟩
    clear hdif2
    obtain rfl : eout = [] := by simpa [ens] using hel
    obtain ⟨ea, ec, rfl, -⟩ := heo.el.rd.form
    simp only [List.length_nil]
    have HB11 := Bx.mk (HB10.out.trans (hb11.mono HB10.out.size))
    clear heo hel hb11
    go_wp2_with (go_at_call 18; refine (haw _).mono ?_; rintro e w12 ⟨rfl, hb12⟩)
    have HB12 := Bx.mk (HB11.out.trans (hb12.mono HB11.out.size))
    clear hb12
    go_wp2
    go_ret
    exact ⟨rfl, HB12.out⟩
end Go.Proofs.Ytpagoinnkknkfaa.Pb
