/-
  PublishCurrent, walked.
-/
import Derived.Test.YtpagoinnkknkfaaPbRCur
import Derived.Test.YtpagoinnkknkfaaPbSame
namespace Go.Proofs.Ytpagoinnkknkfaa.Pb
open Go Go.RowKit Go.Shelf Go.Proofs.Ytpagoinnkknkfaa.Slc
set_option linter.unusedVariables false
set_option linter.unusedSimpArgs false
attribute [local go_sem] Oper.semAt_some

theorem okA (i : Nat) : Nm.Ok (authN i) := by
  have h1 : ∀ j, (authA j).val.length ≤ 10 := fun j => by unfold authA; split <;> simp
  refine ⟨by unfold authN; split <;> simp, fun a ha => ?_⟩
  unfold authN at ha
  rw [List.mem_cons] at ha
  rcases ha with rfl | ha
  · have := h1 i; omega
  · split at ha
    · rw [List.mem_singleton] at ha; subst ha; simp [unitA]
    · cases ha
theorem curE_len (nm : Nm) (l : List Ch) : (curE nm l).length ≤ l.length := Nat.le_trans (List.length_filterMap_le _ _) (ksort_len l)
/-- the facts of the last region -/
def CcF (nv hv rv : Value) (nm : Nm) (hl rl : List Ch) : Nat → Value → World → Prop
  | 0, x, _ => x = .agg #[nv]
  | 1, x, _ => x = hv
  | 2, x, w => ∃ out, EL w x out ∧ ens out = curE nm hl
  | 3, x, _ => x = .agg #[nv]
  | 4, x, _ => x = hv
  | 5, x, w => ∃ out, EL w x out ∧ ens out = curE nm hl
  | 6, x, _ => x = .bool true
  | 7, x, _ => x = .bool true
  | 8, x, _ => x = .agg #[nv]
  | 9, x, _ => x = rv
  | 10, x, w => ∃ out, EL w x out ∧ ens out = curE nm rl
  | 11, x, _ => x = .agg #[nv]
  | 12, x, _ => x = rv
  | 13, x, w => ∃ out, EL w x out ∧ ens out = curE nm rl
  | 14, x, _ => x = .bool true
  | 15, x, _ => x = .bool true
  | 16, x, _ => x = .bool true
  | 17, x, _ => x = .bool true
  | 18, x, _ => x = .bool true
  | _, _, _ => True
theorem CcF.stable (nv hv rv : Value) (nm : Nm) (hl rl : List Ch) (i : Nat) (x : Value) (w w' : World) (h : CcF nv hv rv nm hl rl i x w) (hb : Below w.heap.size w w') : CcF nv hv rv nm hl rl i x w' := by
  match i with
  | 0 | 1 | 3 | 4 | 6 | 7 | 8 | 9 | 11 | 12 | 14 | 15 | 16 | 17 | 18 => exact h
  | 2 | 5 | 10 | 13 => obtain ⟨out, h1, h2⟩ := h; exact ⟨out, h1.below hb, h2⟩
  | _ + 19 => exact trivial

set_option maxRecDepth 100000 in
set_option maxHeartbeats 4000000 in
theorem law_cur (v : Value) (zs : List Int) (rv : Value) (raw : List Ch) (w : World) (hI : Ints w .i64 v zs) (hA : Rd w encC rv raw) (hs : ∀ c ∈ raw, c.In) (hl : raw.length ≤ 9223372036854775807) :
    Calls Try.prog 5 #[v, rv] w fun e w' => e = .returned (.bool true) ∧ Below w.heap.size w w' := by
  obtain ⟨ad, cap, rfl, -⟩ := hA.form
  have haw := awake_any
  by_cases h30 : 30 < raw.length
  · have t0 : decide ((raw.length : Int) > 30) = true := decide_eq_true (by omega)
    have t1 : decide (30 < raw.length) = true := decide_eq_true h30
    clear hA hl
    go_enter Try.func5, Try.ntmps5
    go_wp2_with (go_at_call 18; refine (haw _).mono ?_; rintro e w2 ⟨rfl, hb2⟩)
    go_ret
    exact ⟨rfl, hb2⟩
  · have t0 : decide ((raw.length : Int) > 30) = false := decide_eq_false (by omega)
    have t1 : decide (30 < raw.length) = false := decide_eq_false h30
    have HA := Bx.mk hA
    have HI := Bx.mk hI
    have HS := Bx.mk (show ∀ c ∈ raw, I64 c.s from fun c hc => (hs c hc).1)
    have hau := auth3
    clear hA hI hs hl
    go_enter Try.func5, Try.ntmps5
    go_wp2_with fail
    go_at_call 19
    refine (hau _).mono ?_
    rintro e w1 ⟨⟨na, nn, nc⟩, rfl, hnm, hb1⟩
    clear hau
    simp only [Sl.val] at hnm ⊢
    obtain ⟨p, hp⟩ : ∃ p, p = w1.heap.size := ⟨_, rfl⟩
    obtain ⟨W2, hW2⟩ : ∃ W2, W2 = w1.alloc (.cells #[.slice na nn nc] 36) := ⟨_, rfl⟩
    have hb12 : Below w1.heap.size w1 W2 := by rw [hW2]; exact (Below.refl _ _).alloc (Nat.le_refl _) _
    have hr2 : W2.heap[p]? = some (.cells #[.slice na nn nc] 36 (0, 0)) := by rw [hW2]; exact alloc_at hp
    have hb2 := hb1.trans (hb12.mono hb1.size)
    have hnm2 := hnm.nat.below hb12
    have hnew := new_any w v zs W2 HI.out hb2
    go_wp2_with fail
    rw [← hW2]
    try rw [← hp]
    clear hp hW2 hnm hb1 hb12
    refine hnew.mono ?_
    rintro e W3 ⟨rfl, hb23, hD3⟩
    clear hnew
    obtain ⟨g, hg⟩ : ∃ g, g = W2.heap.size := ⟨_, rfl⟩
    rw [← hg] at hD3 hb23 ⊢
    have hpl : p < g := by rw [hg]; exact lt_of_block hr2
    have hhist := hist_any w v zs W3 g 30 hD3 (by omega)
    have HB23 := Bx.mk hb23
    have HR2 := Bx.mk hr2
    have HN2 := Bx.mk hnm2
    have HB2 := Bx.mk hb2
    have HG := Bx.mk hg
    have hgl := hD3.lt
    clear hb23 hD3 hr2 hnm2 hb2 hg
    go_wp2_with fail
    refine hhist.mono ?_
    rintro e W4 ⟨hv, hc, rfl, hown, hlen, hIs, -, hg4⟩
    clear hhist
    have hO : Go.Proofs.Ytpagoinnkknkfaa.Slc.Own W4 W3.heap.size 24 4 encC hv hc := hown
    have HB24 := Bx.mk (show Below g W2 W4 from HB23.out.grown hg4 (by omega) (fun k hk => by simp only [Option.some.injEq] at hk; omega))
    have hbw4 : Below w.heap.size w W4 := HB2.out.trans (HB24.out.mono (by rw [HG.out]; exact HB2.out.size))
    have HN4 := Bx.mk (HN2.out.below (HG.out ▸ HB24.out))
    have HR4 := Bx.mk ((HB24.out.block p hpl).trans HR2.out)
    have HA4 := Bx.mk (HA.out.below hbw4)
    have HH4 := Bx.mk hO.rd
    have HBW := Bx.mk hbw4
    have HIS := Bx.mk (show ∀ c ∈ hc, I64 c.s from fun c h => (hIs c h).i64)
    clear hO hown hg4 hbw4 hIs
    go_wp2_with fail
    refine wp_region_facts 19 (CcF (.slice na nn nc) hv (.slice ad raw.length cap) (authN 3) hc raw) (by kernel_rfl) (by kernel_rfl) (by rfl) (CcF.stable _ _ _ _ _ _) ?_ ?_
    · intro i oo hi ho x w7 hb hd
      have hcs : i = 0 ∨ i = 1 ∨ i = 2 ∨ i = 3 ∨ i = 4 ∨ i = 5 ∨ i = 6 ∨ i = 7 ∨ i = 8 ∨ i = 9 ∨ i = 10 ∨ i = 11 ∨ i = 12 ∨ i = 13 ∨ i = 14 ∨ i = 15 ∨ i = 16 ∨ i = 17 ∨ i = 18 := by omega
      simp only [List.take_succ_cons, List.take_zero, putFrom, Act.put, List.setIfInBounds_toArray, List.set_cons_succ, List.set_cons_zero, Nat.zero_add, Nat.reduceAdd]
      have bp := (hb.block p (lt_of_block HR4.out)).trans HR4.out
      have mp := cell_of_row _ _ 0 _ _ _ bp
      simp only [List.getElem?_toArray, List.getElem?_cons_zero, List.getElem?_cons_succ] at mp
      have P1 := pcur_any w7 (.slice na nn nc) (authN 3) (HN4.out.below hb) (okA 3) hv hc (HH4.out.below hb) (by omega) HIS.out
      have P2 := rcur_any w7 (.slice na nn nc) (authN 3) (HN4.out.below hb) (okA 3) hv hc (HH4.out.below hb) (by omega)
      have P3 := pcur_any w7 (.slice na nn nc) (authN 3) (HN4.out.below hb) (okA 3) (.slice ad raw.length cap) raw (HA4.out.below hb) (by omega) HS.out
      have P4 := rcur_any w7 (.slice na nn nc) (authN 3) (HN4.out.below hb) (okA 3) (.slice ad raw.length cap) raw (HA4.out.below hb) (by omega)
      clear bp
      rcases hcs with rfl | rfl | rfl | rfl | rfl | rfl | rfl | rfl | rfl | rfl | rfl | rfl | rfl | rfl | rfl | rfl | rfl | rfl | rfl
      all_goals
        simp only [List.getElem?_cons_succ, List.getElem?_cons_zero, Option.some.injEq] at ho
        subst ho
        simp [Needs, Region.binds, CcF] at hd
      case inr.inr.inl =>
        go_wp2_with (go_at_call 22; refine P1.mono ?_; rintro e w8 ⟨rv, out, rfl, ho, heo, hb8⟩)
        exact ⟨rfl, rfl, ⟨out, heo.el, ho⟩, hb8⟩
      case inr.inr.inr.inr.inr.inl =>
        go_wp2_with (go_at_call 23; refine P2.mono ?_; rintro e w8 ⟨rv, out, rfl, heo, ho, hb8⟩)
        exact ⟨rfl, rfl, ⟨out, heo, ho⟩, hb8⟩
      case inr.inr.inr.inr.inr.inr.inl =>
        obtain ⟨⟨o1, q1, e1⟩, ⟨o2, q2, e2⟩⟩ := hd
        have l1 := curE_len (authN 3) hc
        have P5 := rsameE_any w7 _ _ o1 o2 q1 q2 (by rw [← e1, List.length_map] at l1; omega) (by rw [← e2, List.length_map] at l1; omega)
        rw [e1, e2, sameB_refl] at P5
        go_wp2_with (go_at_call 21; refine P5.mono ?_; rintro e w8 ⟨rfl, hb8⟩)
        exact ⟨rfl, rfl, rfl, hb8⟩
      case inr.inr.inr.inr.inr.inr.inr.inr.inr.inr.inl =>
        go_wp2_with (go_at_call 22; refine P3.mono ?_; rintro e w8 ⟨rv, out, rfl, ho, heo, hb8⟩)
        exact ⟨rfl, rfl, ⟨out, heo.el, ho⟩, hb8⟩
      case inr.inr.inr.inr.inr.inr.inr.inr.inr.inr.inr.inr.inr.inl =>
        go_wp2_with (go_at_call 23; refine P4.mono ?_; rintro e w8 ⟨rv, out, rfl, heo, ho, hb8⟩)
        exact ⟨rfl, rfl, ⟨out, heo, ho⟩, hb8⟩
      case inr.inr.inr.inr.inr.inr.inr.inr.inr.inr.inr.inr.inr.inr.inl =>
        obtain ⟨⟨o1, q1, e1⟩, ⟨o2, q2, e2⟩, h7⟩ := hd
        have l1 := curE_len (authN 3) raw
        have P5 := rsameE_any w7 _ _ o1 o2 q1 q2 (by rw [← e1, List.length_map] at l1; omega) (by rw [← e2, List.length_map] at l1; omega)
        rw [e1, e2, sameB_refl] at P5
        go_wp2_with (go_at_call 21; refine P5.mono ?_; rintro e w8 ⟨rfl, hb8⟩)
        exact ⟨rfl, rfl, rfl, hb8⟩
      case inr.inr.inr.inr.inr.inr.inr.inr.inr.inr.inr.inr.inr.inr.inr.inr.inr.inl =>
        go_wp2_with (go_at_call 18; refine (haw _).mono ?_; rintro e w8 ⟨rfl, hb8⟩)
        exact ⟨rfl, rfl, rfl, hb8⟩
      all_goals
        go_wp2_with fail
        exact ⟨rfl, rfl, rfl, Below.refl _ _⟩
    · intro x w7 hb hf
      have f18 := hf 18 (by omega)
      simp only [CcF] at f18
      clear hf
      have HBF := Bx.mk (HBW.out.trans (hb.mono HBW.out.size))
      simp only [List.take_succ_cons, List.take_zero, List.drop_succ_cons, List.drop_zero, putFrom, Act.put, List.setIfInBounds_toArray, List.set_cons_succ, List.set_cons_zero, Nat.zero_add, Nat.reduceAdd, f18]
      clear hb f18
      generalize x 0 = x0, x 1 = x1, x 2 = x2, x 3 = x3, x 4 = x4, x 5 = x5, x 6 = x6, x 7 = x7, x 8 = x8, x 9 = x9, x 10 = x10, x 11 = x11, x 12 = x12, x 13 = x13, x 14 = x14, x 15 = x15, x 16 = x16, x 17 = x17
      go_wp2
      go_ret
      exact ⟨rfl, HBF.out⟩
end Go.Proofs.Ytpagoinnkknkfaa.Pb
