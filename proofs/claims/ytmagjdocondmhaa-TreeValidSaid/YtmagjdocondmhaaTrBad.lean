/-
  The functions at trees that came in. (Written by wip/gen/gen_trbad.py.)
-/
import Derived.Test.YtmagjdocondmhaaTrOpen
import Derived.Test.YtmagjdocondmhaaTrRefQ
namespace Go.Proofs.Ytmagjdocondmhaa.Tr
open Go Go.RowKit Go.Proofs.Ytmagjdocondmhaa.Slc Go.Proofs.Ytmagjdocondmhaa.St Go.Proofs.Ytmagjdocondmhaa.Mp
set_option linter.unusedVariables false
set_option linter.unusedSimpArgs false
attribute [local go_sem] Oper.semAt_some

theorem valid_ne {l : List Nt} {D : Int} (h : validB (nds l) D = true) : ∀ x ∈ l, 0 < x.n.ex.length := by
  intro x hx
  have hm : x.n ∈ nds l := List.mem_map.2 ⟨x, hx, rfl⟩
  obtain ⟨i, hi, he⟩ := mem_at.1 hm
  unfold validB at h
  simp only [Bool.and_eq_true, List.all_eq_true, List.mem_range] at h
  have hf := h.2.1 i hi
  rw [← he]
  rcases Nat.eq_zero_or_pos i with h0 | h0
  · subst h0
    unfold fitB at hf
    rw [if_pos rfl, fit0_iff] at hf
    rw [hf.2.2.2]; simp
  · have ha := ((fitB_iff _ i h0 D).1 hf).2.2.2.2.2.1
    unfold ascB at ha
    rw [Bool.and_eq_true] at ha
    have := ha.2
    cases q : (nds l)[i]!.ex with
    | nil => rw [q] at this; cases this
    | cons a b => simp

set_option maxRecDepth 100000 in
theorem enter_q (w : World) (v : Value) (l : List Nt) (h : TQ w v l) (hn : l.length ≤ 40) (hx : ∀ x ∈ l, x.n.ex.length ≤ 100) (D : Int) (hD : I64 D) (pv : Value) (ps : List B) (hp : Rd w encS pv ps) (hpl : ps.length ≤ 2000) (hpx : ∀ p ∈ ps, p.length ≤ 1000000) (cnt : Bool) :
    Calls Try.prog 21 #[v, .int .i64 D, pv, .bool cnt] w fun e w' => EnP w (enterP (nds l) D ps cnt) e w' := by
  by_cases hv : (1 ≤ D ∧ validB (nds l) (D - 1) = true)
  · have hT := h.tl (valid_ne hv.2)
    exact enter_any w v pv l ps hT hp (by omega) (by omega) hpx D hD cnt
  · have hR : enterP (nds l) D ps cnt = ([], 7) := by
      unfold enterP
      by_cases h1 : D < 1
      · rw [decide_eq_true h1]; rfl
      · have : validB (nds l) (D - 1) = false := by
          cases q : validB (nds l) (D - 1) with
          | false => rfl
          | true => exact absurd ⟨by omega, q⟩ hv
        rw [this]; simp
    obtain ⟨ad, c, rfl, -⟩ := h.rd.form
    obtain ⟨pa, pc, rfl, -⟩ := hp.form
    rw [hR]
    have HH := Bx.mk h
    obtain ⟨N, hN⟩ : ∃ N, N = l.length := ⟨_, rfl⟩
    have HN := Bx.mk hN

    by_cases h1 : D < 1
    · have t0 : decide (D < 1) = true := decide_eq_true h1
      rw [← hN]
      clear h hN hv hR h1
      unfold EnP I64 at *
      go_enter Try.func21, Try.ntmps21
      go_wp2_with fail
      go_ret2
      exact ⟨_, [], rfl, TO.nil _ _, rfl, Below.refl _ _⟩
    have t0 : decide (D < 1) = false := decide_eq_false h1
    have hvf : validB (nds l) (D - 1) = false := by
      cases q : validB (nds l) (D - 1) with
      | false => rfl
      | true => exact absurd ⟨by omega, q⟩ hv
    have hval := valid_q w _ l h (by omega) ((D - 1))
    rw [hvf] at hval
    have h1' : 1 ≤ D := by omega
    rw [← hN] at hval ⊢
    clear h hN hv hR hvf h1 
    unfold EnP I64 at *
    go_enter Try.func21, Try.ntmps21
    go_wp2_with fail
    go_at_call 15
    refine hval.mono ?_
    rintro e w1 ⟨rfl, hb1⟩
    have HB1 := Bx.mk hb1
    clear hb1
    go_wp2_with fail
    go_ret2
    exact ⟨_, [], rfl, TO.nil _ _, rfl, HB1.out⟩
set_option maxRecDepth 100000 in
theorem renter_q (w : World) (v : Value) (l : List Nt) (h : TQ w v l) (hn : l.length ≤ 40) (hx : ∀ x ∈ l, x.n.ex.length ≤ 100) (D : Int) (hD : I64 D) (pv : Value) (ps : List B) (hp : Rd w encS pv ps) (hpl : ps.length ≤ 2000) (hpx : ∀ p ∈ ps, p.length ≤ 1000000) (cnt : Bool) :
    Calls Try.prog 22 #[v, .int .i64 D, pv, .bool cnt] w fun e w' => EnP w (renterP (nds l) D ps cnt) e w' := by
  by_cases hv : (1 ≤ D ∧ validB (nds l) (D - 1) = true)
  · have hT := h.tl (valid_ne hv.2)
    exact renter_any w v pv l ps hT hp 100 (fun n hn => by
      obtain ⟨x, hm, rfl⟩ := List.mem_map.1 hn
      exact hx x hm) (by
      have := Nat.mul_le_mul hn (show ps.length + 100 + 1 ≤ 2101 by omega)
      omega) (by omega) hpx D hD cnt
  · have hR : renterP (nds l) D ps cnt = ([], 7) := by
      unfold renterP
      by_cases h1 : D < 1
      · rw [decide_eq_true h1]; rfl
      · have : validB (nds l) (D - 1) = false := by
          cases q : validB (nds l) (D - 1) with
          | false => rfl
          | true => exact absurd ⟨by omega, q⟩ hv
        rw [this]; simp
    obtain ⟨ad, c, rfl, -⟩ := h.rd.form
    obtain ⟨pa, pc, rfl, -⟩ := hp.form
    rw [hR]
    have HH := Bx.mk h
    obtain ⟨N, hN⟩ : ∃ N, N = l.length := ⟨_, rfl⟩
    have HN := Bx.mk hN

    by_cases h1 : D < 1
    · have t0 : decide (D < 1) = true := decide_eq_true h1
      rw [← hN]
      clear h hN hv hR h1
      unfold EnP I64 at *
      go_enter Try.func22, Try.ntmps22
      go_wp2_with fail
      go_ret2
      exact ⟨_, [], rfl, TO.nil _ _, rfl, Below.refl _ _⟩
    have t0 : decide (D < 1) = false := decide_eq_false h1
    have hvf : validB (nds l) (D - 1) = false := by
      cases q : validB (nds l) (D - 1) with
      | false => rfl
      | true => exact absurd ⟨by omega, q⟩ hv
    have hval := rvalid_q w _ l h (by omega) ((D - 1))
    rw [rvalid_eq] at hval
    rw [hvf] at hval
    have h1' : 1 ≤ D := by omega
    obtain ⟨D1, hD1⟩ : ∃ D1, D1 = D - 1 := ⟨_, rfl⟩
    have wD : IntKind.i64.wrap (D - 1) = D1 := by rw [hD1]; exact IntWalk.i64_in _ (by obtain ⟨_, h2⟩ := hD; omega)
    rw [← hD1] at hval
    rw [← hN] at hval ⊢
    clear h hN hv hR hvf h1 hD1
    unfold EnP I64 at *
    go_enter Try.func22, Try.ntmps22
    go_wp2_with fail
    go_at_call 16
    refine hval.mono ?_
    rintro e w1 ⟨rfl, hb1⟩
    have HB1 := Bx.mk hb1
    clear hb1
    go_wp2_with fail
    go_ret2
    exact ⟨_, [], rfl, TO.nil _ _, rfl, HB1.out⟩
set_option maxRecDepth 100000 in
theorem pmap_q (w : World) (v : Value) (l : List Nt) (h : TQ w v l) (hn : l.length ≤ 40) (hx : ∀ x ∈ l, x.n.ex.length ≤ 100) (D : Int) (hD : I64 D) (lv : Value) (ms : List (B × B)) (hp : Rd w encP lv ms) (hml : ms.length ≤ 90000) (hmx : ∀ m ∈ ms, m.1.length ≤ 1000000 ∧ m.2.length ≤ 1000000) (ok : Bool) :
    Calls Try.prog 24 #[v, .int .i64 D, lv, .bool ok] w fun e w' => EnP w (mapP (nds l) D ms ok) e w' := by
  by_cases hv : (1 ≤ D ∧ validB (nds l) D = true)
  · have hT := h.tl (valid_ne hv.2)
    exact pmap_any w v lv l ms hT hp (by omega) (by omega) hmx D hD ok
  · have hR : mapP (nds l) D ms ok = ([], 7) := by
      unfold mapP
      by_cases h1 : D < 1
      · rw [decide_eq_true h1]; rfl
      · have : validB (nds l) D = false := by
          cases q : validB (nds l) D with
          | false => rfl
          | true => exact absurd ⟨by omega, q⟩ hv
        rw [this]; simp
    obtain ⟨ad, c, rfl, -⟩ := h.rd.form
    obtain ⟨pa, pc, rfl, -⟩ := hp.form
    rw [hR]
    have HH := Bx.mk h
    obtain ⟨N, hN⟩ : ∃ N, N = l.length := ⟨_, rfl⟩
    have HN := Bx.mk hN

    by_cases h1 : D < 1
    · have t0 : decide (D < 1) = true := decide_eq_true h1
      rw [← hN]
      clear h hN hv hR h1
      unfold EnP I64 at *
      go_enter Try.func24, Try.ntmps24
      go_wp2_with fail
      go_ret2
      exact ⟨_, [], rfl, TO.nil _ _, rfl, Below.refl _ _⟩
    have t0 : decide (D < 1) = false := decide_eq_false h1
    have hvf : validB (nds l) D = false := by
      cases q : validB (nds l) D with
      | false => rfl
      | true => exact absurd ⟨by omega, q⟩ hv
    have hval := valid_q w _ l h (by omega) (D)
    rw [hvf] at hval
    rw [← hN] at hval ⊢
    clear h hN hv hR hvf h1 
    unfold EnP I64 at *
    go_enter Try.func24, Try.ntmps24
    go_wp2_with fail
    go_at_call 15
    refine hval.mono ?_
    rintro e w1 ⟨rfl, hb1⟩
    have HB1 := Bx.mk hb1
    clear hb1
    go_wp2_with fail
    go_ret2
    exact ⟨_, [], rfl, TO.nil _ _, rfl, HB1.out⟩
set_option maxRecDepth 100000 in
theorem rmap_q (w : World) (v : Value) (l : List Nt) (h : TQ w v l) (hn : l.length ≤ 40) (hx : ∀ x ∈ l, x.n.ex.length ≤ 100) (D : Int) (hD : I64 D) (lv : Value) (ms : List (B × B)) (hp : Rd w encP lv ms) (hml : ms.length ≤ 90000) (hmx : ∀ m ∈ ms, m.1.length ≤ 1000000 ∧ m.2.length ≤ 1000000) (ok : Bool) :
    Calls Try.prog 25 #[v, .int .i64 D, lv, .bool ok] w fun e w' => EnP w (rmapP (nds l) D ms ok) e w' := by
  by_cases hv : (1 ≤ D ∧ validB (nds l) D = true)
  · have hT := h.tl (valid_ne hv.2)
    exact rmap_any w v lv l ms hT hp (by omega) hml hmx D ok
  · have hR : rmapP (nds l) D ms ok = ([], 7) := by
      unfold rmapP
      by_cases h1 : D < 1
      · rw [decide_eq_true h1]; rfl
      · have : validB (nds l) D = false := by
          cases q : validB (nds l) D with
          | false => rfl
          | true => exact absurd ⟨by omega, q⟩ hv
        rw [this]; simp
    obtain ⟨ad, c, rfl, -⟩ := h.rd.form
    obtain ⟨pa, pc, rfl, -⟩ := hp.form
    rw [hR]
    have HH := Bx.mk h
    obtain ⟨N, hN⟩ : ∃ N, N = l.length := ⟨_, rfl⟩
    have HN := Bx.mk hN

    by_cases h1 : D < 1
    · have t0 : decide (D < 1) = true := decide_eq_true h1
      rw [← hN]
      clear h hN hv hR h1
      unfold EnP I64 at *
      go_enter Try.func25, Try.ntmps25
      go_wp2_with fail
      go_ret2
      exact ⟨_, [], rfl, TO.nil _ _, rfl, Below.refl _ _⟩
    have t0 : decide (D < 1) = false := decide_eq_false h1
    have hvf : validB (nds l) D = false := by
      cases q : validB (nds l) D with
      | false => rfl
      | true => exact absurd ⟨by omega, q⟩ hv
    have hval := rvalid_q w _ l h (by omega) (D)
    rw [rvalid_eq] at hval
    rw [hvf] at hval
    rw [← hN] at hval ⊢
    clear h hN hv hR hvf h1 
    unfold EnP I64 at *
    go_enter Try.func25, Try.ntmps25
    go_wp2_with fail
    go_at_call 16
    refine hval.mono ?_
    rintro e w1 ⟨rfl, hb1⟩
    have HB1 := Bx.mk hb1
    clear hb1
    go_wp2_with fail
    go_ret2
    exact ⟨_, [], rfl, TO.nil _ _, rfl, HB1.out⟩
set_option maxRecDepth 100000 in
theorem restr_q (w : World) (v : Value) (l : List Nt) (h : TQ w v l) (hn : l.length ≤ 40) (hx : ∀ x ∈ l, x.n.ex.length ≤ 100) (D : Int) (hD : I64 D) (pv : Value) (ps : List B) (hp : Rd w encS pv ps) (hpl : ps.length ≤ 2000) (hpx : ∀ p ∈ ps, p.length ≤ 1000000) :
    Calls Try.prog 26 #[v, .int .i64 D, pv] w fun e w' => EnP w (resP (nds l) D ps) e w' := by
  by_cases hv : validB (nds l) D = true
  · have hT := h.tl (valid_ne hv)
    exact restr_any w v pv l ps hT hp (by omega) (by omega) hpx D hD
  · have hR : resP (nds l) D ps = ([], 7) := by
      unfold resP
      rw [Bool.not_eq_true] at hv
      rw [hv]; rfl
    obtain ⟨ad, c, rfl, -⟩ := h.rd.form
    obtain ⟨pa, pc, rfl, -⟩ := hp.form
    rw [hR]
    have HH := Bx.mk h
    obtain ⟨N, hN⟩ : ∃ N, N = l.length := ⟨_, rfl⟩
    have HN := Bx.mk hN

    have hvf : validB (nds l) D = false := by simpa using hv
    obtain ⟨W0, hW0⟩ : ∃ W0, W0 = w.alloc (.cells #[.int .i64 D] 3) := ⟨_, rfl⟩
    have hq0 : W0.heap[w.heap.size]? = some (.cells #[.int .i64 D] 3 (0, 0)) := by rw [hW0]; exact heap_alloc_new _ _
    have HB0 := Bx.mk (show Below w.heap.size w W0 by rw [hW0]; exact (Below.refl _ _).alloc (Nat.le_refl _) _)
    have d0 := cell_of_row _ _ 0 _ _ _ hq0
    simp only [List.getElem?_toArray, List.getElem?_cons_zero] at d0
    clear hq0
    have hval := valid_q W0 _ l (h.below HB0.out) (by omega) (D)
    rw [hvf] at hval
    rw [← hN] at hval ⊢
    clear h hN hv hR hvf  
    unfold EnP I64 at *
    go_enter Try.func26, Try.ntmps26
    go_upto_region 1 with fail
    rw [← hW0]
    clear hW0
    go_wp2_with fail
    go_at_call 15
    refine hval.mono ?_
    rintro e w1 ⟨rfl, hb1⟩
    have HB1 := Bx.mk (HB0.out.trans (hb1.mono HB0.out.size))
    clear hb1 d0
    go_wp2_with fail
    go_ret2
    exact ⟨_, [], rfl, TO.nil _ _, rfl, HB1.out⟩
set_option maxRecDepth 100000 in
theorem rrestr_q (w : World) (v : Value) (l : List Nt) (h : TQ w v l) (hn : l.length ≤ 40) (hx : ∀ x ∈ l, x.n.ex.length ≤ 100) (D : Int) (hD : I64 D) (pv : Value) (ps : List B) (hp : Rd w encS pv ps) (hpl : ps.length ≤ 2000) (hpx : ∀ p ∈ ps, p.length ≤ 1000000) :
    Calls Try.prog 27 #[v, .int .i64 D, pv] w fun e w' => EnP w (rresP (nds l) D ps) e w' := by
  by_cases hv : validB (nds l) D = true
  · have hT := h.tl (valid_ne hv)
    exact rrestr_any w v pv l ps hT hp (by omega) (by omega) hpx D
  · have hR : rresP (nds l) D ps = ([], 7) := by
      unfold rresP
      rw [Bool.not_eq_true] at hv
      rw [hv]; rfl
    obtain ⟨ad, c, rfl, -⟩ := h.rd.form
    obtain ⟨pa, pc, rfl, -⟩ := hp.form
    rw [hR]
    have HH := Bx.mk h
    obtain ⟨N, hN⟩ : ∃ N, N = l.length := ⟨_, rfl⟩
    have HN := Bx.mk hN

    have hvf : validB (nds l) D = false := by simpa using hv
    have hval := rvalid_q w _ l h (by omega) (D)
    rw [rvalid_eq] at hval
    rw [hvf] at hval
    rw [← hN] at hval ⊢
    clear h hN hv hR hvf  
    unfold EnP I64 at *
    go_enter Try.func27, Try.ntmps27
    go_wp2_with fail
    go_at_call 16
    refine hval.mono ?_
    rintro e w1 ⟨rfl, hb1⟩
    have HB1 := Bx.mk hb1
    clear hb1
    go_wp2_with fail
    go_ret2
    exact ⟨_, [], rfl, TO.nil _ _, rfl, HB1.out⟩
set_option maxRecDepth 100000 in
theorem ppol_q (w : World) (v : Value) (l : List Nt) (h : TQ w v l) (hn : l.length ≤ 40) (D : Int) :
    Calls Try.prog 29 #[v, .int .i64 D] w fun e w' => ∃ v', e = .returned v' ∧ Slc.Own w' w.heap.size 9 1 encS v' (polP (nds l) D) ∧ Below w.heap.size w w' := by
  by_cases hv : validB (nds l) D = true
  · exact ppol_any w v l (h.tl (valid_ne hv)) (by omega) D
  · have hvf : validB (nds l) D = false := by simpa using hv
    have hR : polP (nds l) D = [] := by unfold polP; rw [hvf]; rfl
    have hval := valid_q w v l h (by omega) D
    skip
    rw [hvf] at hval
    rw [hR]
    obtain ⟨ad, c, rfl, -⟩ := h.rd.form
    obtain ⟨N, hN⟩ : ∃ N, N = l.length := ⟨_, rfl⟩
    rw [← hN] at hval ⊢
    clear h hN hv hR hvf
    go_enter Try.func29, Try.ntmps29
    go_wp2_with fail
    go_at_call 15
    refine hval.mono ?_
    rintro e w1 ⟨rfl, hb1⟩
    clear hval
    have HB1 := Bx.mk hb1
    clear hb1
    go_wp2_with fail
    go_ret
    exact ⟨_, rfl, Slc.Own.nil _ _, HB1.out⟩
set_option maxRecDepth 100000 in
theorem rpol_q (w : World) (v : Value) (l : List Nt) (h : TQ w v l) (hn : l.length ≤ 40) (D : Int) :
    Calls Try.prog 30 #[v, .int .i64 D] w fun e w' => ∃ v', e = .returned v' ∧ Slc.Own w' w.heap.size 9 1 encS v' (rpolP (nds l) D) ∧ Below w.heap.size w w' := by
  by_cases hv : validB (nds l) D = true
  · exact rpol_any w v l (h.tl (valid_ne hv)) (by omega) D
  · have hvf : validB (nds l) D = false := by simpa using hv
    have hR : rpolP (nds l) D = [] := by unfold rpolP; rw [hvf]; rfl
    have hval := rvalid_q w v l h (by omega) D
    rw [rvalid_eq] at hval
    rw [hvf] at hval
    rw [hR]
    obtain ⟨ad, c, rfl, -⟩ := h.rd.form
    obtain ⟨N, hN⟩ : ∃ N, N = l.length := ⟨_, rfl⟩
    rw [← hN] at hval ⊢
    clear h hN hv hR hvf
    go_enter Try.func30, Try.ntmps30
    go_wp2_with fail
    go_at_call 16
    refine hval.mono ?_
    rintro e w1 ⟨rfl, hb1⟩
    clear hval
    have HB1 := Bx.mk hb1
    clear hb1
    go_wp2_with fail
    go_ret
    exact ⟨_, rfl, Slc.Own.nil _ _, HB1.out⟩
end Go.Proofs.Ytmagjdocondmhaa.Tr
