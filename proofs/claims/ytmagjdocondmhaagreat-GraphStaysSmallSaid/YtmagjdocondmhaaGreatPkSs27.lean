/-
GraphStaysSmall, walked.
-/
import Derived.Test.YtmagjdocondmhaaGreatPkSs25
import Derived.Test.YtmagjdocondmhaaGreatPkSs26
namespace Go.Proofs.YtmagjdocondmhaaGreat.Tr.Gr
open Go Go.RowKit Go.Proofs.YtmagjdocondmhaaGreat.Slc Go.Proofs.YtmagjdocondmhaaGreat.St Go.Proofs.YtmagjdocondmhaaGreat.Mp Go.Proofs.YtmagjdocondmhaaGreat.Tr Go.Proofs.YtmagjdocondmhaaGreat.Rg
set_option linter.unusedVariables false
set_option linter.unusedSimpArgs false
attribute [local go_sem] Oper.semAt_some

theorem intsOne (w : World) (n : Int) : Ints (w.alloc (.cells #[.int .i64 n] 3)) .i64 (.slice (some ⟨w.heap.size, 0, none⟩) 1 1) [n] :=
  Ints.some w.heap.size 0 1 [n] (by simp) (by simp) (by simp) (by unfold maxLen; simp) (fun j y hj => by
    rw [World.cell?_alloc_at _ _ _ _ rfl]
    cases j with
    | zero => simp at hj; subst hj; rfl
    | succ j => simp at hj)
set_option maxRecDepth 100000 in
set_option maxHeartbeats 4000000 in
/-- one of the first four policies is not the special one -/
theorem policy4_any (w : World) (m : Nat) (hm : m < 4) : Calls Tryz.prog 35 #[.int .i64 m] w fun e w' => ∃ p : B, e = .returned (.string (bstr p)) ∧ (p.length ≤ 100 ∧ p ≠ anyP) ∧ Below w.heap.size w w' := by
  have hb : ∀ x, Below w.heap.size w (w.alloc x) := fun x => (Below.refl _ _).alloc (Nat.le_refl _) _
  have HB := Bx.mk hb
  clear hb
  obtain rfl | rfl | rfl | rfl : m = 0 ∨ m = 1 ∨ m = 2 ∨ m = 3 := by omega
  all_goals
    clear hm
    go_enter Tryz.func35, Tryz.ntmps35
    go_wp2_with fail
    go_ret
  · exact ⟨[49, 46, 50, 46, 51, 46, 49], rfl, by decide, HB.out _⟩
  · exact ⟨[49, 46, 50, 46, 51, 46, 50], rfl, by decide, HB.out _⟩
  · exact ⟨[49, 46, 50, 46, 51, 46, 51], rfl, by decide, HB.out _⟩
  · exact ⟨[49, 46, 50, 46, 51, 46, 52], rfl, by decide, HB.out _⟩
/-- two lists that a call makes while it draws -/
structure SS (W0 : World) (v : Value) (zs : List Int) (w : World) (g : Nat) (av mv : Value) (ao : List B) (mo : List (B × B)) (wr : World) : Prop where
  oa : Slc.Own wr w.heap.size 9 1 encS av ao
  om : Slc.Own wr w.heap.size 49 2 encP mv mo
  dk : Deck W0 v zs wr g
  gr : w.grownBy wr (some g)
section
variable {W0 : World} {v : Value} {zs : List Int} {w : World} {g : Nat} {av mv : Value} {ao : List B} {mo : List (B × B)} {wr w' : World}
theorem SS.below (h : SS W0 v zs w g av mv ao mo wr) (hb : Below wr.heap.size wr w') : SS W0 v zs w g av mv ao mo w' :=
  ⟨h.oa.below hb, h.om.below hb, h.dk.below hb, h.gr.trans (grown_below hb)⟩
theorem SS.grow (h : SS W0 v zs w g av mv ao mo wr) (hg : wr.grownBy w' (some g)) (hd : Deck W0 v zs w' g) (hgl : g < w.heap.size) : SS W0 v zs w g av mv ao mo w' :=
  ⟨own_grown h.oa hg hgl, own_grown h.om hg hgl, hd, h.gr.trans hg⟩
theorem SS.step (h : SS W0 v zs w g av mv ao mo wr) {ob : Option Nat} (hg : wr.grownBy w' ob) (hob : ∀ k, ob = some k → w.heap.size ≤ k) (hgl : g < w.heap.size) (hw0 : W0.heap.size ≤ w.heap.size) : Deck W0 v zs w' g ∧ w.grownBy w' (some g) := by
  have hbb : Below w.heap.size wr w' := (Below.refl _ _).grown hg h.gr.size hob
  exact ⟨deck_keep h.dk hbb hgl hw0, ⟨hbb.os.trans h.gr.os, hbb.tape.trans h.gr.tape, hbb.output.trans h.gr.output, Nat.le_trans h.gr.size hbb.size, fun k hk hne => (hbb.block k hk).trans (h.gr.block k hk hne)⟩⟩
theorem SS.apdA {a b : Nat} {xs news : List Value} {x : B} {v' : Value} (h : SS W0 v zs w g av mv ao mo wr) (hgl : g < w.heap.size) (hw0 : W0.heap.size ≤ w.heap.size) (hx : xs = ao.flatMap encS) (hy : news = [x].flatMap encS) (ha : a = ao.length) (hb : b = 1) (h' : Apd wr w.heap.size 9 1 av a b xs news v' w') : SS W0 v zs w g v' mv (ao ++ [x]) mo w' := by
  obtain ⟨h1, h2⟩ := h.step h'.grown (fun k hk => (h.oa.lt k hk).1) hgl hw0
  exact ⟨h.oa.apd (m := [x]) hx hy ha hb h', h.om.keep fun k hk hkl => h'.grown.block k hkl fun e => own_type h.oa h.om (by decide) k e.symm hk, h1, h2⟩
theorem SS.apdM {a b : Nat} {xs news : List Value} {x : B × B} {v' : Value} (h : SS W0 v zs w g av mv ao mo wr) (hgl : g < w.heap.size) (hw0 : W0.heap.size ≤ w.heap.size) (hx : xs = mo.flatMap encP) (hy : news = [x].flatMap encP) (ha : a = mo.length) (hb : b = 1) (h' : Apd wr w.heap.size 49 2 mv a b xs news v' w') : SS W0 v zs w g av v' ao (mo ++ [x]) w' := by
  obtain ⟨h1, h2⟩ := h.step h'.grown (fun k hk => (h.om.lt k hk).1) hgl hw0
  exact ⟨h.oa.keep fun k hk hkl => h'.grown.block k hkl fun e => own_type h.om h.oa (by decide) k e.symm hk, h.om.apd (m := [x]) hx hy ha hb h', h1, h2⟩
end
theorem src_str' (w : World) (y : B) : SrcV (w.alloc (.cells #[.string (bstr y)] 9)) 1 (.slice (some ⟨w.heap.size, 0, none⟩) 1 1) 1 ([y].flatMap encS) := src_new encS_ok (heap_alloc_new _ _)
theorem SmG.lvs {g : List Lv} {n : Nat} (h : SmG (gxs g) n) : ∀ L ∈ g, L.vs.length ≤ 4 ∧ (allJ (vxs L.vs) L.vs.length).length ≤ 64 := fun L hL => by
  have := h.lens (vxs L.vs) (List.mem_map.2 ⟨L, hL, rfl⟩)
  rwa [vxs_len] at this
theorem SmG.glen {g : List Lv} {n : Nat} (h : SmG (gxs g) n) : g.length ≤ n + 1 := by
  rcases h.len with e | e
  · rw [← gxs_len, e]; simp
  · rw [← gxs_len, e]; omega
set_option maxRecDepth 100000 in
set_option maxHeartbeats 16000000 in
theorem law_stays (v : Value) (zs : List Int) (levels : Int) (w : World) (hI : Ints w .i64 v zs) :
    Calls Tryz.prog 8 #[v, .int .i64 levels] w fun e w' => e = .returned (.bool true) ∧ Below w.heap.size w w' := by
  obtain ⟨i0, hi0, hz0, hz1, hz2⟩ := info_parts info_str
  obtain ⟨im, him, hm0, hm1', hm2'⟩ := info_parts info_map2
  have haw := gawake_any
  have hnew := new_any w v zs w hI (Below.refl _ _)
  obtain ⟨va, vn, vc, rfl⟩ : ∃ a n c, v = .slice a n c := by cases hI <;> exact ⟨_, _, _, rfl⟩
  clear hI
  go_enter Tryz.func8, Tryz.ntmps8
  go_wp2_with fail
  refine hnew.mono ?_
  rintro e w1 ⟨rfl, hb1, hD1⟩
  clear hnew
  obtain ⟨g, hg⟩ : ∃ g, g = w.heap.size := ⟨_, rfl⟩
  rw [← hg] at hD1 ⊢
  have HG := Bx.mk hg
  clear hg
  have HD1 := Bx.mk hD1
  have HB1 := Bx.mk hb1
  have hI2 := intsOne w1 levels
  obtain ⟨W1, hW1⟩ : ∃ W1, W1 = w1.alloc (.cells #[.int .i64 levels] 3) := ⟨_, rfl⟩
  have hb2 : Below w1.heap.size w1 W1 := by rw [hW1]; exact (Below.refl _ _).alloc (Nat.le_refl _) _
  rw [← hW1] at hI2
  have hnew2 := new_any W1 _ [levels] W1 hI2 (Below.refl _ _)
  have HB2 := Bx.mk hb2
  clear hI2 hb1 hb2 hD1
  go_wp2_with fail
  rw [← hW1]
  clear hW1
  refine hnew2.mono ?_
  rintro e w2 ⟨rfl, hb3, hD2⟩
  clear hnew2
  have hnx := next_any W1 _ [levels] w2 W1.heap.size 12 hD2 (by omega) (by omega)
  have HB3 := Bx.mk hb3
  obtain ⟨g2, hg2⟩ : ∃ g, g = W1.heap.size := ⟨_, rfl⟩
  have HG2 := Bx.mk hg2
  rw [← hg2] at hnx ⊢
  clear hD2 hb3 hg2
  go_wp2_with fail
  refine hnx.mono ?_
  rintro e w3 ⟨r, rfl, hr0, hr1, -, hgr⟩
  clear hnx
  have hb13 : Below w1.heap.size w1 w3 := (HB2.out.trans (HB3.out.mono HB2.out.size)).grown hgr (by have := HB2.out.size; have := HB3.out.size; omega) fun k hk => by simp only [Option.some.injEq] at hk; have := HB2.out.size; have := HG2.out; omega
  have HB13 := Bx.mk hb13
  have HGL := Bx.mk (show g < w3.heap.size by have := HD1.out.lt; have := hb13.size; omega)
  have HW0 := Bx.mk (show w.heap.size ≤ w3.heap.size by have := HB1.out.size; have := hb13.size; omega)
  have HS3 := Bx.mk (show SS w (.slice va vn vc) zs w3 g (.slice none 0 0) (.slice none 0 0) [] [] w3 from ⟨Slc.Own.nil _ _, Slc.Own.nil _ _, HD1.out.below hb13, ⟨rfl, rfl, rfl, Nat.le_refl _, fun _ _ _ => rfl⟩⟩)
  obtain ⟨rn, rfl⟩ : ∃ rn : Nat, r = (rn : Int) := ⟨r.toNat, by omega⟩
  clear hgr hb13
  have hgl := HGL.out
  have hw0 := HW0.out
  go_wp2_with fail
  go_loopw [7, 8, 9] (fun av mv i wr => ∃ (i' : Nat) (ao : List B) (mo : List (B × B)), i' ≤ 4 ∧ i = .int .i64 (i' : Nat) ∧ ao.length = i' ∧ mo.length ≤ 4 * i' ∧ Bx (∀ p ∈ ao, p.length ≤ 100 ∧ p ≠ anyP) ∧ Bx (∀ m ∈ mo, m.1.length ≤ 100 ∧ m.2.length ≤ 100) ∧ Bx (SS w (.slice va vn vc) zs w3 g av mv ao mo wr)) (fun _ _ i _ => 4 - (intOf i).toNat)
  case atStart => exact ⟨0, [], [], by omega, rfl, rfl, by simp, ⟨fun p hp => by cases hp⟩, ⟨fun p hp => by cases hp⟩, HS3⟩
  case round =>
    clear HS3
    obtain ⟨i, ao, mo, hi, rfl, hal, hml, hA, hM, hS⟩ := hrel
    by_cases hlt : i < 4
    · have hpol := policy4_any wr i hlt
      obtain ⟨aa, ac, rfl, -⟩ := hS.out.oa.rd.form
      obtain ⟨ma, mc, rfl, -⟩ := hS.out.om.rd.form
      rw [hal]
      have HAL := Bx.mk hal
      clear hal
      obtain ⟨ML, hML⟩ : ∃ n, n = mo.length := ⟨_, rfl⟩
      rw [← hML] at hml ⊢
      have HML := Bx.mk hML
      clear hML
      go_wp2_with fail
      go_at_call 35
      refine hpol.mono ?_
      rintro e w4 ⟨p, rfl, hp, hb4⟩
      clear hpol
      have HS4 := Bx.mk (hS.out.below hb4)
      have HS5 := Bx.mk (HS4.out.below ((Below.refl w4.heap.size w4).alloc (Nat.le_refl _) (.cells #[.string (bstr p)] 9)))
      have HSRC := Bx.mk (src_str' w4 p)
      have HA5 := Bx.mk (show ∀ q ∈ ao ++ [p], q.length ≤ 100 ∧ q ≠ anyP from fun q hq => by
        rcases List.mem_append.1 hq with e | e
        · exact hA.out q e
        · rw [List.mem_singleton] at e; subst e; exact hp)
      have hm1 : i + 1 ≤ maxLen := by unfold maxLen; omega
      have hm2 : (i + 1) * 16 ≤ 140737488355328 := by omega
      have hbz : w3.heap.size ≤ (w4.alloc (.cells #[.string (bstr p)] 9)).heap.size := HS5.out.gr.size
      have HOA := Bx.mk (show World.ownsRow (w4.alloc (.cells #[.string (bstr p)] 9)) w3.heap.size 9 1 (.slice aa i ac) i (ao.flatMap encS) by
        have := HS5.out.oa
        unfold Slc.Own at this
        rw [HAL.out] at this; exact this)
      clear hb4 hS hA hp HS4
      go_wp2_with (at_builtin; refine wpList_append_any rfl _ _ _ rfl w3.heap.size 9 i0 _ 1 16 und_strs hi0 hz0 hz1 hz2 rfl (by decide) _ i (ao.flatMap encS) rfl HOA.out _ 1 ([p].flatMap encS) rfl HSRC.out hm1 hm2 hbz ?_)
      intro v9 w9 hapd
      have HS9 := Bx.mk (show SS w (.slice va vn vc) zs w3 g v9 (.slice ma mo.length mc) (ao ++ [p]) mo w9 by
        have h1 := HS5.out
        rw [HAL.out] at h1
        exact h1.apdA hgl hw0 rfl rfl HAL.out.symm rfl hapd)
      have HAL9 := Bx.mk (show (ao ++ [p]).length = i + 1 by rw [List.length_append, HAL.out]; rfl)
      obtain ⟨ao', hao'⟩ : ∃ a, a = ao ++ [p] := ⟨_, rfl⟩
      rw [← hao'] at HS9 HAL9 HA5
      rw [← HML.out] at HS9
      clear hapd hm1 hm2 hbz hao' HS5 HOA HSRC
      go_wp2_with fail
      go_loopw [8, 10] (fun mv kv wr => ∃ (k : Nat) (mo : List (B × B)), k ≤ 4 ∧ kv = .int .i64 (k : Nat) ∧ mo.length ≤ 4 * i + k ∧ Bx (∀ m ∈ mo, m.1.length ≤ 100 ∧ m.2.length ≤ 100) ∧ Bx (SS w (.slice va vn vc) zs w3 g v9 mv ao' mo wr)) (fun _ kv _ => 4 - (intOf kv).toNat)
      case atStart => exact ⟨0, mo, by omega, rfl, by rw [← HML.out]; omega, hM, HS9⟩
      case round =>
        clear HS9 hM HML hml
        obtain ⟨k, mo, hk, rfl, hml, hM, hS⟩ := hrel
        obtain ⟨ma, mc, rfl, -⟩ := hS.out.om.rd.form
        obtain ⟨ML, hML⟩ : ∃ n, n = mo.length := ⟨_, rfl⟩
        rw [← hML] at hml ⊢
        have HML := Bx.mk hML
        clear hML
        by_cases hlt2 : k < 4
        · have hnx := next_any w _ zs wr g 4 hS.out.dk (by omega) (by omega)
          go_upto_region 12 with fail
          go_cut [42] (fun cc wx => ∃ b, cc = .bool b ∧ Bx (SS w (.slice va vn vc) zs w3 g v9 (.slice ma mo.length mc) ao' mo wx))
          case first =>
            go_wp2_with fail
            refine hnx.mono ?_
            rintro e w5 ⟨r5, rfl, a5, b5, hD5, hg5⟩
            clear hnx
            have HS5 := Bx.mk (hS.out.grow hg5 hD5 hgl)
            clear hD5 hg5 hS a5 b5
            by_cases h1 : r5 > 0
            · have t1 : decide (r5 > 0) = true := decide_eq_true h1
              go_wp2_with fail
              go_meet
              exact ⟨true, rfl, HS5⟩
            · have t1 : decide (r5 > 0) = false := decide_eq_false h1
              by_cases h2 : vn = 0
              · have t2 : ((vn : Int) == 0) = true := by simp; omega
                have t3 : (vn : Int) = 0 := by omega
                clear h2
                go_wp2_with fail
                go_meet
                exact ⟨true, rfl, HS5⟩
              · have t2 : ((vn : Int) == 0) = false := by simp; omega
                clear h2
                go_wp2_with fail
                go_meet
                exact ⟨false, rfl, HS5⟩
          case rest =>
          obtain ⟨b, rfl, HS5⟩ := hcut
          obtain ⟨w5, rfl⟩ : ∃ w5, w5 = wc := ⟨_, rfl⟩
          clear hnx hS
          cases b with
          | false =>
            have HS6 := Bx.mk (show SS w (.slice va vn vc) zs w3 g v9 (.slice ma ML mc) ao' mo w5 by rw [HML.out]; exact HS5.out)
            go_wp2_with fail
            go_roundw
            case rel => exact ⟨k + 1, mo, by omega, by go_num, by rw [← HML.out]; omega, hM, HS6⟩
            case measure => simp [intOf]; omega
          | true =>
            have hpol := policy4_any w5 i hlt
            go_wp2_with fail
            go_at_call 35
            refine hpol.mono ?_
            rintro e w6 ⟨p1, rfl, hp1, hb6⟩
            clear hpol
            have HS6 := Bx.mk (HS5.out.below hb6)
            have hpol := policy4_any w6 k hlt2
            clear hb6 HS5
            go_wp2_with fail
            go_at_call 35
            refine hpol.mono ?_
            rintro e w7 ⟨p2, rfl, hp2, hb7⟩
            clear hpol
            have HS7 := Bx.mk (HS6.out.below hb7)
            have HS8 := Bx.mk (HS7.out.below ((Below.refl w7.heap.size w7).alloc (Nat.le_refl _) (.cells #[.string (bstr p1), .string (bstr p2)] 49)))
            have HM8 := Bx.mk (show ∀ q ∈ mo ++ [(p1, p2)], q.1.length ≤ 100 ∧ q.2.length ≤ 100 from fun q hq => by
              rcases List.mem_append.1 hq with e | e
              · exact hM.out q e
              · rw [List.mem_singleton] at e; subst e; exact ⟨hp1.1, hp2.1⟩)
            have HSRC := Bx.mk (src_map w7 p1 p2)
            have hm1 : ML + 1 ≤ maxLen := by unfold maxLen; omega
            have hm2 : (ML + 1) * 32 ≤ 140737488355328 := by omega
            have hbz : w3.heap.size ≤ (w7.alloc (.cells #[.string (bstr p1), .string (bstr p2)] 49)).heap.size := HS8.out.gr.size
            have HOM := Bx.mk (show World.ownsRow (w7.alloc (.cells #[.string (bstr p1), .string (bstr p2)] 49)) w3.heap.size 49 2 (.slice ma ML mc) ML (mo.flatMap encP) by
              have := HS8.out.om
              unfold Slc.Own at this
              rw [← HML.out] at this; exact this)
            clear hb7 HS6 HS7 hM hp1 hp2
            go_wp2_with (at_builtin; refine wpList_append_any rfl _ _ _ rfl w3.heap.size 49 im _ 2 32 und_maps him hm0 hm1' hm2' rfl (by decide) _ ML (mo.flatMap encP) rfl HOM.out _ 1 ([(p1, p2)].flatMap encP) rfl HSRC.out hm1 hm2 hbz ?_)
            intro v8 w8 hapd
            have HS9 := Bx.mk (show SS w (.slice va vn vc) zs w3 g v9 v8 ao' (mo ++ [(p1, p2)]) w8 by
              have h1 := HS8.out
              rw [← HML.out] at h1
              exact h1.apdM hgl hw0 rfl rfl HML.out rfl hapd)
            have HL9 := Bx.mk (show (mo ++ [(p1, p2)]).length ≤ 4 * i + (k + 1) by rw [List.length_append, ← HML.out]; simp; omega)
            clear hapd hm1 hm2 hbz HOM HSRC HS8
            go_wp2_with fail
            go_roundw
            case rel => exact ⟨k + 1, _, by omega, by go_num, HL9.out, HM8, HS9⟩
            case measure => simp [intOf]; omega
        · have HS6 := Bx.mk (show SS w (.slice va vn vc) zs w3 g v9 (.slice ma ML mc) ao' mo wr by rw [HML.out]; exact hS.out)
          have HL6 := Bx.mk (show mo.length ≤ 4 * (i + 1) by rw [← HML.out]; omega)
          go_wp2_with fail
          go_roundw
          case rel => exact ⟨i + 1, ao', mo, by omega, by go_num, HAL9.out, HL6.out, HA5, hM, HS6⟩
          case measure => simp [intOf]; omega
    · obtain rfl : i = 4 := by omega
      have h0 := groot_any wr
      obtain ⟨aa, ac, rfl, -⟩ := hS.out.oa.rd.form
      obtain ⟨ma, mc, rfl, -⟩ := hS.out.om.rd.form
      have HRA := Bx.mk hS.out.oa.rd
      have HRM := Bx.mk hS.out.om.rd
      rw [hal] at HRA ⊢
      have HAL := Bx.mk hal
      obtain ⟨ML, hML⟩ : ∃ n, n = mo.length := ⟨_, rfl⟩
      rw [← hML] at hml HRM ⊢
      have HML := Bx.mk hML
      have HBW := Bx.mk (show Below w.heap.size w wr by
        have h13 := HB13.out.mono HB1.out.size
        have hgr : Below w.heap.size w3 wr := (Below.refl _ _).grown hS.out.gr HW0.out fun k hk => by simp only [Option.some.injEq] at hk; have := HG.out; omega
        exact (HB1.out.trans h13).trans hgr)
      clear hS hal hML hlt hi
      go_wp2_with fail
      go_at_call 20
      refine h0.mono ?_
      rintro e w10 ⟨vg, g0, rfl, ho, hn0, hb10⟩
      have HG0 := Bx.mk ho.gl
      have HS0 := Bx.mk (show SmG (gxs g0) 0 by rw [hn0]; exact SmG.root)
      have HRA0 := Bx.mk (HRA.out.below hb10)
      have HRM0 := Bx.mk (HRM.out.below hb10)
      have HBW0 := Bx.mk (HBW.out.trans (hb10.mono HBW.out.size))
      clear h0 ho hn0 hb10 HRA HRM HBW
      go_wp2_with fail
      go_loopw [11, 12] (fun gv iv wr => ∃ (j : Nat) (gr : List Lv), 1 ≤ j ∧ j ≤ rn + 2 ∧ iv = .int .i64 (j : Nat) ∧ Bx (GL wr gv gr) ∧ Bx (SmG (gxs gr) (j - 1)) ∧ Bx (Rd wr encS (.slice aa 4 ac) ao) ∧ Bx (Rd wr encP (.slice ma ML mc) mo) ∧ Bx (Below w.heap.size w wr)) (fun _ iv _ => 20 - (intOf iv).toNat)
      case atStart => exact ⟨1, g0, by omega, by omega, rfl, HG0, HS0, HRA0, HRM0, HBW0⟩
      case round =>
        clear HG0 HS0 HRA0 HRM0 HBW0
        obtain ⟨j, gr, hj1, hj2, rfl, hG, hS, hA4, hM4, hB4⟩ := hrel
        obtain ⟨ga, gc, rfl, -⟩ := hG.out.rd.form
        by_cases hlt : j ≤ rn + 1
        · have t1 : decide ((j : Int) ≤ 1 + (rn : Int)) = true := decide_eq_true (by omega)
          have hE1 := hS.out.enter (ps := ao) (fun h => (hA.out _ h).2 rfl) (by rw [HAL.out]; omega)
          obtain ⟨R1, hR1⟩ : ∃ R, R = genterP (gxs gr) ao true := ⟨_, rfl⟩
          have hc1 := genter_any wr (.slice ga gr.length gc) (.slice aa 4 ac) gr ao hG.out.q hA4.out (by have := hS.out.glen; omega) (fun L hL => by have := (hS.out.lvs L hL).1; omega) (fun L hL => by have := (hS.out.lvs L hL).2; have := HAL.out; omega) (by have := HAL.out; omega) (fun p hp => by have := (hA.out p hp).1; omega) true
          rw [← hR1] at hE1 hc1
          rw [show j - 1 + 1 = j by omega] at hE1
          have HE1 := Bx.mk hE1
          clear hR1 hE1
          go_wp2_with fail
          go_at_call 23
          refine hc1.mono ?_
          intro e w11 hE
          obtain ⟨a2, c2, g2', rfl, ho2, hn2, hb2⟩ := hE.ok HE1.out.1
          have HS2 := Bx.mk (show SmG (gxs g2') j by rw [hn2]; exact HE1.out.2)
          have HG2' := Bx.mk ho2.gl
          have HA5 := Bx.mk (hA4.out.below hb2)
          have HM5 := Bx.mk (hM4.out.below hb2)
          have HB5 := Bx.mk (hB4.out.trans (hb2.mono hB4.out.size))
          have hv2 := gvalid_q w11 (.slice a2 g2'.length c2) g2' ho2.gl.q (by have := HS2.out.glen; omega) (fun L hL => by have := (HS2.out.lvs L hL).1; omega)
          rw [HS2.out.val] at hv2
          obtain ⟨L2, hL2⟩ : ∃ L, L = g2'.length := ⟨_, rfl⟩
          rw [← hL2] at hv2 HG2' ⊢
          have HL2 := Bx.mk hL2
          clear hc1 hE ho2 hn2 hb2 hL2 hG hS HE1 hA4 hM4 hB4
          go_wp2_with fail
          go_at_call 15
          refine hv2.mono ?_
          rintro e w12 ⟨rfl, hb3⟩
          have HG3 := Bx.mk (HG2'.out.below hb3)
          have HA6 := Bx.mk (HA5.out.below hb3)
          have HM6 := Bx.mk (HM5.out.below hb3)
          have HB6 := Bx.mk (HB5.out.trans (hb3.mono HB5.out.size))
          have hE2 := HS2.out.map hj1 (ms := mo) (by have := HML.out; omega)
          obtain ⟨R2, hR2⟩ : ∃ R, R = gmapP (gxs g2') mo true := ⟨_, rfl⟩
          have hc2 := gmap_any w12 (.slice a2 L2 c2) (.slice ma ML mc) g2' mo HG3.out.q HM6.out (by have := HS2.out.glen; omega) (fun L hL => by have := (HS2.out.lvs L hL).1; omega) (by have := HML.out; omega) (fun m hm => by have := hM.out m hm; omega) true
          rw [← hR2] at hE2 hc2
          have HE2 := Bx.mk hE2
          clear hv2 hb3 HG2' HA5 HM5 HB5 hR2 hE2
          go_wp2_with fail
          go_at_call 26
          refine hc2.mono ?_
          intro e w13 hE
          obtain ⟨a3, c3, g3', rfl, ho3, hn3, hb4⟩ := hE.ok HE2.out.1
          have HS3 := Bx.mk (show SmG (gxs g3') j by rw [hn3]; exact HE2.out.2)
          have HG4 := Bx.mk ho3.gl
          have HA7 := Bx.mk (HA6.out.below hb4)
          have HM7 := Bx.mk (HM6.out.below hb4)
          have HB7 := Bx.mk (HB6.out.trans (hb4.mono HB6.out.size))
          have HN3 := Bx.mk (show g3'.length = 0 ∨ g3'.length = j + 1 by
            rcases HS3.out.len with e | e
            · exact .inl (by rw [← gxs_len, e]; rfl)
            · exact .inr (by rw [← gxs_len, e]))
          have hv3 := gvalid_q w13 (.slice a3 g3'.length c3) g3' ho3.gl.q (by have := HS3.out.glen; omega) (fun L hL => by have := (HS3.out.lvs L hL).1; omega)
          have hz3 := fun (W : World) (hW : Below w13.heap.size w13 W) => gsize_any W (.slice a3 g3'.length c3) g3' (HG4.out.below hW).q (by have := HS3.out.glen; omega) (fun L hL => by have := (HS3.out.lvs L hL).1; omega)
          rw [HS3.out.val] at hv3
          obtain ⟨L3, hL3⟩ : ∃ L, L = g3'.length := ⟨_, rfl⟩
          rw [← hL3] at hv3 hz3 HG4 HN3 ⊢
          have HZ3 := Bx.mk hz3
          obtain ⟨Z, hZ⟩ : ∃ Z, Z = sizG (gxs g3') := ⟨_, rfl⟩
          have hZ1 : Z ≤ 1 + 4 * j := by rw [hZ]; exact HS3.out.size
          rw [← hZ] at HZ3
          have w1 : IntKind.i64.wrap (4 * (j : Int)) = 4 * (j : Int) := by rw [IntKind.wrap_i64]; omega
          have w2 : IntKind.i64.wrap (1 + 4 * (j : Int)) = 1 + 4 * (j : Int) := by rw [IntKind.wrap_i64]; omega
          have w3 : IntKind.i64.wrap ((j : Int) + 1) = (j : Int) + 1 := by rw [IntKind.wrap_i64]; omega
          have t2 : decide ((Z : Int) > 1 + 4 * (j : Int)) = false := decide_eq_false (by omega)
          clear hc2 hE ho3 hn3 hb4 hL3 hz3 hZ HA6 HM6 HB6 HE2 HS2 HG3 HL2
          go_wp2_with fail
          go_at_call 15
          refine hv3.mono ?_
          rintro e w14 ⟨rfl, hb5⟩
          have HG5 := Bx.mk (HG4.out.below hb5)
          have HA8 := Bx.mk (HA7.out.below hb5)
          have HM8 := Bx.mk (HM7.out.below hb5)
          have HB8 := Bx.mk (HB7.out.trans (hb5.mono HB7.out.size))
          have hz := HZ3.out w14 hb5
          clear hv3 hb5 HZ3 HG4 HA7 HM7 HB7
          go_wp2_with fail
          go_at_call 17
          refine hz.mono ?_
          rintro e w15 ⟨rfl, hb6⟩
          have HG6 := Bx.mk (HG5.out.below hb6)
          have HA9 := Bx.mk (HA8.out.below hb6)
          have HM9 := Bx.mk (HM8.out.below hb6)
          have HB9 := Bx.mk (HB8.out.trans (hb6.mono HB8.out.size))
          clear hz hb6 HG5 HA8 HM8 HB8
          have t4 : 0 < L3 → ((L3 : Int) != (j : Int) + 1) = false := fun h => by
            have e : L3 = j + 1 := by have := HN3.out; omega
            rw [e]; simp
          by_cases t3 : 0 < L3
          · have t5 := t4 t3
            clear t4
            go_wp2_with fail
            go_roundw
            case rel => exact ⟨j + 1, g3', by omega, by omega, by go_num, HG6, by rw [show j + 1 - 1 = j by omega]; exact HS3, HA9, HM9, HB9⟩
            case measure => simp [intOf]; omega
          · clear t4
            go_wp2_with fail
            go_roundw
            case rel => exact ⟨j + 1, g3', by omega, by omega, by go_num, HG6, by rw [show j + 1 - 1 = j by omega]; exact HS3, HA9, HM9, HB9⟩
            case measure => simp [intOf]; omega
        · have t1 : decide ((j : Int) ≤ 1 + (rn : Int)) = false := decide_eq_false (by omega)
          have haw' := haw wr
          go_wp2_with fail
          go_at_call 11
          refine haw'.mono ?_
          rintro e w16 ⟨rfl, hb9⟩
          go_wp2_with fail
          go_ret
          exact ⟨rfl, hB4.out.trans (hb9.mono hB4.out.size)⟩
end Go.Proofs.YtmagjdocondmhaaGreat.Tr.Gr
