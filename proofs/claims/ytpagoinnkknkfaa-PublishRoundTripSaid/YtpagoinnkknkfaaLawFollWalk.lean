/-
  PublishFollows, walked.
-/
import Derived.Test.YtpagoinnkknkfaaPbChange
namespace Go.Proofs.Ytpagoinnkknkfaa.Pb
open Go Go.RowKit Go.Shelf Go.Proofs.Ytpagoinnkknkfaa.Slc
set_option linter.unusedVariables false
set_option linter.unusedSimpArgs false
attribute [local go_sem] Oper.semAt_some

theorem own_grown {α : Type} {w w' : World} {B z g : Nat} {t : TypeId} {enc : α → List Value} {v : Value} {l : List α} (h : w.ownsRow B t z v l.length (l.flatMap enc)) (hg : w.grownBy w' (some g)) (hgB : g < B) : w'.ownsRow B t z v l.length (l.flatMap enc) := by
  refine ⟨h.1, ?_⟩
  rcases h.2 with q | ⟨b, cap, cur, hv, hb, hh, r⟩
  · exact .inl q
  · exact .inr ⟨b, cap, cur, hv, hb, (hg.block b (lt_of_some hh) (by simp; omega)).trans hh, r⟩
theorem deck_keep {W0 : World} {v : Value} {zs : List Int} {w w' : World} {g B : Nat} (h : Deck W0 v zs w g) (hb : Below B w w') (hg : g < B) (hB : W0.heap.size ≤ B) : Deck W0 v zs w' g := by
  obtain ⟨k, hk, hc⟩ := h.c1
  exact ⟨h.ints, h.bel.trans (hb.mono hB), h.ge, (hb.cell (p := ⟨g, 0, none⟩) hg).trans h.c0, ⟨k, hk, (hb.cell (p := ⟨g, 1, none⟩) hg).trans hc⟩, fun k => (hb.frozen (p := ⟨g, k, none⟩) hg).trans (h.fr k), Nat.lt_of_lt_of_le h.lt hb.size⟩
theorem info_change : (Try.prog.info? 24).map (fun i => (i.zero, i.size, i.bytes)) = some (some (.agg #[.int .i64 0, .int .i64 0, .int .i64 0, .int .i64 0]), 4, 32) := by kernel_rfl
theorem und_changes : Try.prog.underlying 27 = some (.slice 24) := by kernel_rfl
set_option maxRecDepth 100000 in
set_option maxHeartbeats 4000000 in
theorem law_foll (v : Value) (zs : List Int) (c : Ch) (w : World) (hI : Ints w .i64 v zs) :
    Calls Try.prog 3 #[v, chV c] w fun e w' => e = .returned (.bool true) ∧ Below w.heap.size w w' := by
  obtain ⟨i0, hi0, hz0, hz1, hz2⟩ := info_parts info_change
  have haw := awake_any
  obtain ⟨W1, hW1⟩ : ∃ W1, W1 = w.alloc (.cells #[.int .i64 c.s, .int .i64 c.t, .int .i64 c.r, .int .i64 c.v] 24) := ⟨_, rfl⟩
  have hb1 : Below w.heap.size w W1 := by rw [hW1]; exact (Below.refl w.heap.size w).alloc (Nat.le_refl _) _
  have hr1 : W1.heap[w.heap.size]? = some (.cells #[.int .i64 c.s, .int .i64 c.t, .int .i64 c.r, .int .i64 c.v] 24 (0, 0)) := by rw [hW1]; exact heap_alloc_new _ _
  have hnew := new_any w v zs W1 hI hb1
  unfold chV
  go_enter Try.func3, Try.ntmps3
  go_wp2_with fail
  rw [← hW1]
  clear hW1
  refine hnew.mono ?_
  rintro e W2 ⟨rfl, hb2, hD2⟩
  have hlt1 := lt_of_block hr1
  obtain ⟨g, hg⟩ : ∃ g, g = W1.heap.size := ⟨_, rfl⟩
  rw [← hg] at hD2 hb2 hlt1 ⊢
  have hr2 := (hb2.block w.heap.size hlt1).trans hr1
  have hbw2 := hb1.trans (hb2.mono (by omega))
  obtain ⟨p, hp⟩ : ∃ p, p = w.heap.size := ⟨_, rfl⟩
  have HP := Bx.mk hp
  rw [← hp] at hr2 hbw2 hlt1 ⊢
  clear hp hg hnew hb2 hr1 hb1
  have hgl := hD2.lt
  go_wp2_with fail
  go_loopw [6, 7] (fun hv i wr => ∃ (k : Nat) (out : List Ch), k ≤ 30 ∧ i = .int .i64 k ∧ out.length ≤ k ∧ wr.ownsRow W2.heap.size 24 4 hv out.length (out.flatMap encC) ∧ Deck w v zs wr g ∧ wr.heap[p]? = some (.cells #[.int .i64 c.s, .int .i64 c.t, .int .i64 c.r, .int .i64 c.v] 24 (0, 0)) ∧ Below p w wr ∧ W2.heap.size ≤ wr.heap.size) (fun _ i _ => 30 - (intOf i).toNat)
  case atStart => exact ⟨0, [], by omega, rfl, by simp, World.ownsRow_nil _ _ _ _, hD2, hr2, hbw2, Nat.le_refl _⟩
  case round =>
    obtain ⟨k, out, hk, rfl, hlen, hown, hD, hrow, hBw, hsz⟩ := hrel
    have hO : Go.Proofs.Ytpagoinnkknkfaa.Slc.Own wr W2.heap.size 24 4 encC _ out := hown
    obtain ⟨av, cv, rfl, -⟩ := hO.rd.form
    have HC := Bx.mk (rdC_cells hO.rd).2
    have HO := Bx.mk hO
    have HD := Bx.mk hD
    have HROW := Bx.mk hrow
    have HBW := Bx.mk hBw
    have HLEN := Bx.mk hlen
    clear hO hown hD hrow hBw hlen
    by_cases hlt : k < 30
    · go_upto_if 19 with fail
      go_cut [8] (fun s8 wc => ∃ t : Int, s8 = .int .i64 t ∧ wc = wr)
      case first =>
        rcases Nat.eq_zero_or_pos out.length with hz | hp
        · have tz : decide ((out.length : Int) > 0) = false := decide_eq_false (by omega)
          have tz2 : decide (0 < out.length) = false := decide_eq_false (by omega)
          have hnl : ¬ (0 < out.length) := by omega
          clear hz HC
          go_wp2_with fail
          go_meet
          exact ⟨0, rfl, rfl⟩
        · obtain ⟨b, o, rfl, hbl, c0, c1, c2, c3⟩ := HC.out _ (Below.refl _ _) (out.length - 1) (by omega)
          have tz : decide ((out.length : Int) > 0) = true := by simpa using hp
          have tz2 : decide (0 < out.length) = true := by simpa using hp
          have hol := HLEN.out
          obtain ⟨n1, hn1⟩ : ∃ n1, n1 = out.length - 1 := ⟨_, rfl⟩
          generalize (out[out.length - 1]'(by omega)).t = T1 at *
          rw [← hn1] at c1
          have hn1l : n1 < out.length := by omega
          have hn1i : (n1 : Int) < out.length := by omega
          have hsub : ((out.length : Int) - 1) = (n1 : Int) := by omega
          have hwr : IntKind.i64.wrap ((out.length : Int) - 1) = (n1 : Int) := by rw [hsub]; exact IntWalk.i64_in _ (by omega)
          have hnn : ((n1 : Int)).toNat = n1 := by omega
          have hw2 : IntKind.i64.wrap (n1 : Int) = (n1 : Int) := IntWalk.i64_in _ (by omega)
          clear hn1 HC c0 c2 c3 hbl hp hsub
          go_wp2_with fail
          clear hwr hw2 hnn
          go_meet
          exact ⟨T1, rfl, rfl⟩
      case rest =>
        obtain ⟨t, rfl, hwc⟩ := hcut
        subst hwc
        go_wp2_with fail
        refine (change_any w v zs wc g t HD.out).mono ?_
        rintro e w3 ⟨x, rfl, -, hD3, hg3⟩
        have hpw := lt_of_block HROW.out
        have hown3 := own_grown HO.out hg3 hgl
        have hrow3 := grown_row hg3 HROW.out (by omega)
        have hBw3 : Below p w w3 := HBW.out.grown hg3 (by omega) (fun k hk => by simp only [Option.some.injEq] at hk; omega)
        have hsz3 : W2.heap.size ≤ w3.heap.size := by have := hg3.size; omega
        obtain ⟨W4, hW4⟩ : ∃ W4, W4 = w3.alloc (.cells #[.int .i64 x.s, .int .i64 x.t, .int .i64 x.r, .int .i64 x.v] 24) := ⟨_, rfl⟩
        have hb34 : Below w3.heap.size w3 W4 := by rw [hW4]; exact (Below.refl _ _).alloc (Nat.le_refl _) _
        have hx4 : W4.heap[w3.heap.size]? = some (.cells #[.int .i64 x.s, .int .i64 x.t, .int .i64 x.r, .int .i64 x.v] 24 (0, 0)) := by rw [hW4]; exact heap_alloc_new _ _
        have hrd3 : Rd w3 encC (.slice av out.length cv) out := (show Go.Proofs.Ytpagoinnkknkfaa.Slc.Own w3 W2.heap.size 24 4 encC _ out from hown3).rd
        have hrd4 := hrd3.below hb34
        have hol := HLEN.out
        have hc1 := rfollow_any W4 _ out x hrd4 (by omega)
        have hc2 := fun W (hW : Below W4.heap.size W4 W) => pfollow_any W _ out x (hrd4.below hW) (by omega)
        generalize followR out x = F at *
        have HEN := Bx.mk (show encC x = [.int .i64 x.s, .int .i64 x.t, .int .i64 x.r, .int .i64 x.v] from rfl)
        unfold chV at hc1 hc2 ⊢
        generalize x.s = Sx at *
        generalize x.t = Tx at *
        generalize x.r = Rx at *
        generalize x.v = Vx at *
        clear HC HO HD HROW HBW hrd3 hrd4
        have HOW := Bx.mk hown3
        have HD := Bx.mk hD3
        have HROW := Bx.mk hrow3
        have HBW := Bx.mk hBw3
        clear hown3 hD3 hrow3 hBw3 hg3
        go_wp2_with fail
        rw [← hW4]
        clear hW4
        refine hc1.mono ?_
        rintro e w5 ⟨rfl, hb5⟩
        have hx5 := (hb5.block _ (lt_of_block hx4)).trans hx4
        have q0 := cell_of_row _ _ 0 _ _ _ hx5
        have q1 := cell_of_row _ _ 1 _ _ _ hx5
        have q2 := cell_of_row _ _ 2 _ _ _ hx5
        have q3 := cell_of_row _ _ 3 _ _ _ hx5
        simp only [List.getElem?_toArray, List.getElem?_cons_zero, List.getElem?_cons_succ] at q0 q1 q2 q3
        go_wp2_with fail
        refine (hc2 w5 hb5).mono ?_
        rintro e w6 ⟨rfl, hb6⟩
        clear q0 q1 q2 q3
        have hx6 := (hb6.block _ (lt_of_block hx5)).trans hx5
        have q0 := cell_of_row _ _ 0 _ _ _ hx6
        have q1 := cell_of_row _ _ 1 _ _ _ hx6
        have q2 := cell_of_row _ _ 2 _ _ _ hx6
        have q3 := cell_of_row _ _ 3 _ _ _ hx6
        simp only [List.getElem?_toArray, List.getElem?_cons_zero, List.getElem?_cons_succ] at q0 q1 q2 q3
        have hb36 : Below w3.heap.size w3 w6 := hb34.trans ((hb5.trans (hb6.mono hb5.size)).mono hb34.size)
        clear hb34 hb5 hb6 hx4 hx5 hx6 hc1 hc2
        have HOW6 := Bx.mk (show Go.Proofs.Ytpagoinnkknkfaa.Slc.Own w6 W2.heap.size 24 4 encC _ out from Go.Proofs.Ytpagoinnkknkfaa.Slc.Own.below (t := 24) HOW.out hb36)
        have HD6 := Bx.mk (HD.out.below hb36)
        have HROW6 := Bx.mk ((hb36.block p (lt_of_block HROW.out)).trans HROW.out)
        have HBW6 := Bx.mk (show Below p w w6 from HBW.out.trans (hb36.mono (by have := lt_of_block HROW.out; omega)))
        have hsz6 : W2.heap.size ≤ w6.heap.size := by have := hb36.size; omega
        by_cases hF : F = 0
        · subst hF
          have hb67 : Below w6.heap.size w6 (w6.alloc (.cells #[.int .i64 Sx, .int .i64 Tx, .int .i64 Rx, .int .i64 Vx] 24)) := (Below.refl _ _).alloc (Nat.le_refl _) _
          have HOW7 := Bx.mk (Go.Proofs.Ytpagoinnkknkfaa.Slc.Own.below (t := 24) HOW6.out hb67)
          have HD7 := Bx.mk (HD6.out.below hb67)
          have HROW7 := Bx.mk ((hb67.block p (lt_of_block HROW6.out)).trans HROW6.out)
          have HBW7 := Bx.mk (HBW6.out.trans (hb67.mono (by have := lt_of_block HROW6.out; omega)))
          have hsz7 : W2.heap.size ≤ (w6.alloc (.cells #[.int .i64 Sx, .int .i64 Tx, .int .i64 Rx, .int .i64 Vx] 24)).heap.size := by have := hb67.size; omega
          have hsrc : SrcV (w6.alloc (.cells #[.int .i64 Sx, .int .i64 Tx, .int .i64 Rx, .int .i64 Vx] 24)) 4 (.slice (some ⟨w6.heap.size, 0, none⟩) 1 1) 1 ([x].flatMap encC) := src_new encC_ok (by rw [heap_alloc_new, HEN.out])
          have hm1 : out.length + 1 ≤ maxLen := by have := HLEN.out; unfold maxLen; omega
          have hm2 : (out.length + 1) * 32 ≤ 140737488355328 := by have := HLEN.out; omega
          clear hb67 hb36
          go_wp2_with (refine wpList_append_any rfl _ _ _ rfl W2.heap.size 24 i0 _ 4 32 und_changes hi0 hz0 hz1 hz2 rfl (by decide) _ out.length (out.flatMap encC) rfl HOW7.out _ 1 ([x].flatMap encC) rfl hsrc hm1 hm2 hsz7 ?_)
          intro v9 w9 hapd
          have hbb : Below W2.heap.size (w6.alloc (.cells #[.int .i64 Sx, .int .i64 Tx, .int .i64 Rx, .int .i64 Vx] 24)) w9 := (Below.refl _ _).grown hapd.grown hsz7 (fun k hk => (HOW7.out.lt k hk).1)
          have HOW9 := Bx.mk (show w9.ownsRow W2.heap.size 24 4 v9 (out ++ [x]).length ((out ++ [x]).flatMap encC) by rw [List.length_append, List.flatMap_append]; exact hapd.own)
          have HD9 := Bx.mk (deck_keep HD7.out hbb hgl (by have := HP.out; omega))
          have HROW9 := Bx.mk ((hbb.block p (by omega)).trans HROW7.out)
          have HBW9 := Bx.mk (HBW7.out.trans (hbb.mono (by omega)))
          have hsz9 : W2.heap.size ≤ w9.heap.size := by have := hbb.size; omega
          clear hapd hsrc hbb hm1 hm2
          go_wp2
          go_roundw
          case rel => exact ⟨k + 1, out ++ [x], by omega, by go_num, by have := HLEN.out; simp; omega, HOW9.out, HD9.out, HROW9.out, HBW9.out, hsz9⟩
          case measure => simp [intOf]; omega
        · have tF : (F == 0) = false := by simpa using hF
          clear hF
          go_wp2
          go_roundw
          case rel => exact ⟨k + 1, out, by omega, by go_num, by have := HLEN.out; omega, HOW6.out, HD6.out, HROW6.out, HBW6.out, hsz6⟩
          case measure => simp [intOf]; omega
    · obtain rfl : k = 30 := by omega
      have hol := HLEN.out
      have hlt := lt_of_block HROW.out
      have hA1 := (show Go.Proofs.Ytpagoinnkknkfaa.Slc.Own wr W2.heap.size 24 4 encC _ out from HO.out).rd
      have HPF := Bx.mk (show ∀ e : Ext wr, Calls Try.prog 17 #[.slice av out.length cv, .agg #[.int .i64 c.s, .int .i64 c.t, .int .i64 c.r, .int .i64 c.v]] e.out fun x w' => x = .returned (.int .i64 (followR out c)) ∧ Below e.out.heap.size e.out w' from fun e => pfollow_any e.out _ out c (hA1.below e.bel) (by omega))
      have HRF := Bx.mk (show ∀ e : Ext wr, Calls Try.prog 16 #[.slice av out.length cv, .agg #[.int .i64 c.s, .int .i64 c.t, .int .i64 c.r, .int .i64 c.v]] e.out fun x w' => x = .returned (.int .i64 (followR out c)) ∧ Below e.out.heap.size e.out w' from fun e => rfollow_any e.out _ out c (hA1.below e.bel) (by omega))
      have HPN := Bx.mk (show ∀ e : Ext wr, Calls Try.prog 17 #[.slice none 0 0, .agg #[.int .i64 c.s, .int .i64 c.t, .int .i64 c.r, .int .i64 c.v]] e.out fun x w' => x = .returned (.int .i64 (followR [] c)) ∧ Below e.out.heap.size e.out w' from fun e => pfollow_any e.out _ [] c (Rd.nil _) (by simp))
      have HRN := Bx.mk (show ∀ e : Ext wr, Calls Try.prog 16 #[.slice none 0 0, .agg #[.int .i64 c.s, .int .i64 c.t, .int .i64 c.r, .int .i64 c.v]] e.out fun x w' => x = .returned (.int .i64 (followR [] c)) ∧ Below e.out.heap.size e.out w' from fun e => rfollow_any e.out _ [] c (Rd.nil _) (by simp))
      have q0 := cell_of_row _ _ 0 _ _ _ HROW.out
      have q1 := cell_of_row _ _ 1 _ _ _ HROW.out
      have q2 := cell_of_row _ _ 2 _ _ _ HROW.out
      have q3 := cell_of_row _ _ 3 _ _ _ HROW.out
      simp only [List.getElem?_toArray, List.getElem?_cons_zero, List.getElem?_cons_succ] at q0 q1 q2 q3
      have D0 : ∀ e : Ext wr, _ := fun e => (e.cell hlt).trans q0
      have D1 : ∀ e : Ext wr, _ := fun e => (e.cell hlt).trans q1
      have D2 : ∀ e : Ext wr, _ := fun e => (e.cell hlt).trans q2
      have D3 : ∀ e : Ext wr, _ := fun e => (e.cell hlt).trans q3
      generalize followR out c = F at *
      generalize followR [] c = F0 at *
      generalize c.s = S at *
      generalize c.t = T at *
      generalize c.r = R at *
      generalize c.v = V at *
      have hpw : p ≤ wr.heap.size := by omega
      clear hA1 hlt q0 q1 q2 q3 HC HO HD HROW
      go_wp2_with fail
      refine wp_region_self (by kernel_rfl) (by kernel_rfl) ?_
      repeat (go_big_quiet_step (fail))
      go_big_quiet_step ((go_at_call 17; exact ext_of (HPF.out _)))
      repeat (go_big_quiet_step (fail))
      go_big_quiet_step ((go_at_call 16; exact ext_of (HRF.out _)))
      repeat (go_big_quiet_step (fail))
      go_big_quiet_step ((go_at_call 17; exact ext_of (HPN.out _)))
      repeat (go_big_quiet_step (fail))
      go_big_quiet_step ((go_at_call 16; exact ext_of (HRN.out _)))
      repeat (go_big_quiet_step (fail))
      go_big_quiet_step ((go_at_call 18; exact ext_of (haw _)))
      repeat (go_big_quiet_step (fail))
      refine wpQuiet_nil ?_
      rintro _ ⟨e1, rfl⟩
      have HB1 := Bx.mk (show Below p w e1.out from HBW.out.trans (e1.bel.mono hpw))
      clear D0 D1 D2 D3 HPF HRF HPN HRN
      generalize e1.out = w9 at *
      go_wp2
      go_ret
      exact ⟨rfl, HP.out ▸ HB1.out⟩
end Go.Proofs.Ytpagoinnkknkfaa.Pb
