/-
  made.Left and made2.History.
-/
import Derived.Test.YtpagoinnkknkfaaLawFollWalk
namespace Go.Proofs.Ytpagoinnkknkfaa.Pb
open Go Go.RowKit Go.Shelf Go.Proofs.Ytpagoinnkknkfaa.Slc
set_option linter.unusedVariables false
set_option linter.unusedSimpArgs false
attribute [local go_sem] Oper.semAt_some

theorem left_any (W0 : World) (v : Value) (zs : List Int) (w : World) (g : Nat) (h : Deck W0 v zs w g) :
    Calls Try.prog 38 #[.pointer (some ⟨g, 0, none⟩)] w fun e w' => ∃ b : Bool, e = .returned (.bool b) ∧ Deck W0 v zs w' g ∧ w.grownBy w' (some g) := by
  have c0 := h.c0
  obtain ⟨k, hk, c1⟩ := h.c1
  obtain ⟨ad, cap, m, rfl, hm⟩ : ∃ ad cap m, v = .slice ad m cap ∧ zs.length = m := by cases h.ints <;> exact ⟨_, _, _, rfl, by simp⟩
  clear hm
  go_enter Try.func38, Try.ntmps38
  go_wp2
  go_quiet (fail)
  go_wp2
  go_ret
  exact ⟨_, rfl, h.drewN _, grown_drewN (grown_refl _ _) _⟩
set_option maxRecDepth 100000 in
set_option maxHeartbeats 4000000 in
theorem hist_any (W0 : World) (v : Value) (zs : List Int) (w : World) (g n : Nat) (h : Deck W0 v zs w g) (hn : n ≤ 1000) :
    Calls Try.prog 20 #[.pointer (some ⟨g, 0, none⟩), .int .i64 n] w fun e w' => ∃ (rv : Value) (out : List Ch), e = .returned rv ∧ w'.ownsRow w.heap.size 24 4 rv out.length (out.flatMap encC) ∧ out.length ≤ n ∧ (∀ c ∈ out, I5 c.s) ∧ Deck W0 v zs w' g ∧ w.grownBy w' (some g) := by
  obtain ⟨i0, hi0, hz0, hz1, hz2⟩ := info_parts info_change
  have hgl := h.lt
  have hw0 := h.bel.size
  go_enter Try.func20, Try.ntmps20
  go_wp2_with fail
  go_loopw [5, 6] (fun hv i wr => ∃ (k : Nat) (out : List Ch), k ≤ n ∧ i = .int .i64 k ∧ out.length ≤ k ∧ wr.ownsRow w.heap.size 24 4 hv out.length (out.flatMap encC) ∧ Deck W0 v zs wr g ∧ w.grownBy wr (some g) ∧ Bx (∀ c ∈ out, I5 c.s)) (fun _ i _ => n - (intOf i).toNat)
  case atStart => exact ⟨0, [], by omega, rfl, by simp, World.ownsRow_nil _ _ _ _, h, grown_refl _ _, ⟨fun c hc => by cases hc⟩⟩
  case round =>
    obtain ⟨k, out, hk, rfl, hlen, hown, hD, hG, hI⟩ := hrel
    have hO : Go.Proofs.Ytpagoinnkknkfaa.Slc.Own wr w.heap.size 24 4 encC _ out := hown
    obtain ⟨av, cv, rfl, -⟩ := hO.rd.form
    by_cases hlt : k < n
    · have tk : decide (k < n) = true := decide_eq_true hlt
      have HO := Bx.mk hO
      have HG := Bx.mk hG
      clear hO hown hG
      go_wp2_with fail
      refine (left_any W0 v zs wr g hD).mono ?_
      rintro e w1 ⟨bb, rfl, hD1, hg1⟩
      have HO1 := Bx.mk (show Go.Proofs.Ytpagoinnkknkfaa.Slc.Own w1 w.heap.size 24 4 encC (.slice av out.length cv) out from own_grown HO.out hg1 hgl)
      have HG1 := Bx.mk (HG.out.trans hg1)
      have HD1 := Bx.mk hD1
      have HLEN := Bx.mk hlen
      clear hD hD1 hg1 HO HG hlen
      cases bb with
      | false =>
        go_wp2_with fail
        go_ret
        exact ⟨_, out, rfl, HO1.out, by have := HLEN.out; omega, hI.out, HD1.out, HG1.out⟩
      | true =>
        have HC := Bx.mk (rdC_cells HO1.out.rd).2
        go_upto_if 20 with fail
        go_cut [7] (fun s8 wc => ∃ t : Int, s8 = .int .i64 t ∧ wc = w1)
        case first =>
          rcases Nat.eq_zero_or_pos out.length with hz | hp
          · have tz : decide ((out.length : Int) > 0) = false := decide_eq_false (by omega)
            have tz2 : decide (0 < out.length) = false := decide_eq_false (by omega)
            have hnl : ¬ (0 < out.length) := by omega
            clear hz HC
            go_wp2_with fail
            go_meet
            exact ⟨0, rfl, rfl⟩
          · obtain ⟨b, o, rfl, hbl, c0, c1, c2, c3⟩ := HC.out _ (Below.refl _ _) (out.length - 1) (by omega)
            have tz : decide ((out.length : Int) > 0) = true := by simpa using hp
            have tz2 : decide (0 < out.length) = true := by simpa using hp
            have hol := HLEN.out
            obtain ⟨n1, hn1⟩ : ∃ n1, n1 = out.length - 1 := ⟨_, rfl⟩
            generalize (out[out.length - 1]'(by omega)).t = T1 at *
            rw [← hn1] at c1
            have hn1l : n1 < out.length := by omega
            have hn1i : (n1 : Int) < out.length := by omega
            have hsub : ((out.length : Int) - 1) = (n1 : Int) := by omega
            have hwr : IntKind.i64.wrap ((out.length : Int) - 1) = (n1 : Int) := by rw [hsub]; exact IntWalk.i64_in _ (by omega)
            have hnn : ((n1 : Int)).toNat = n1 := by omega
            have hw2 : IntKind.i64.wrap (n1 : Int) = (n1 : Int) := IntWalk.i64_in _ (by omega)
            clear hn1 HC c0 c2 c3 hbl hp hsub
            go_wp2_with fail
            clear hwr hw2 hnn
            go_meet
            exact ⟨T1, rfl, rfl⟩
        case rest =>
          obtain ⟨t, rfl, hwc⟩ := hcut
          subst hwc
          go_wp2_with fail
          refine (change_any W0 v zs wc g t HD1.out).mono ?_
          rintro e w3 ⟨x, rfl, hxs, hD3, hg3⟩
          have hsz3 : w.heap.size ≤ w3.heap.size := (HG1.out.trans hg3).size
          obtain ⟨W4, hW4⟩ : ∃ W4, W4 = w3.alloc (.cells #[.int .i64 x.s, .int .i64 x.t, .int .i64 x.r, .int .i64 x.v] 24) := ⟨_, rfl⟩
          have hb34 : Below w3.heap.size w3 W4 := by rw [hW4]; exact (Below.refl _ _).alloc (Nat.le_refl _) _
          have hx4 : W4.heap[w3.heap.size]? = some (.cells #[.int .i64 x.s, .int .i64 x.t, .int .i64 x.r, .int .i64 x.v] 24 (0, 0)) := by rw [hW4]; exact heap_alloc_new _ _
          have HO3 := Bx.mk (show Go.Proofs.Ytpagoinnkknkfaa.Slc.Own w3 w.heap.size 24 4 encC (.slice av out.length cv) out from own_grown HO1.out hg3 hgl)
          have hol := HLEN.out
          have hc1 := rfollow_any W4 _ out x (HO3.out.rd.below hb34) (by omega)
          have HD3 := Bx.mk hD3
          have HG3 := Bx.mk (HG1.out.trans hg3)
          have HX := Bx.mk (show ∀ c ∈ out ++ [x], I5 c.s from fun c hc => (List.mem_append.1 hc).elim (hI.out c) (fun e => by rw [List.mem_singleton] at e; subst e; exact hxs))
          have HEN := Bx.mk (show encC x = [.int .i64 x.s, .int .i64 x.t, .int .i64 x.r, .int .i64 x.v] from rfl)
          generalize followR out x = F at *
          unfold chV at hc1 ⊢
          generalize x.s = Sx at *
          generalize x.t = Tx at *
          generalize x.r = Rx at *
          generalize x.v = Vx at *
          clear HC HD1 HG1 HO1 hD3 hg3 hxs
          go_wp2_with fail
          rw [← hW4]
          clear hW4
          refine hc1.mono ?_
          rintro e w6 ⟨rfl, hb5⟩
          have hx6 := (hb5.block _ (lt_of_block hx4)).trans hx4
          have q0 := cell_of_row _ _ 0 _ _ _ hx6
          have q1 := cell_of_row _ _ 1 _ _ _ hx6
          have q2 := cell_of_row _ _ 2 _ _ _ hx6
          have q3 := cell_of_row _ _ 3 _ _ _ hx6
          simp only [List.getElem?_toArray, List.getElem?_cons_zero, List.getElem?_cons_succ] at q0 q1 q2 q3
          have hb36 : Below w3.heap.size w3 w6 := hb34.trans (hb5.mono hb34.size)
          have HO6 := Bx.mk (show Go.Proofs.Ytpagoinnkknkfaa.Slc.Own w6 w.heap.size 24 4 encC _ out from Go.Proofs.Ytpagoinnkknkfaa.Slc.Own.below (t := 24) HO3.out hb36)
          have HD6 := Bx.mk (HD3.out.below hb36)
          have HG6 := Bx.mk (show w.grownBy w6 (some g) from HG3.out.trans ⟨hb36.os, hb36.tape, hb36.output, hb36.size, fun k hk _ => hb36.block k hk⟩)
          clear hb34 hb5 hx4 hx6 hc1 hb36
          by_cases hF : F = 0
          · subst hF
            have hb67 : Below w6.heap.size w6 (w6.alloc (.cells #[.int .i64 Sx, .int .i64 Tx, .int .i64 Rx, .int .i64 Vx] 24)) := (Below.refl _ _).alloc (Nat.le_refl _) _
            have HO7 := Bx.mk (Go.Proofs.Ytpagoinnkknkfaa.Slc.Own.below (t := 24) HO6.out hb67)
            have HD7 := Bx.mk (HD6.out.below hb67)
            have HG7 := Bx.mk (grown_alloc HG6.out (.cells #[.int .i64 Sx, .int .i64 Tx, .int .i64 Rx, .int .i64 Vx] 24))
            have hsz7 : w.heap.size ≤ (w6.alloc (.cells #[.int .i64 Sx, .int .i64 Tx, .int .i64 Rx, .int .i64 Vx] 24)).heap.size := HG7.out.size
            have hsrc : SrcV (w6.alloc (.cells #[.int .i64 Sx, .int .i64 Tx, .int .i64 Rx, .int .i64 Vx] 24)) 4 (.slice (some ⟨w6.heap.size, 0, none⟩) 1 1) 1 ([x].flatMap encC) := src_new encC_ok (by rw [heap_alloc_new, HEN.out])
            have hm1 : out.length + 1 ≤ maxLen := by have := HLEN.out; unfold maxLen; omega
            have hm2 : (out.length + 1) * 32 ≤ 140737488355328 := by have := HLEN.out; omega
            clear hb67
            go_wp2_with (refine wpList_append_any rfl _ _ _ rfl w.heap.size 24 i0 _ 4 32 und_changes hi0 hz0 hz1 hz2 rfl (by decide) _ out.length (out.flatMap encC) rfl HO7.out _ 1 ([x].flatMap encC) rfl hsrc hm1 hm2 hsz7 ?_)
            intro v9 w9 hapd
            have hbb : Below w.heap.size (w6.alloc (.cells #[.int .i64 Sx, .int .i64 Tx, .int .i64 Rx, .int .i64 Vx] 24)) w9 := (Below.refl _ _).grown hapd.grown hsz7 (fun k hk => (HO7.out.lt k hk).1)
            have HO9 := Bx.mk (show w9.ownsRow w.heap.size 24 4 v9 (out ++ [x]).length ((out ++ [x]).flatMap encC) by rw [List.length_append, List.flatMap_append]; exact hapd.own)
            have HD9 := Bx.mk (deck_keep HD7.out hbb hgl hw0)
            have HG9 := Bx.mk (show w.grownBy w9 (some g) from ⟨hbb.os.trans HG7.out.os, hbb.tape.trans HG7.out.tape, hbb.output.trans HG7.out.output, Nat.le_trans HG7.out.size hbb.size, fun k hk hne => (hbb.block k hk).trans (HG7.out.block k hk hne)⟩)
            clear hapd hsrc hbb hm1 hm2
            go_wp2
            go_roundw
            case rel => exact ⟨k + 1, out ++ [x], by omega, by go_num, by have := HLEN.out; simp; omega, HO9.out, HD9.out, HG9.out, ⟨HX.out⟩⟩
            case measure => simp [intOf]; omega
          · have tF : (F == 0) = false := by simpa using hF
            clear hF
            go_wp2
            go_roundw
            case rel => exact ⟨k + 1, out, by omega, by go_num, by have := HLEN.out; omega, HO6.out, HD6.out, HG6.out, hI⟩
            case measure => simp [intOf]; omega
    · have tk : decide (k < n) = false := decide_eq_false hlt
      have HE := Bx.mk (show wr.ownsRow w.heap.size 24 4 (.slice av out.length cv) out.length (out.flatMap encC) ∧ out.length ≤ n ∧ (∀ c ∈ out, I5 c.s) ∧ Deck W0 v zs wr g ∧ w.grownBy wr (some g) from ⟨hO, by omega, hI.out, hD, hG⟩)
      clear hO hown hG hI hD
      go_wp2_with fail
      go_ret
      exact ⟨_, out, rfl, HE.out⟩
end Go.Proofs.Ytpagoinnkknkfaa.Pb
