/-
  The reference's SameEntries.
-/
import Derived.Test.YtpagoinnkknkfaaPbEnt
namespace Go.Proofs.Ytpagoinnkknkfaa.Pb
open Go Go.RowKit Go.Proofs.Ytpagoinnkknkfaa.Slc
set_option linter.unusedVariables false
set_option linter.unusedSimpArgs false
attribute [local go_sem] Oper.semAt_some

def same1 (x y : En) : Bool := about x y && (x.t == y.t) && (x.r == y.r) && (x.v == y.v)
def sameB : List En → List En → Bool
  | [], [] => true
  | x :: l, y :: m => same1 x y && sameB l m
  | _, _ => false
theorem sameB_refl : ∀ l : List En, sameB l l = true
  | [] => rfl
  | x :: l => by rw [sameB, sameB_refl l, same1, about_refl]; simp
theorem sameB_len : ∀ {l m : List En}, l.length ≠ m.length → sameB l m = false
  | [], [], h => absurd rfl h
  | [], _ :: _, _ => rfl
  | _ :: _, [], _ => rfl
  | x :: l, y :: m, h => by rw [sameB, sameB_len (by simpa using h), Bool.and_false]
set_option maxRecDepth 20000 in
set_option maxHeartbeats 4000000 in
theorem rsameE_any (w : World) (va vb : Value) (a b : List Et) (ha : EL w va a) (hb : EL w vb b) (hn : a.length ≤ 1000000) (hm : b.length ≤ 1000000) :
    Calls Try.prog 21 #[va, vb] w fun e w' => e = .returned (.bool (sameB (ens a) (ens b))) ∧ Below w.heap.size w w' := by
  obtain ⟨R, hR⟩ : ∃ R, R = sameB (ens a) (ens b) := ⟨_, rfl⟩
  rw [← hR]
  have HR := Bx.mk hR
  obtain ⟨aa, ac, rfl, -⟩ := ha.rd.form
  obtain ⟨ba, bc, rfl, -⟩ := hb.rd.form
  have HA := Bx.mk ha
  have HB := Bx.mk hb
  have HCA := Bx.mk ha.cells.2
  have HCB := Bx.mk hb.cells.2
  obtain ⟨n, hnn⟩ : ∃ n, n = a.length := ⟨_, rfl⟩
  obtain ⟨m, hmm⟩ : ∃ m, m = b.length := ⟨_, rfl⟩
  rw [← hnn] at hn
  rw [← hmm] at hm
  rw [← hnn, ← hmm]
  have HN := Bx.mk hnn
  have HM := Bx.mk hmm
  clear ha hb hR hnn hmm
  by_cases hnm : n = m
  · subst hnm
    have tn : ((n : Int) != (n : Int)) = false := by simp
    go_enter Try.func21, Try.ntmps21
    go_wp2_with fail
    go_loopw [5] (fun i wr => ∃ k : Nat, k ≤ n ∧ i = .int .i64 k ∧ Bx (R = sameB (ens (a.drop k)) (ens (b.drop k))) ∧ Below w.heap.size w wr) (fun i _ => n - (intOf i).toNat)
    case atStart => exact ⟨0, by omega, rfl, ⟨by rw [HR.out, List.drop_zero, List.drop_zero]⟩, Below.refl _ _⟩
    case round =>
      obtain ⟨k, hk, rfl, hfd, hbel⟩ := hrel
      have HBW := Bx.mk hbel
      by_cases hlt : k < n
      · have hka : k < a.length := by have := HN.out; omega
        have hkb : k < b.length := by have := HM.out; omega
        obtain ⟨a1, a2, rfl, hal, -⟩ := HCA.out wr hbel k hka
        obtain ⟨b1, b2, rfl, hbl, -⟩ := HCB.out wr hbel k hkb
        obtain ⟨z, hz⟩ : ∃ z, z = a[k] := ⟨_, rfl⟩
        obtain ⟨y, hy⟩ : ∃ y, y = b[k] := ⟨_, rfl⟩
        have HST := Bx.mk (show R = (same1 z.e y.e && sameB (ens (a.drop (k + 1))) (ens (b.drop (k + 1)))) by
          rw [hfd.out, List.drop_eq_getElem_cons hka, List.drop_eq_getElem_cons hkb, hz, hy]; rfl)
        have hcz : ∀ e : Ext wr, e.out.cell? ⟨a1, a2 + k * 5, none⟩ = some (.int .i64 z.e.s) ∧ e.out.cell? ⟨a1, a2 + k * 5 + 1, none⟩ = some (.int .i64 z.e.t) ∧ e.out.cell? ⟨a1, a2 + k * 5 + 2, none⟩ = some (.int .i64 z.e.r) ∧ e.out.cell? ⟨a1, a2 + k * 5 + 3, none⟩ = some (.int .i64 z.e.v) ∧ e.out.cell? ⟨a1, a2 + k * 5 + 4, none⟩ = some z.u.val := fun e => by
          obtain ⟨q1, q2, q3, -, c0, c1, c2, c3, c4⟩ := HCA.out e.out (HBW.out.trans (e.bel.mono HBW.out.size)) k hka
          simp only [Option.some.injEq, Addr.mk.injEq, and_true] at q3
          rw [q3.1, q3.2, hz]
          exact ⟨c0, c1, c2, c3, c4⟩
        have hcy : ∀ e : Ext wr, e.out.cell? ⟨b1, b2 + k * 5, none⟩ = some (.int .i64 y.e.s) ∧ e.out.cell? ⟨b1, b2 + k * 5 + 1, none⟩ = some (.int .i64 y.e.t) ∧ e.out.cell? ⟨b1, b2 + k * 5 + 2, none⟩ = some (.int .i64 y.e.r) ∧ e.out.cell? ⟨b1, b2 + k * 5 + 3, none⟩ = some (.int .i64 y.e.v) ∧ e.out.cell? ⟨b1, b2 + k * 5 + 4, none⟩ = some y.u.val := fun e => by
          obtain ⟨q1, q2, q3, -, c0, c1, c2, c3, c4⟩ := HCB.out e.out (HBW.out.trans (e.bel.mono HBW.out.size)) k hkb
          simp only [Option.some.injEq, Addr.mk.injEq, and_true] at q3
          rw [q3.1, q3.2, hy]
          exact ⟨c0, c1, c2, c3, c4⟩
        have hcall : ∀ e : Ext wr, Calls Try.prog 39 #[entV z, entV y] e.out fun r w' => r = .returned (.bool (about z.e y.e)) ∧ Below e.out.heap.size e.out w' := fun e =>
          rabout_any e.out z y (((HA.out.at_ z (by rw [hz]; exact List.getElem_mem hka)).below HBW.out).below e.bel) (((HB.out.at_ y (by rw [hy]; exact List.getElem_mem hkb)).below HBW.out).below e.bel)
        unfold entV at hcall
        unfold same1 at HST
        have hZU : ∃ a n c, z.u.val = .slice a n c := ⟨_, _, _, rfl⟩
        have hYU : ∃ a n c, y.u.val = .slice a n c := ⟨_, _, _, rfl⟩
        generalize z.u.val = ZU at *
        generalize y.u.val = YU at *
        obtain ⟨za, zn, zc, rfl⟩ := hZU
        obtain ⟨ya, yn, yc, rfl⟩ := hYU
        generalize about z.e y.e = Q at *
        generalize z.e.s = S1 at *
        generalize y.e.s = S2 at *
        generalize z.e.t = T1 at *
        generalize y.e.t = T2 at *
        generalize z.e.r = R1 at *
        generalize y.e.r = R2 at *
        generalize z.e.v = V1 at *
        generalize y.e.v = V2 at *
        have x0 := fun e => (hcz e).1
        have x1 := fun e => (hcz e).2.1
        have x2 := fun e => (hcz e).2.2.1
        have x3 := fun e => (hcz e).2.2.2.1
        have x4 := fun e => (hcz e).2.2.2.2
        have y0 := fun e => (hcy e).1
        have y1 := fun e => (hcy e).2.1
        have y2 := fun e => (hcy e).2.2.1
        have y3 := fun e => (hcy e).2.2.2.1
        have y4 := fun e => (hcy e).2.2.2.2
        clear hz hy hcz hcy hfd hbel hal hbl hka hkb
        have cQ : Q = false ∨ (Q = true ∧ T1 ≠ T2) ∨ (Q = true ∧ T1 = T2 ∧ R1 ≠ R2) ∨ (Q = true ∧ T1 = T2 ∧ R1 = R2 ∧ V1 ≠ V2) ∨ (Q = true ∧ T1 = T2 ∧ R1 = R2 ∧ V1 = V2) := by
          cases Q <;> by_cases h1 : T1 = T2 <;> by_cases h2 : R1 = R2 <;> by_cases h3 : V1 = V2 <;> simp [h1, h2, h3]
        rcases cQ with rfl | ⟨rfl, h1⟩ | ⟨rfl, rfl, h1⟩ | ⟨rfl, rfl, rfl, h1⟩ | ⟨rfl, rfl, rfl, rfl⟩
        · have HF := Bx.mk (show R = false by rw [HST.out]; simp)
          clear HST
          go_wp2_with fail
          refine wp_region_self (by kernel_rfl) (by kernel_rfl) ?_
          repeat (go_big_quiet_step (fail))
          go_big_quiet_step ((go_at_call 39; exact ext_of (hcall _)))
          repeat (go_big_quiet_step (fail))
          refine wpQuiet_nil ?_
          rintro _ ⟨e1, rfl⟩
          have HBE := Bx.mk (HBW.out.trans (e1.bel.mono HBW.out.size))
          clear x0 x1 x2 x3 x4 y0 y1 y2 y3 y4 hcall
          go_wp2
          go_ret
          exact ⟨by rw [show R = _ from HF.out]; rfl, HBE.out⟩
        · have HF := Bx.mk (show R = false by rw [HST.out]; simp [h1])
          have tt0 : (T1 != T2) = true := by simpa using h1
          clear h1
          clear HST
          go_wp2_with fail
          refine wp_region_self (by kernel_rfl) (by kernel_rfl) ?_
          repeat (go_big_quiet_step (fail))
          go_big_quiet_step ((go_at_call 39; exact ext_of (hcall _)))
          repeat (go_big_quiet_step (fail))
          refine wpQuiet_nil ?_
          rintro _ ⟨e1, rfl⟩
          have HBE := Bx.mk (HBW.out.trans (e1.bel.mono HBW.out.size))
          clear x0 x1 x2 x3 x4 y0 y1 y2 y3 y4 hcall
          go_wp2
          go_ret
          exact ⟨by rw [show R = _ from HF.out]; rfl, HBE.out⟩
        · have HF := Bx.mk (show R = false by rw [HST.out]; simp [h1])
          have tt0 : (T1 != T1) = false := by simp
          have tt1 : (R1 != R2) = true := by simpa using h1
          clear h1
          clear HST
          go_wp2_with fail
          refine wp_region_self (by kernel_rfl) (by kernel_rfl) ?_
          repeat (go_big_quiet_step (fail))
          go_big_quiet_step ((go_at_call 39; exact ext_of (hcall _)))
          repeat (go_big_quiet_step (fail))
          refine wpQuiet_nil ?_
          rintro _ ⟨e1, rfl⟩
          have HBE := Bx.mk (HBW.out.trans (e1.bel.mono HBW.out.size))
          clear x0 x1 x2 x3 x4 y0 y1 y2 y3 y4 hcall
          go_wp2
          go_ret
          exact ⟨by rw [show R = _ from HF.out]; rfl, HBE.out⟩
        · have HF := Bx.mk (show R = false by rw [HST.out]; simp [h1])
          have tt0 : (T1 != T1) = false := by simp
          have tt1 : (R1 != R1) = false := by simp
          have tt2 : (V1 != V2) = true := by simpa using h1
          clear h1
          clear HST
          go_wp2_with fail
          refine wp_region_self (by kernel_rfl) (by kernel_rfl) ?_
          repeat (go_big_quiet_step (fail))
          go_big_quiet_step ((go_at_call 39; exact ext_of (hcall _)))
          repeat (go_big_quiet_step (fail))
          refine wpQuiet_nil ?_
          rintro _ ⟨e1, rfl⟩
          have HBE := Bx.mk (HBW.out.trans (e1.bel.mono HBW.out.size))
          clear x0 x1 x2 x3 x4 y0 y1 y2 y3 y4 hcall
          go_wp2
          go_ret
          exact ⟨by rw [show R = _ from HF.out]; rfl, HBE.out⟩
        · have HF := Bx.mk (show R = sameB (ens (a.drop (k + 1))) (ens (b.drop (k + 1))) by rw [HST.out]; simp)
          have tt0 : (T1 != T1) = false := by simp
          have tt1 : (R1 != R1) = false := by simp
          have tt2 : (V1 != V1) = false := by simp
          clear HST
          go_wp2_with fail
          refine wp_region_self (by kernel_rfl) (by kernel_rfl) ?_
          repeat (go_big_quiet_step (fail))
          go_big_quiet_step ((go_at_call 39; exact ext_of (hcall _)))
          repeat (go_big_quiet_step (fail))
          refine wpQuiet_nil ?_
          rintro _ ⟨e1, rfl⟩
          have HBE := Bx.mk (HBW.out.trans (e1.bel.mono HBW.out.size))
          clear x0 x1 x2 x3 x4 y0 y1 y2 y3 y4 hcall
          go_wp2
          go_roundw
          case rel => exact ⟨k + 1, by omega, by go_num, HF, HBE.out⟩
          case measure => simp [intOf]; omega
      · obtain rfl : k = n := by omega
        have HF := Bx.mk (show R = true by rw [hfd.out, HN.out, List.drop_length, ← HN.out, HM.out, List.drop_length]; rfl)
        clear hfd hbel
        go_wp2
        go_ret
        exact ⟨by rw [show R = _ from HF.out]; rfl, HBW.out⟩
  · have tn : ((n : Int) != (m : Int)) = true := by simp; omega
    have HF := Bx.mk (show R = false by rw [HR.out]; refine sameB_len ?_; rw [ens, ens, List.length_map, List.length_map, ← HN.out, ← HM.out]; exact hnm)
    go_enter Try.func21, Try.ntmps21
    go_wp2_with fail
    go_ret
    exact ⟨by rw [show R = _ from HF.out]; rfl, Below.refl _ _⟩
end Go.Proofs.Ytpagoinnkknkfaa.Pb
