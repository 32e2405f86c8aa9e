/-
  Entries about the same certificate; find, of both texts. (Written by wip/gen/gen_pbe.py.)
-/
import Derived.Test.YtpagoinnkknkfaaPbMatch
namespace Go.Proofs.Ytpagoinnkknkfaa.Pb
open Go Go.RowKit Go.Proofs.Ytpagoinnkknkfaa.Slc
set_option linter.unusedVariables false
set_option linter.unusedSimpArgs false

theorem about_eq (a b : En) : about a b = (decide (a.s = b.s) && nmatch a.iss b.iss) := by
  unfold about keyE nmatch; rw [Bool.eq_iff_iff]; simp
def encBox (x : Et) : Obj := .cells #[.int .i64 x.e.s, .int .i64 x.e.t, .int .i64 x.e.r, .int .i64 x.e.v, x.u.val] 44
theorem encBox_eq (x : Et) : encBox x = .cells (encE x).toArray 44 := rfl

set_option maxRecDepth 10000 in
set_option maxHeartbeats 1000000 in
theorem psameE_any (w : World) (x y : Et) (hx : EtAt w x) (hy : EtAt w y) :
    Calls Try.prog 61 #[entV x, entV y] w fun e w' => e = .returned (.bool (about x.e y.e)) ∧ Below w.heap.size w w' := by
  have hab := about_eq x.e y.e
  have HBW := Bx.mk (show Below w.heap.size w ((w.alloc (encBox x)).alloc (encBox y)) from ((Below.refl _ _).alloc (Nat.le_refl _) _).alloc (by simp) _)
  have hc := pmatch_any ((w.alloc (encBox x)).alloc (encBox y)) x.u.val y.u.val x.e.iss y.e.iss (hx.1.below HBW.out) (hy.1.below HBW.out) hx.2 hy.2
  unfold encBox at hc HBW
  unfold entV
  clear hx hy
  generalize x.u.val = U1 at *
  generalize y.u.val = U2 at *
  generalize x.e.s = S1 at *
  generalize y.e.s = S2 at *
  generalize x.e.t = T1 at *
  generalize y.e.t = T2 at *
  generalize x.e.r = R1 at *
  generalize y.e.r = R2 at *
  generalize x.e.v = V1 at *
  generalize y.e.v = V2 at *
  generalize about x.e y.e = Q at *
  by_cases h : S1 = S2
  · rw [decide_eq_true h, Bool.true_and] at hab
    rw [← hab] at hc
    have t0 : (S1 == S2) = true := by simpa using h
    clear hab h
    go_enter Try.func61, Try.ntmps61
    go_wp2_with (go_at_call 71; refine hc.mono ?_; rintro e w2 ⟨rfl, hb2⟩)
    have HFIN := Bx.mk (HBW.out.trans (hb2.mono HBW.out.size))
    clear hb2
    go_wp2
    go_ret
    exact ⟨rfl, HFIN.out⟩
  · rw [decide_eq_false h, Bool.false_and] at hab
    have t0 : (S1 == S2) = false := by simpa using h
    have HAB := Bx.mk hab
    clear hab h hc
    go_enter Try.func61, Try.ntmps61
    go_wp2
    go_ret
    exact ⟨by rw [HAB.out]; rfl, HBW.out⟩

set_option maxRecDepth 10000 in
set_option maxHeartbeats 1000000 in
theorem rabout_any (w : World) (x y : Et) (hx : EtAt w x) (hy : EtAt w y) :
    Calls Try.prog 39 #[entV x, entV y] w fun e w' => e = .returned (.bool (about x.e y.e)) ∧ Below w.heap.size w w' := by
  have hab := about_eq x.e y.e
  have HBW := Bx.mk (show Below w.heap.size w ((w.alloc (encBox x)).alloc (encBox y)) from ((Below.refl _ _).alloc (Nat.le_refl _) _).alloc (by simp) _)
  have hc := rmatch_any ((w.alloc (encBox x)).alloc (encBox y)) x.u.val y.u.val x.e.iss y.e.iss (hx.1.below HBW.out) (hy.1.below HBW.out) hx.2 hy.2
  unfold encBox at hc HBW
  unfold entV
  clear hx hy
  generalize x.u.val = U1 at *
  generalize y.u.val = U2 at *
  generalize x.e.s = S1 at *
  generalize y.e.s = S2 at *
  generalize x.e.t = T1 at *
  generalize y.e.t = T2 at *
  generalize x.e.r = R1 at *
  generalize y.e.r = R2 at *
  generalize x.e.v = V1 at *
  generalize y.e.v = V2 at *
  generalize about x.e y.e = Q at *
  by_cases h : S1 = S2
  · rw [decide_eq_true h, Bool.true_and] at hab
    rw [← hab] at hc
    have t0 : (S1 == S2) = true := by simpa using h
    clear hab h
    go_enter Try.func39, Try.ntmps39
    go_wp2_with (go_at_call 54; refine hc.mono ?_; rintro e w2 ⟨rfl, hb2⟩)
    have HFIN := Bx.mk (HBW.out.trans (hb2.mono HBW.out.size))
    clear hb2
    go_wp2
    go_ret
    exact ⟨rfl, HFIN.out⟩
  · rw [decide_eq_false h, Bool.false_and] at hab
    have t0 : (S1 == S2) = false := by simpa using h
    have HAB := Bx.mk hab
    clear hab h hc
    go_enter Try.func39, Try.ntmps39
    go_wp2
    go_ret
    exact ⟨by rw [HAB.out]; rfl, HBW.out⟩

/-- what find hands back -/
def optV (o : Option Et) : Value := match o with
  | some x => .tuple #[entV x, .bool true]
  | none => .tuple #[.agg #[.int .i64 0, .int .i64 0, .int .i64 0, .int .i64 0, .slice none 0 0], .bool false]
set_option maxRecDepth 10000 in
set_option maxHeartbeats 2000000 in
theorem pfind_any (w : World) (v : Value) (l : List Et) (y : Et) (hl : EL w v l) (hy : EtAt w y) (hn : l.length ≤ 1000000) :
    Calls Try.prog 49 #[v, entV y] w fun e w' => e = .returned (optV (findT l y.e)) ∧ Below w.heap.size w w' := by
  obtain ⟨R, hR⟩ : ∃ R, R = findT l y.e := ⟨_, rfl⟩
  rw [← hR]
  have HR := Bx.mk hR
  obtain ⟨ad, c, rfl, -⟩ := hl.rd.form
  have HL := Bx.mk hl
  have HY := Bx.mk hy
  have HC := Bx.mk hl.cells.2
  clear hl hy hR
  obtain ⟨W0, hW0⟩ : ∃ W0, W0 = (w.alloc (encBox y)).alloc (.cells #[.int .i64 0, .int .i64 0, .int .i64 0, .int .i64 0, .slice none 0 0] 44) := ⟨_, rfl⟩
  have HBW0 := Bx.mk (show Below w.heap.size w W0 by rw [hW0]; exact ((Below.refl _ _).alloc (Nat.le_refl _) _).alloc (by simp) _)
  have HP := Bx.mk (show ∀ W, Below (w.heap.size + 2) W0 W → W.heap[w.heap.size]? = some (encBox y) ∧ W.heap[w.heap.size + 1]? = some (.cells #[.int .i64 0, .int .i64 0, .int .i64 0, .int .i64 0, .slice none 0 0] 44) from fun W hW => by
    subst hW0
    refine ⟨?_, ?_⟩
    · rw [hW.block _ (by omega), heap_alloc_old _ _ (by simp)]; exact heap_alloc_new _ _
    · rw [hW.block _ (by omega)]
      have := heap_alloc_new (w.alloc (encBox y)) (.cells #[.int .i64 0, .int .i64 0, .int .i64 0, .int .i64 0, .slice none 0 0] 44)
      rwa [World.size_alloc] at this)
  have HZ := Bx.mk (show W0.heap.size = w.heap.size + 2 by rw [hW0]; simp)
  unfold encBox at hW0 HP
  have HYV := Bx.mk (show entV y = .agg #[.int .i64 y.e.s, .int .i64 y.e.t, .int .i64 y.e.r, .int .i64 y.e.v, y.u.val] from rfl)
  rw [HYV.out]
  go_enter Try.func49, Try.ntmps49
  go_wp2
  rw [← hW0]
  clear hW0
  go_loopw [10] (fun i wr => ∃ k : Nat, k ≤ l.length ∧ i = .int .i64 k ∧ Bx (findT l y.e = findT (l.drop k) y.e) ∧ Below (w.heap.size + 2) W0 wr) (fun i _ => l.length - (intOf i).toNat)
  case atStart => exact ⟨0, by omega, rfl, ⟨by rw [List.drop_zero]⟩, Below.refl _ _⟩
  case round =>
    obtain ⟨k, hk, rfl, hfd, hbel⟩ := hrel
    have hBw : Below w.heap.size w wr := HBW0.out.trans (hbel.mono (by omega))
    have hsz : w.heap.size + 2 ≤ wr.heap.size := by have := hbel.size; have := HZ.out; omega
    have hsz0 : w.heap.size < wr.heap.size := by omega
    have HBEL := Bx.mk hbel
    have HBw := Bx.mk hBw
    obtain ⟨p0, p1⟩ := HP.out wr hbel
    by_cases hlt : k < l.length
    · obtain ⟨b, o, rfl, hbl, c0, c1, c2, c3, c4⟩ := HC.out wr hBw k hlt
      have hst : l.drop k = l[k] :: l.drop (k + 1) := List.drop_eq_getElem_cons hlt
      have hmem : l[k] ∈ l := List.getElem_mem hlt
      obtain ⟨z, hz⟩ : ∃ z, z = l[k] := ⟨_, rfl⟩
      rw [← hz] at c0 c1 c2 c3 c4 hst hmem
      rw [hst, findT, findT, List.find?_cons] at hfd
      have hBA := Bx.mk (HBw.out.alloc HBw.out.size (encBox z))
      have hcall := psameE_any (wr.alloc (encBox z)) z y ((HL.out.at_ z hmem).below hBA.out) (HY.out.below hBA.out)
      have HOPT := Bx.mk (show findT l y.e = (match about z.e y.e with | true => some z | false => findT (l.drop (k + 1)) y.e) from hfd.out)
      unfold entV encBox at hcall
      have q0 := cell_of_row _ _ 0 _ _ _ p0
      have q1 := cell_of_row _ _ 1 _ _ _ p0
      have q2 := cell_of_row _ _ 2 _ _ _ p0
      have q3 := cell_of_row _ _ 3 _ _ _ p0
      have q4 := cell_of_row _ _ 4 _ _ _ p0
      simp only [List.getElem?_toArray, List.getElem?_cons_zero, List.getElem?_cons_succ] at q0 q1 q2 q3 q4
      clear hst hz hmem hfd hBw hbel hbl p0 p1
      have HB2 := Bx.mk (show ∀ W, Below (wr.alloc (encBox z)).heap.size (wr.alloc (encBox z)) W → Below (w.heap.size + 2) W0 W from fun W h => (HBEL.out.alloc hsz _).trans (h.mono (by simp; omega)))
      unfold encBox at HB2
      cases hq : about z.e y.e with
      | true =>
        rw [hq] at hcall
        have HOPT2 := Bx.mk (show R = some z by rw [HR.out, HOPT.out, hq])
        have HRV := Bx.mk (show optV R = .tuple #[.agg #[.int .i64 z.e.s, .int .i64 z.e.t, .int .i64 z.e.r, .int .i64 z.e.v, z.u.val], .bool true] by rw [HOPT2.out]; rfl)
        clear hq HOPT HOPT2 hBA
        have hU1 : ∃ a n c, z.u.val = .slice a n c := ⟨_, _, _, rfl⟩
        generalize z.u.val = U1 at *
        obtain ⟨ua, un, uc, rfl⟩ := hU1
        generalize y.u.val = U2 at *
        generalize z.e.s = S1 at *
        generalize y.e.s = S2 at *
        generalize z.e.t = T1 at *
        generalize y.e.t = T2 at *
        generalize z.e.r = R1 at *
        generalize y.e.r = R2 at *
        generalize z.e.v = V1 at *
        generalize y.e.v = V2 at *
        go_wp2_with fail
        go_at_call 61
        refine hcall.mono ?_
        rintro e w2 ⟨rfl, hb2⟩
        have hbel2 := HB2.out w2 hb2
        obtain ⟨-, p1⟩ := HP.out w2 hbel2
        have HFIN := Bx.mk (HBW0.out.trans (hbel2.mono (by omega)))
        have m0 := cell_of_row _ _ 0 _ _ _ p1
        have m1 := cell_of_row _ _ 1 _ _ _ p1
        have m2 := cell_of_row _ _ 2 _ _ _ p1
        have m3 := cell_of_row _ _ 3 _ _ _ p1
        have m4 := cell_of_row _ _ 4 _ _ _ p1
        simp only [List.getElem?_toArray, List.getElem?_cons_zero, List.getElem?_cons_succ] at m0 m1 m2 m3 m4
        have fr : ∀ i, w2.frozen? ⟨w.heap.size + 1, i, none⟩ = false := fun i => by simp [World.frozen?, p1]
        have hcp : w2.cell? ⟨wr.heap.size, 0, none⟩ = some (.int .i64 S1) ∧ w2.cell? ⟨wr.heap.size, 1, none⟩ = some (.int .i64 T1) ∧ w2.cell? ⟨wr.heap.size, 2, none⟩ = some (.int .i64 R1) ∧ w2.cell? ⟨wr.heap.size, 3, none⟩ = some (.int .i64 V1) ∧ w2.cell? ⟨wr.heap.size, 4, none⟩ = some (.slice ua un uc) := by
          refine ⟨?_, ?_, ?_, ?_, ?_⟩ <;> (rw [hb2.cell (by simp), World.cell?_alloc_at _ _ _ _ rfl]; rfl)
        obtain ⟨n0, n1, n2, n3, n4⟩ := hcp
        clear hb2 hbel2 p1 q0 q1 q2 q3 q4 c0 c1 c2 c3 c4 hcall
        go_wp2
        refine bodyPost_ret (v := .tuple #[.agg #[.int .i64 S1, .int .i64 T1, .int .i64 R1, .int .i64 V1, .slice ua un uc], .bool true]) (by simp [results, Try.results49, go_sem, m0, m1, m2, m3, m4, fr]) rfl ⟨by rw [HRV.out], ?_⟩
        exact ((((HFIN.out.setCell (p := ⟨w.heap.size + 1, 0, none⟩) (by simp) _).setCell (p := ⟨w.heap.size + 1, 1, none⟩) (by simp) _).setCell (p := ⟨w.heap.size + 1, 2, none⟩) (by simp) _).setCell (p := ⟨w.heap.size + 1, 3, none⟩) (by simp) _).setCell (p := ⟨w.heap.size + 1, 4, none⟩) (by simp) _
      | false =>
        rw [hq] at hcall
        have HOPT2 := Bx.mk (show findT l y.e = findT (l.drop (k + 1)) y.e by rw [HOPT.out, hq])
        clear hq HOPT hBA
        have hU1 : ∃ a n c, z.u.val = .slice a n c := ⟨_, _, _, rfl⟩
        generalize z.u.val = U1 at *
        obtain ⟨ua, un, uc, rfl⟩ := hU1
        generalize y.u.val = U2 at *
        generalize z.e.s = S1 at *
        generalize y.e.s = S2 at *
        generalize z.e.t = T1 at *
        generalize y.e.t = T2 at *
        generalize z.e.r = R1 at *
        generalize y.e.r = R2 at *
        generalize z.e.v = V1 at *
        generalize y.e.v = V2 at *
        go_wp2_with fail
        go_at_call 61
        refine hcall.mono ?_
        rintro e w2 ⟨rfl, hb2⟩
        have HBL2 := Bx.mk (HB2.out w2 hb2)
        clear hb2 q0 q1 q2 q3 q4 c0 c1 c2 c3 c4 hcall
        go_wp2
        go_roundw
        case rel => exact ⟨k + 1, by omega, by go_num, HOPT2, HBL2.out⟩
        case measure => simp [intOf]; omega
    · obtain rfl : k = l.length := by omega
      have HRN := Bx.mk (show R = none by rw [HR.out, hfd.out, List.drop_length]; rfl)
      have HRV := Bx.mk (show optV R = .tuple #[.agg #[.int .i64 0, .int .i64 0, .int .i64 0, .int .i64 0, .slice none 0 0], .bool false] by rw [HRN.out]; rfl)
      have m0 := cell_of_row _ _ 0 _ _ _ p1
      have m1 := cell_of_row _ _ 1 _ _ _ p1
      have m2 := cell_of_row _ _ 2 _ _ _ p1
      have m3 := cell_of_row _ _ 3 _ _ _ p1
      have m4 := cell_of_row _ _ 4 _ _ _ p1
      simp only [List.getElem?_toArray, List.getElem?_cons_zero, List.getElem?_cons_succ] at m0 m1 m2 m3 m4
      have fr : ∀ i, wr.frozen? ⟨w.heap.size + 1, i, none⟩ = false := fun i => by simp [World.frozen?, p1]
      clear hbel hBw p0 p1 hfd
      go_wp2
      refine bodyPost_ret (v := .tuple #[.agg #[.int .i64 0, .int .i64 0, .int .i64 0, .int .i64 0, .slice none 0 0], .bool false]) (by simp [results, Try.results49, go_sem, m0, m1, m2, m3, m4, fr]) rfl ⟨by rw [HRV.out], ?_⟩
      exact ((((HBw.out.setCell (p := ⟨w.heap.size + 1, 0, none⟩) (by simp) _).setCell (p := ⟨w.heap.size + 1, 1, none⟩) (by simp) _).setCell (p := ⟨w.heap.size + 1, 2, none⟩) (by simp) _).setCell (p := ⟨w.heap.size + 1, 3, none⟩) (by simp) _).setCell (p := ⟨w.heap.size + 1, 4, none⟩) (by simp) _
end Go.Proofs.Ytpagoinnkknkfaa.Pb
