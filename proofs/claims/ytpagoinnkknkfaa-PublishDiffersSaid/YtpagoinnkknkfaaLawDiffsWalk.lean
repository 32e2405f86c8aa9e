/-
  PublishDiffers, walked.
-/
import Derived.Test.YtpagoinnkknkfaaPbFew
namespace Go.Proofs.Ytpagoinnkknkfaa.Pb
open Go Go.RowKit Go.Shelf Go.Proofs.Ytpagoinnkknkfaa.Slc
set_option linter.unusedVariables false
set_option linter.unusedSimpArgs false
attribute [local go_sem] Oper.semAt_some

set_option maxRecDepth 100000 in
set_option maxHeartbeats 4000000 in
theorem law_diffs (v : Value) (zs : List Int) (tm : Int) (w : World) (hI : Ints w .i64 v zs) :
    Calls Try.prog 9 #[v, .int .i64 tm] w fun e w' => e = .returned (.bool true) ∧ Below w.heap.size w w' := by
  have haw := awake_any
  have hnew := new_any w v zs w hI (Below.refl _ _)
  go_enter Try.func9, Try.ntmps9
  go_wp2_with fail
  refine hnew.mono ?_
  rintro e W1 ⟨rfl, hb1, hD1⟩
  clear hnew
  obtain ⟨g, hg⟩ : ∃ g, g = w.heap.size := ⟨_, rfl⟩
  rw [← hg] at hD1 hb1 ⊢
  have HG := Bx.mk hg
  have HB1 := Bx.mk hb1
  have hgl := hD1.lt
  clear hb1 hg
  have hm1 := made_any w v zs W1 g 12 false hD1 (by omega)
  clear hD1
  go_wp2_with fail
  refine hm1.mono ?_
  rintro e W2 ⟨xv, X, rfl, hX, lX, oX, hD2, hg2⟩
  clear hm1
  have hm2 := made_any w v zs W2 g 12 false hD2 (by omega)
  have hz2 := hg2.size
  clear hD2
  go_wp2_with fail
  refine hm2.mono ?_
  rintro e W3 ⟨yv, Y, rfl, hY, lY, oY, hD3, hg3⟩
  clear hm2
  have hX3 := (hX.grow hg3 hgl).el
  have hY3 := hY.el
  have HBW := Bx.mk (show Below w.heap.size w W3 from HG.out ▸ HB1.out.grown (hg2.trans hg3) (by omega) (fun k hk => by simp only [Option.some.injEq] at hk; omega))
  have HL := Bx.mk (diff_15 oX.mk_ oY.mk_ tm)
  have HX := Bx.mk hX3
  have HY := Bx.mk hY3
  obtain ⟨xa, xc, rfl, -⟩ := hX3.rd.form
  obtain ⟨ya, yc, rfl, -⟩ := hY3.rd.form
  have hp := pdiff_len W3 _ _ X Y tm hX3 hY3 (by omega) (by omega) HL.out
  clear hX hY hX3 hY3 hg2 hg3 oX oY hD3 hz2
  go_wp2_with fail
  refine hp.mono ?_
  rintro e W4 ⟨av, A, rfl, hA, eA, hb4⟩
  clear hp
  have HA := Bx.mk hA.el
  have HEA := Bx.mk eA
  have HB4 := Bx.mk (HBW.out.trans (hb4.mono HBW.out.size))
  have hr := rdiff_any W4 _ _ X Y tm (HX.out.below hb4) (HY.out.below hb4) (by omega) (by omega)
  clear hA eA hb4
  go_wp2_with fail
  refine hr.mono ?_
  rintro e W5 ⟨bv, Bl, rfl, hB, eB, hb5⟩
  clear hr
  have hsm := rsameE_any W5 av bv A Bl (HA.out.below hb5) hB (by have h1 := congrArg List.length HEA.out; have h2 := HL.out; simp only [ens, List.length_map] at h1 h2; omega) (by have h1 := congrArg List.length eB; have h2 := HL.out; simp only [ens, List.length_map] at h1 h2; omega)
  rw [HEA.out, eB, sameB_refl] at hsm
  have HB5 := Bx.mk (HB4.out.trans (hb5.mono HB4.out.size))
  clear hB eB hb5
  go_wp2_with fail
  refine hsm.mono ?_
  rintro e W6 ⟨rfl, hb6⟩
  clear hsm
  have HB6 := Bx.mk (HB5.out.trans (hb6.mono HB5.out.size))
  clear hb6
  go_wp2_with (go_at_call 18; refine (haw _).mono ?_; rintro e w8 ⟨rfl, hb8⟩)
  have HB7 := Bx.mk (HB6.out.trans (hb8.mono HB6.out.size))
  clear hb8
  go_wp2
  go_ret
  exact ⟨rfl, HB7.out⟩
end Go.Proofs.Ytpagoinnkknkfaa.Pb
