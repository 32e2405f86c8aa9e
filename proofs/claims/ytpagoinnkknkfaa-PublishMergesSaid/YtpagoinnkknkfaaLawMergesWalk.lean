/-
  PublishMerges, walked.
-/
import Derived.Test.YtpagoinnkknkfaaPbMade
namespace Go.Proofs.Ytpagoinnkknkfaa.Pb
open Go Go.RowKit Go.Shelf Go.Proofs.Ytpagoinnkknkfaa.Slc
set_option linter.unusedVariables false
set_option linter.unusedSimpArgs false
attribute [local go_sem] Oper.semAt_some

theorem LL.nil (w : World) : LL w (.slice none 0 0) [] := ⟨[], .inl ⟨rfl, rfl⟩, rfl, fun i h => by simp at h⟩
theorem one_slice {w : World} {a : Sl} {x : Nat} {l : List Et} (h : w.heap[x]? = some (.cells #[a.val] 40 (0, 0))) (h1 : EL w a.val l) : LL w (.slice (some ⟨x, 0, none⟩) 1 1) [l] := by
  refine ⟨[a], .inr ⟨x, 0, 1, rfl, lt_of_block h, Nat.le_refl _, fun j u hj => ?_⟩, rfl, fun i hi => ?_⟩
  · have := cell_of_row _ _ j _ _ _ h
    rw [Nat.zero_add, this]
    simpa [encV1] using hj
  · match i, hi with
    | 0, _ => exact h1
theorem three_slices {w : World} {a b c : Sl} {x : Nat} {l m k : List Et} (h : w.heap[x]? = some (.cells #[a.val, b.val, c.val] 40 (0, 0))) (h1 : EL w a.val l) (h2 : EL w b.val m) (h3 : EL w c.val k) : LL w (.slice (some ⟨x, 0, none⟩) 3 3) [l, m, k] := by
  refine ⟨[a, b, c], .inr ⟨x, 0, 3, rfl, lt_of_block h, Nat.le_refl _, fun j u hj => ?_⟩, rfl, fun i hi => ?_⟩
  · have := cell_of_row _ _ j _ _ _ h
    rw [Nat.zero_add, this]
    simpa [encV1] using hj
  · match i, hi with
    | 0, _ => exact h1
    | 1, _ => exact h2
    | 2, _ => exact h3
set_option maxRecDepth 100000 in
set_option maxHeartbeats 4000000 in
theorem law_merges (v : Value) (zs : List Int) (n : Int) (w : World) (hI : Ints w .i64 v zs) :
    Calls Try.prog 11 #[v, .int .i64 n] w fun e w' => e = .returned (.bool true) ∧ Below w.heap.size w w' := by
  have haw := awake_any
  have hnew := new_any w v zs w hI (Below.refl _ _)
  go_enter Try.func11, Try.ntmps11
  go_wp2_with fail
  refine hnew.mono ?_
  rintro e W1 ⟨rfl, hb1, hD1⟩
  clear hnew
  obtain ⟨g, hg⟩ : ∃ g, g = w.heap.size := ⟨_, rfl⟩
  rw [← hg] at hD1 hb1 ⊢
  have HG := Bx.mk hg
  have HB1 := Bx.mk hb1
  have hgl := hD1.lt
  clear hb1 hg
  have hm1 := made_any w v zs W1 g 5 true hD1 (by omega)
  clear hD1
  go_wp2_with fail
  refine hm1.mono ?_
  rintro e W2 ⟨xv, X, rfl, hX, lX, oX, hD2, hg2⟩
  clear hm1
  have hm2 := made_any w v zs W2 g 4 true hD2 (by omega)
  have hz2 := hg2.size
  clear hD2
  go_wp2_with fail
  refine hm2.mono ?_
  rintro e W3 ⟨yv, Y, rfl, hY, lY, oY, hD3, hg3⟩
  clear hm2
  have hX3 := hX.grow hg3 hgl
  have hm3 := made_any w v zs W3 g 3 false hD3 (by omega)
  have hz3 := hg3.size
  have hg3 := hg2.trans hg3
  clear hD3 hX hg2
  go_wp2_with fail
  refine hm3.mono ?_
  rintro e W4 ⟨zv, Z, rfl, hZ, lZ, oZ, -, hg4⟩
  clear hm3
  have hX4 := (hX3.grow hg4 hgl).el
  have hY4 := (hY.grow hg4 (by omega)).el
  have hZ4 := hZ.el
  have HBW := Bx.mk (show Below w.heap.size w W4 from HG.out ▸ HB1.out.grown (hg3.trans hg4) (by omega) (fun k hk => by simp only [Option.some.injEq] at hk; omega))
  have HOX := Bx.mk oX
  clear hX3 hY hZ hg3 hg4 oX oY oZ hz2 hz3
  obtain ⟨xa, xc, rfl, -⟩ := hX4.rd.form
  obtain ⟨ya, yc, rfl, -⟩ := hY4.rd.form
  obtain ⟨za, zc, rfl, -⟩ := hZ4.rd.form
  obtain ⟨W5, hW5⟩ : ∃ W5, W5 = W4.alloc (.cells #[.slice xa X.length xc, .slice ya Y.length yc, .slice za Z.length zc] 40) := ⟨_, rfl⟩
  have hb5 : Below W4.heap.size W4 W5 := by rw [hW5]; exact (Below.refl _ _).alloc (Nat.le_refl _) _
  have hr5 : W5.heap[W4.heap.size]? = some (.cells #[.slice xa X.length xc, .slice ya Y.length yc, .slice za Z.length zc] 40 (0, 0)) := by rw [hW5]; exact heap_alloc_new _ _
  have hX5 := hX4.below hb5
  have hY5 := hY4.below hb5
  have hZ5 := hZ4.below hb5
  have hp1 := pmerge_any W5 _ [X, Y, Z] (three_slices (a := ⟨xa, X.length, xc⟩) (b := ⟨ya, Y.length, yc⟩) (c := ⟨za, Z.length, zc⟩) hr5 hX5 hY5 hZ5) (by simp) (by unfold lens; simp; omega)
  generalize hM : mergeE (ens [X, Y, Z].flatten) = M at *
  have HB5 := Bx.mk (HBW.out.trans (hb5.mono HBW.out.size))
  have HX5 := Bx.mk hX5
  have HY5 := Bx.mk hY5
  have HZ5 := Bx.mk hZ5
  have HM := Bx.mk hM
  have HML := Bx.mk (show M.1.length ≤ 12 by
    rw [← hM]; unfold mergeE
    split
    · simp
    · rw [(sort_perm _).length_eq]; simp [ens]; omega)
  clear hX4 hY4 hZ4 hX5 hY5 hZ5 hb5 hr5 hM
  go_wp2_with fail
  rw [← hW5]
  clear hW5
  refine hp1.mono ?_
  rintro e W6 ⟨av, A, rfl, hA, eA, hb6⟩
  clear hp1
  have HA6 := Bx.mk hA.el
  have HX6 := Bx.mk (HX5.out.below hb6)
  have HB6 := Bx.mk (HB5.out.trans (hb6.mono HB5.out.size))
  have HEA := Bx.mk eA
  obtain ⟨W7, hW7⟩ : ∃ W7, W7 = W6.alloc (.cells #[.slice xa X.length xc, .slice ya Y.length yc, .slice za Z.length zc] 40) := ⟨_, rfl⟩
  have hb7 : Below W6.heap.size W6 W7 := by rw [hW7]; exact (Below.refl _ _).alloc (Nat.le_refl _) _
  have hr7 : W7.heap[W6.heap.size]? = some (.cells #[.slice xa X.length xc, .slice ya Y.length yc, .slice za Z.length zc] 40 (0, 0)) := by rw [hW7]; exact heap_alloc_new _ _
  have hp2 := rmerge_any W7 _ [X, Y, Z] (three_slices (a := ⟨xa, X.length, xc⟩) (b := ⟨ya, Y.length, yc⟩) (c := ⟨za, Z.length, zc⟩) hr7 (HX6.out.below hb7) ((HY5.out.below hb6).below hb7) ((HZ5.out.below hb6).below hb7)) (by simp) (by unfold lens; simp; omega)
  rw [HM.out] at hp2
  have HA7 := Bx.mk (HA6.out.below hb7)
  have HX7 := Bx.mk (HX6.out.below hb7)
  have HB7 := Bx.mk (HB6.out.trans (hb7.mono HB6.out.size))
  clear hA eA hb6 hb7 hr7
  go_wp2_with fail
  rw [← hW7]
  clear hW7
  refine hp2.mono ?_
  rintro e W8 ⟨bv, Bl, rfl, hB, eB, hb8⟩
  clear hp2
  have HA8 := Bx.mk (HA7.out.below hb8)
  have HX8 := Bx.mk (HX7.out.below hb8)
  have HB8 := Bx.mk (HB7.out.trans (hb8.mono HB7.out.size))
  have HEB := Bx.mk eB
  have HBl := Bx.mk hB
  obtain ⟨W9, hW9⟩ : ∃ W9, W9 = W8.alloc (.cells #[.slice xa X.length xc] 40) := ⟨_, rfl⟩
  have hb9 : Below W8.heap.size W8 W9 := by rw [hW9]; exact (Below.refl _ _).alloc (Nat.le_refl _) _
  have hr9 : W9.heap[W8.heap.size]? = some (.cells #[.slice xa X.length xc] 40 (0, 0)) := by rw [hW9]; exact heap_alloc_new _ _
  have hp3 := pmerge_any W9 _ [X] (one_slice (a := ⟨xa, X.length, xc⟩) hr9 (HX8.out.below hb9)) (by simp) (by unfold lens; simp; omega)
  have hmx : mergeE (ens [X].flatten) = (sortE (ens X), 0) := by
    unfold mergeE
    rw [show [X].flatten = X by simp, if_neg (by rw [dup_nd (HOX.out.pl rfl).1]; simp)]
  rw [hmx] at hp3
  have HA9 := Bx.mk (HA8.out.below hb9)
  have HX9 := Bx.mk (HX8.out.below hb9)
  have HBl9 := Bx.mk (HBl.out.below hb9)
  have HB9 := Bx.mk (HB8.out.trans (hb9.mono HB8.out.size))
  clear hB eB hb8 hb9 hr9 hmx
  go_wp2_with fail
  rw [← hW9]
  clear hW9
  refine hp3.mono ?_
  rintro e W10 ⟨gv, G, rfl, hG, eG, hb10⟩
  clear hp3
  have hp4 := pmerge_any W10 _ [] (LL.nil W10) (by simp) (by unfold lens; simp)
  rw [show mergeE (ens ([] : List (List Et)).flatten) = ([], 0) from rfl] at hp4
  have HA10 := Bx.mk (HA9.out.below hb10)
  have HX10 := Bx.mk (HX9.out.below hb10)
  have HBl10 := Bx.mk (HBl9.out.below hb10)
  have HG10 := Bx.mk hG.el
  have HEG := Bx.mk eG
  have HB10 := Bx.mk (HB9.out.trans (hb10.mono HB9.out.size))
  clear hG eG hb10
  go_wp2_with fail
  refine hp4.mono ?_
  rintro e W11 ⟨iv, I, rfl, hIl, eI, hb11⟩
  clear hp4
  obtain rfl : I = [] := by simpa [ens] using eI
  obtain ⟨ia, ic, rfl, -⟩ := hIl.el.rd.form
  have hsm := rsameE_any W11 av bv A Bl (HA10.out.below hb11) (HBl10.out.below hb11) (by have h1 := congrArg List.length HEA.out; have h2 := HML.out; simp only [ens, List.length_map] at h1; omega) (by have h1 := congrArg List.length HEB.out; have h2 := HML.out; simp only [ens, List.length_map] at h1; omega)
  rw [HEA.out, HEB.out, sameB_refl] at hsm
  have HX11 := Bx.mk (HX10.out.below hb11)
  have HG11 := Bx.mk (HG10.out.below hb11)
  have HB11 := Bx.mk (HB10.out.trans (hb11.mono HB10.out.size))
  obtain ⟨M1, M2⟩ := M
  have tM : (M2 == M2) = true := by simp
  clear hIl eI hb11
  go_wp2_with fail
  refine hsm.mono ?_
  rintro e W12 ⟨rfl, hb12⟩
  clear hsm
  have hso := rsort_any W12 _ X (HX11.out.below hb12) (by omega)
  have HG12 := Bx.mk (HG11.out.below hb12)
  have HB12 := Bx.mk (HB11.out.trans (hb12.mono HB11.out.size))
  clear hb12
  go_wp2_with fail
  refine hso.mono ?_
  rintro e W13 ⟨sv, S, rfl, -, hS, eS, hb13⟩
  clear hso
  have hsm := rsameE_any W13 gv sv G S (HG12.out.below hb13) hS (by have h1 := congrArg List.length HEG.out; rw [(sort_perm _).length_eq] at h1; simp only [ens, List.length_map] at h1; omega) (by have h1 := congrArg List.length eS; rw [(sort_perm _).length_eq] at h1; simp only [ens, List.length_map] at h1; omega)
  rw [HEG.out, eS, sameB_refl] at hsm
  have HB13 := Bx.mk (HB12.out.trans (hb13.mono HB12.out.size))
  clear hS eS hb13
  go_wp2_with fail
  refine hsm.mono ?_
  rintro e W14 ⟨rfl, hb14⟩
  clear hsm
  have HB14 := Bx.mk (HB13.out.trans (hb14.mono HB13.out.size))
  clear hb14
  go_wp2_with (go_at_call 18; refine (haw _).mono ?_; rintro e w8 ⟨rfl, hb8⟩)
  have HB15 := Bx.mk (HB14.out.trans (hb8.mono HB14.out.size))
  clear hb8
  go_wp2
  go_ret
  exact ⟨rfl, HB15.out⟩
end Go.Proofs.Ytpagoinnkknkfaa.Pb
