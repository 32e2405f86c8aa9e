/-
  The reference's log: Append, Sync, Reset. (Begun by wip/gen/gen_wlw.py.)
-/
import Derived.Test.YtbfgkcgnhgfkmaaGreatWlV
namespace Go.Proofs.YtbfgkcgnhgfkmaaGreat.Wl
open Go Go.RowKit Go.Proofs.YtbfgkcgnhgfkmaaGreat.Slc Go.Proofs.YtbfgkcgnhgfkmaaGreat.Hs
open Go.Proofs.YtbfgkcgnhgfkmaaGreat.Dk (Fr ptr bstr bstr_size bstr_list RepR NextR St rappend_any rsync_any rrename_any)
set_option linter.unusedVariables false
set_option linter.unusedSimpArgs false

theorem rlblk_cells {w : World} {m : Nat} {g : Lg} {r : Nat} (h : w.heap[m]? = some (rlblk g r)) :
    w.cell? ⟨m, 0, none⟩ = some (ptr r) ∧ w.cell? ⟨m, 1, none⟩ = some (.string (bstr g.name)) ∧ w.cell? ⟨m, 2, none⟩ = some (.int .i64 (g.n : Int)) ∧ w.cell? ⟨m, 3, none⟩ = some (.int .i64 (g.size : Int)) ∧ w.cell? ⟨m, 4, none⟩ = some (.bool g.dead) ∧ ∀ k, w.frozen? ⟨m, k, none⟩ = false := by
  refine ⟨?_, ?_, ?_, ?_, ?_, fun k => frozen_of_row _ _ k _ _ h⟩
  · rw [cell_of_row _ _ 0 _ _ _ h]; rfl
  · rw [cell_of_row _ _ 1 _ _ _ h]; rfl
  · rw [cell_of_row _ _ 2 _ _ _ h]; rfl
  · rw [cell_of_row _ _ 3 _ _ _ h]; rfl
  · rw [cell_of_row _ _ 4 _ _ _ h]; rfl
theorem rlblk_dead {w : World} {m : Nat} {g : Lg} {r : Nat} (h : w.heap[m]? = some (rlblk g r)) (b : Bool) : (w.setCell ⟨m, 4, none⟩ (.bool b)).heap[m]? = some (rlblk { g with dead := b } r) := by
  unfold rlblk at h; rw [heap_setCell_same w m 4 _ _ _ h]; rfl
theorem rlblk_grown {w : World} {m : Nat} {g : Lg} {r : Nat} (h : w.heap[m]? = some (rlblk g r)) (n k : Nat) : ((w.setCell ⟨m, 2, none⟩ (.int .i64 n)).setCell ⟨m, 3, none⟩ (.int .i64 k)).heap[m]? = some (rlblk { g with n := n, size := k } r) := by
  unfold rlblk at h; rw [heap_setCell_same _ m 3 _ _ _ (heap_setCell_same w m 2 _ _ _ h)]; rfl
theorem keepLR {w w1 : World} {r m : Nat} {s : St} {g : Lg} {F R : Nat → Prop} (hb : w.heap[m]? = some (rlblk g r)) (hl : ¬ F m) (h : NextR w w1 r s F R) : w1.heap[m]? = some (rlblk g r) := by
  obtain ⟨F1, R1, h1, h2, h3, h4⟩ := h
  exact (h4.block m (lt_of_block hb) hl).trans hb
theorem failed_any (w : World) (m r : Nat) (g : Lg) (e : Int) (h : w.heap[m]? = some (rlblk g r)) (hd : g.dead = false) : Calls Tryz.prog 54 #[ptr m, .int .i64 e] w fun x w' => x = .returned (.int .i64 e) ∧ w' = w.setCell ⟨m, 4, none⟩ (.bool (!(e == 0))) := by
  obtain ⟨-, -, -, -, c4, cf⟩ := rlblk_cells h
  have f4 := cf 4
  rw [hd] at c4
  clear h cf
  unfold ptr
  go_enter Tryz.func54, Tryz.ntmps54
  go_wp2
  go_ret
  exact ⟨rfl, rfl⟩

/-- what a call on a log leaves -/
def RNext (w w' : World) (d l : Nat) (s' : St) (g' : Lg) (F R : Nat → Prop) : Prop :=
  ∃ F' R', RepR w' d s' F' R' ∧ (∀ k, F' k → F k ∨ w.heap.size ≤ k) ∧ (∀ k, R' k → R k ∨ w.heap.size ≤ k) ∧ Fr (fun k => F k ∨ k = l) w w' ∧ w'.heap[l]? = some (rlblk g' d)
theorem RNext.of {w w1 w' : World} {d l : Nat} {s' : St} {g' : Lg} {F R : Nat → Prop} (hx : NextR w w1 d s' F R) (hl : ¬ F l) (hr : ¬ R l) (hlt : l < w.heap.size) (hg : Fr (fun k => k = l) w1 w') (hb : w'.heap[l]? = some (rlblk g' d)) : RNext w w' d l s' g' F R := by
  obtain ⟨F1, R1, h1, h2, h3, h4⟩ := hx
  refine ⟨F1, R1, h1.frame hg fun k q e => ?_, h2, h3, ?_, hb⟩
  · subst e
    rcases q with q | q
    · rcases h2 k q with y | y
      · exact hl y
      · omega
    · rcases h3 k q with y | y
      · exact hr y
      · omega
  · exact ⟨hg.os.trans h4.os, hg.tape.trans h4.tape, hg.output.trans h4.output, Nat.le_trans h4.size hg.size, fun k hk hn => (hg.block k (Nat.lt_of_lt_of_le hk h4.size) fun e => hn (.inr e)).trans (h4.block k hk fun e => hn (.inl e))⟩
theorem RNext.same {w w' : World} {d l : Nat} {s : St} {g : Lg} {F R : Nat → Prop} (h : RepR w d s F R) (hg : w.heap[l]? = some (rlblk g d)) (hb : Below w.heap.size w w') : RNext w w' d l s g F R :=
  ⟨F, R, h.below hb, fun k q => .inl q, fun k q => .inl q, Fr.below hb, (hb.block l (lt_of_block hg)).trans hg⟩
theorem RNext.of_below {w w1 w' : World} {d l : Nat} {s' : St} {g' : Lg} {F R : Nat → Prop} (hb : Below w.heap.size w w1) (h : RNext w1 w' d l s' g' F R) : RNext w w' d l s' g' F R := by
  obtain ⟨F', R', h1, h2, h3, h4, h5⟩ := h
  refine ⟨F', R', h1, fun k q => (h2 k q).imp id fun z => Nat.le_trans hb.size z, fun k q => (h3 k q).imp id fun z => Nat.le_trans hb.size z, ⟨h4.os.trans hb.os, h4.tape.trans hb.tape, h4.output.trans hb.output, Nat.le_trans hb.size h4.size, fun k hk hn => (h4.block k (Nat.lt_of_lt_of_le hk hb.size) hn).trans (hb.block k hk)⟩, h5⟩
theorem RNext.below {w w1 w' : World} {d l : Nat} {s' : St} {g' : Lg} {F R : Nat → Prop} (h : RNext w w1 d l s' g' F R) (hb : Below w1.heap.size w1 w') : RNext w w' d l s' g' F R := by
  obtain ⟨F', R', h1, h2, h3, h4, h5⟩ := h
  exact ⟨F', R', h1.below hb, h2, h3, h4.trans (Fr.below (F := fun _ => False) hb) (fun k q => q.elim), (hb.block l (lt_of_block h5)).trans h5⟩
/-- a write to the log's block -/
theorem RNext.write {w w1 w2 : World} {d l : Nat} {s' : St} {g1 g2 : Lg} {F R : Nat → Prop} (h : RNext w w1 d l s' g1 F R) (hl : ¬ F l) (hr : ¬ R l) (hlt : l < w.heap.size) (hg : Fr (fun k => k = l) w1 w2) (hb : w2.heap[l]? = some (rlblk g2 d)) : RNext w w2 d l s' g2 F R := by
  obtain ⟨F', R', h1, h2, h3, h4, h5⟩ := h
  refine ⟨F', R', h1.frame hg fun k q e => ?_, h2, h3, h4.trans hg fun k q => .inl (.inr q), hb⟩
  subst e
  rcases q with q | q
  · rcases h2 k q with y | y
    · exact hl y
    · omega
  · rcases h3 k q with y | y
    · exact hr y
    · omega

set_option maxRecDepth 10000 in
set_option maxHeartbeats 1000000 in
theorem rlsync_any (w : World) (l d : Nat) (g : Lg) (s : St) (F R : Nat → Prop) (hg : w.heap[l]? = some (rlblk g d)) (h : RepR w d s F R) (hl : ¬ F l) (hr : ¬ R l) (ho : s.ops.length ≤ 1000) (hwt : s.wt ≤ 1000000) :
    Calls Tryz.prog 24 #[ptr l] w fun e w' => e = .returned (.int .i64 (g.sync s).2.2) ∧ RNext w w' d l (g.sync s).1 (g.sync s).2.1 F R := by
  obtain ⟨c0, -, -, -, c4, -⟩ := rlblk_cells hg
  have hlt := lt_of_block hg
  have hsy := rsync_any w d s F R h (by omega) (by omega)
  have HG := Lib.hid hg
  have HH := Lib.hid h
  have HL := Lib.hid hl
  have HR := Lib.hid hr
  have HLT := Lib.hid hlt
  unfold ptr at *
  cases hdd : g.dead with
  | true =>
    have e1 : g.sync s = (s, g, 28) := by unfold Lg.sync; rw [hdd]; rfl
    have HE := Bx.mk e1
    rw [hdd] at c4
    clear hsy hg h hl hr hlt hdd e1
    go_enter Tryz.func24, Tryz.ntmps24
    go_wp2_with fail
    go_ret
    rw [HE.out]
    exact ⟨rfl, RNext.same HH.out HG.out (Below.refl _ _)⟩
  | false =>
    have e1 : g.sync s = (s.sync.1, { g with dead := !(s.sync.2 == 0) }, s.sync.2) := by unfold Lg.sync; rw [hdd]; rfl
    have HE := Bx.mk e1
    have HDD := Bx.mk hdd
    rw [hdd] at c4
    have HSY := Lib.hid hsy
    clear hsy hg h hl hr hlt hdd e1
    go_enter Tryz.func24, Tryz.ntmps24
    go_wp2_with fail
    go_at_call 51
    refine HSY.out.mono ?_
    rintro e w1 ⟨rfl, hx⟩
    have hg1 := keepLR HG.out HL.out hx
    have hrs := failed_any w1 l d g s.sync.2 hg1 HDD.out
    have HX := Lib.hid hx
    have HG1 := Lib.hid hg1
    unfold ptr at hrs
    have HRS := Lib.hid hrs
    clear hx hg1 hrs
    go_wp2_with fail
    go_at_call 54
    refine HRS.out.mono ?_
    rintro e w2 ⟨rfl, hw2⟩
    have HW2 := Bx.mk hw2
    clear hw2
    go_wp2_with fail
    go_ret
    rw [HE.out]
    refine ⟨rfl, RNext.of HX.out HL.out HR.out HLT.out (w' := w2) ?_ ?_⟩
    · rw [HW2.out]; exact fr_one _ _ _ _
    · rw [HW2.out]; exact rlblk_dead HG1.out _

/-- the region of Append: what its operations yield, and the worlds -/
def RpV (l d : Nat) (nm fb : ByteArray) (e : Int) : Nat → Value
  | 0 => ptr l
  | 1 => ptr l
  | 2 => ptr l
  | 3 => ptr l
  | 4 => ptr d
  | 5 => ptr l
  | 6 => ptr l
  | 7 => .pointer (some ⟨l, 1, none⟩)
  | 8 => .string nm
  | 9 => .string fb
  | 10 => .int .i64 e
  | 11 => .int .i64 e
  | _ => undef
def RpI (W : World) (d l : Nat) (s' : St) (g' : Lg) (F R : Nat → Prop) : Nat → World → Prop
  | 0, w => Below W.heap.size W w
  | 1, w => NextR W w d s' F R
  | 2, w => RNext W w d l s' g' F R
  | _, _ => False
theorem RpI.stable {W : World} {d l : Nat} {s' : St} {g' : Lg} {F R : Nat → Prop} (k : Nat) (w1 w2 : World) (h : RpI W d l s' g' F R k w1) (hb : Below w1.heap.size w1 w2) : RpI W d l s' g' F R k w2 := by
  match k with
  | 0 => exact Below.trans (show Below W.heap.size W w1 from h) (hb.mono (show Below W.heap.size W w1 from h).size)
  | 1 => exact NextR.below (show NextR W w1 d s' F R from h) hb
  | 2 => exact RNext.below h hb
  | _ + 3 => exact h
theorem RpI.cells {W : World} {d l : Nat} {s' : St} {g g' : Lg} {F R : Nat → Prop} {k : Nat} {w : World} (h : RpI W d l s' g' F R k w) (hg : W.heap[l]? = some (rlblk g d)) (hl : ¬ F l) (hn : g'.name = g.name) :
    w.cell? ⟨l, 1, none⟩ = some (.string (bstr g.name)) ∧ w.cell? ⟨l, 0, none⟩ = some (ptr d) := by
  match k with
  | 0 =>
    obtain ⟨c0, c1, -, -, -, -⟩ := rlblk_cells (((show Below W.heap.size W w from h).block l (lt_of_block hg)).trans hg)
    exact ⟨c1, c0⟩
  | 1 =>
    obtain ⟨c0, c1, -, -, -, -⟩ := rlblk_cells (keepLR hg hl (show NextR W w d s' F R from h))
    exact ⟨c1, c0⟩
  | 2 =>
    obtain ⟨_, _, _, _, _, _, h5⟩ := (show RNext W w d l s' g' F R from h)
    obtain ⟨c0, c1, -, -, -, -⟩ := rlblk_cells h5
    rw [hn] at c1
    exact ⟨c1, c0⟩
  | _ + 3 => exact h.elim

set_option maxRecDepth 10000 in
set_option maxHeartbeats 2000000 in
theorem rlappend_any (w : World) (l d : Nat) (g : Lg) (s : St) (F R : Nat → Prop) (x : B) (hg : w.heap[l]? = some (rlblk g d)) (h : RepR w d s F R) (hl : ¬ F l) (hr : ¬ R l) (hn : g.name.length ≤ 900) (h1 : g.n ≤ 10000) (h2 : g.size ≤ 1000000000) (ho : s.ops.length ≤ 1000) (hwt : s.wt ≤ 1000000) (hx : x.length ≤ 9223372036854775807) :
    Calls Tryz.prog 23 #[ptr l, .string (bstr x)] w fun e w' => e = .returned (.int .i64 (g.append s x).2.2) ∧ RNext w w' d l (g.append s x).1 (g.append s x).2.1 F R := by
  obtain ⟨c0, c1, c2, c3, c4, -⟩ := rlblk_cells hg
  have hlt := lt_of_block hg
  have hsz : (bstr x).size = x.length := bstr_size x
  have HG := Lib.hid hg
  have HH := Lib.hid h
  have HL := Lib.hid hl
  have HR := Lib.hid hr
  have HLT := Lib.hid hlt
  unfold ptr at *
  cases hdd : g.dead with
  | true =>
    have e1 : g.append s x = (s, g, 28) := by unfold Lg.append; rw [hdd]; rfl
    have HE := Bx.mk e1
    rw [hdd] at c4
    clear hg h hl hr hlt hdd e1
    generalize bstr x = X at *
    go_enter Tryz.func23, Tryz.ntmps23
    go_wp2_with fail
    go_ret
    rw [HE.out]
    exact ⟨rfl, RNext.same HH.out HG.out (Below.refl _ _)⟩
  | false =>
    rw [hdd] at c4
    by_cases hbig : 65536 < x.length
    · have e1 : g.append s x = (s, g, 2) := by unfold Lg.append; rw [hdd]; simp [hbig]
      have HE := Bx.mk e1
      have t1 : decide ((x.length : Int) > 65536) = true := by rw [decide_eq_true_eq]; omega
      clear hg h hl hr hlt hdd e1
      generalize bstr x = X at *
      go_enter Tryz.func23, Tryz.ntmps23
      go_wp2_with fail
      go_ret
      rw [HE.out]
      exact ⟨rfl, RNext.same HH.out HG.out (Below.refl _ _)⟩
    · have t1 : decide ((x.length : Int) > 65536) = false := by rw [decide_eq_false_iff_not]; omega
      by_cases hmany : 4096 ≤ g.n
      · have e1 : g.append s x = (s, g, 2) := by unfold Lg.append; rw [hdd]; simp [hmany]
        have HE := Bx.mk e1
        have t2 : decide ((g.n : Int) ≥ 4096) = true := by rw [decide_eq_true_eq]; omega
        clear hg h hl hr hlt hdd e1
        generalize bstr x = X at *
        go_enter Tryz.func23, Tryz.ntmps23
        go_wp2_with fail
        go_ret
        rw [HE.out]
        exact ⟨rfl, RNext.same HH.out HG.out (Below.refl _ _)⟩
      · have t2 : decide ((g.n : Int) ≥ 4096) = false := by rw [decide_eq_false_iff_not]; omega
        have hfl := frameB_len g.n x
        obtain ⟨A, hA⟩ : ∃ y, y = s.append g.name (frameB g.n x) := ⟨_, rfl⟩
        have hnx := rFrame_any (g.n : Int) x w (by omega) (by omega)
        rw [frameR_ok g.n x (by omega)] at hnx
        have hap := fun (W : World) (hb : Below w.heap.size w W) => rappend_any W d s F R g.name (frameB g.n x) (h.below hb) (by omega) (by omega) h.ok.cap1 (by omega) (by omega)
        have e1 : g.append s x = if A.2 = 0 then (A.1, { g with n := g.n + 1, size := g.size + (frameB g.n x).length, dead := false }, 0) else (A.1, { g with dead := true }, A.2) := by
          rw [hA]; unfold Lg.append; rw [hdd]; simp only [Bool.false_eq_true, if_false, hbig, hmany, or_self]
        rw [← hA] at hap
        have hfs := bstr_size (frameB g.n x)
        generalize hF0 : frameB g.n x = FB at *
        clear hF0 hA
        have HE := Bx.mk e1
        have HNX := Lib.hid hnx
        have HAP := Lib.hid hap
        have HDD := Bx.mk hdd
        clear e1 hnx hap
        obtain ⟨g', hg'⟩ : ∃ g' : Lg, g' = { g with dead := !(A.2 == 0) } := ⟨_, rfl⟩
        have hnm : g'.name = g.name := by rw [hg']
        have hres := fun (W : World) (hgx : W.heap[l]? = some (rlblk g d)) => failed_any W l d g A.2 hgx HDD.out
        have HRES := Lib.hid hres
        have HG' := Bx.mk hg'
        have HNM := Bx.mk hnm
        clear hg h hl hr hlt hdd hres hg' hnm
        generalize hX : bstr x = X at *
        generalize hFS : bstr FB = Fq at *
        have HFS := Bx.mk hFS
        clear hX hFS
        unfold ptr at HAP HRES
        go_enter Tryz.func23, Tryz.ntmps23
        go_wp2_with fail
        go_at_call 53
        refine HNX.out.mono ?_
        rintro e w1 ⟨rfl, hb1⟩
        have HB1 := Lib.hid hb1
        have HG1 := Lib.hid ((hb1.block l HLT.out).trans HG.out)
        clear hb1 c0 c1 c2 c3 c4
        go_wp2_with fail
        refine wp_region_spine 12 [10, 11] (RpV l d (bstr g.name) Fq A.2) (RpI w1 d l A.1 g' F R) (by kernel_rfl) (by kernel_rfl) (by rfl) (by kernel_rfl) (by decide) ⟨rfl, rfl, rfl, Nat.le_refl _, fun _ _ => rfl⟩ RpI.stable ?_ ?_
        · intro i o hi ho y w2 hk hex hN
          have hc : i = 0 ∨ i = 1 ∨ i = 2 ∨ i = 3 ∨ i = 4 ∨ i = 5 ∨ i = 6 ∨ i = 7 ∨ i = 8 ∨ i = 9 ∨ i = 10 ∨ i = 11 := by omega
          obtain ⟨kx, hkx⟩ := hex
          obtain ⟨y0, y3⟩ := hkx.cells HG1.out HL.out HNM.out
          have HK := Lib.hid hk
          unfold ptr at y3
          simp only [List.take_succ_cons, List.take_zero, putFrom, Act.put, List.setIfInBounds_toArray, List.set_cons_succ, List.set_cons_zero, Nat.zero_add, Nat.reduceAdd]
          clear hk hkx
          rcases hc with rfl | rfl | rfl | rfl | rfl | rfl | rfl | rfl | rfl | rfl | rfl | rfl
          all_goals
            simp only [List.getElem?_cons_succ, List.getElem?_cons_zero, Option.some.injEq] at ho
            subst ho
            simp [NeedsB, Region.binds, RpV, ptr] at hN
          all_goals clear hi
          · go_wp2_with fail
            exact ⟨rfl, rfl, rfl, Below.refl _ _⟩
          · go_wp2_with fail
            exact ⟨rfl, rfl, rfl, Below.refl _ _⟩
          · go_wp2_with fail
            exact ⟨rfl, rfl, rfl, Below.refl _ _⟩
          · go_wp2_with fail
            exact ⟨rfl, rfl, rfl, Below.refl _ _⟩
          · go_wp2_with fail
            exact ⟨rfl, rfl, rfl, Below.refl _ _⟩
          · go_wp2_with fail
            exact ⟨rfl, rfl, rfl, Below.refl _ _⟩
          · go_wp2_with fail
            exact ⟨rfl, rfl, rfl, Below.refl _ _⟩
          · go_wp2_with fail
            exact ⟨rfl, rfl, rfl, Below.refl _ _⟩
          · go_wp2_with fail
            exact ⟨rfl, rfl, rfl, Below.refl _ _⟩
          · go_wp2_with fail
            exact ⟨rfl, rfl, rfl, Below.refl _ _⟩
          · have hB := HK.out 0 rfl
            go_wp2_with fail
            go_at_call 50
            refine (HAP.out w2 (HB1.out.trans (Below.mono hB HB1.out.size))).mono ?_
            rintro e w3 ⟨rfl, hn1⟩
            have HN := Lib.hid (Dk.NextR.of_below (show Below w1.heap.size w1 w2 from hB) hn1)
            have HBB := Lib.hid hB
            clear hn1 hB
            go_wp2_with fail
            exact ⟨rfl, rfl, rfl, ⟨0, rfl, HBB.out, HN.out⟩⟩
          · have hB := HK.out 1 rfl
            have hgx := keepLR HG1.out HL.out (show NextR w1 w2 d A.1 F R from hB)
            go_wp2_with fail
            go_at_call 54
            refine (HRES.out w2 hgx).mono ?_
            rintro e w3 ⟨rfl, hw3⟩
            have HN : Hid (RNext w1 w3 d l A.1 g' F R) := Lib.hid (RNext.of hB HL.out HR.out (by have := HLT.out; have := HB1.out.size; omega) (w' := w3) (by rw [hw3]; exact fr_one _ _ _ _) (by rw [hw3, HG'.out]; exact rlblk_dead hgx _))
            have HBB := Lib.hid hB
            clear hw3 hgx hB
            go_wp2_with fail
            exact ⟨rfl, rfl, rfl, ⟨1, rfl, HBB.out, HN.out⟩⟩
        · intro y w2 hy hI
          have f12 := hy 11 (by omega)
          simp only [RpV] at f12
          simp only [List.take_succ_cons, List.take_zero, List.drop_succ_cons, List.drop_zero, putFrom, Act.put, List.setIfInBounds_toArray, List.set_cons_succ, List.set_cons_zero, Nat.zero_add, Nat.reduceAdd, f12]
          have HI : Hid (RNext w1 w2 d l A.1 g' F R) := Lib.hid hI
          clear hy hI f12
          by_cases hq : A.2 = 0
          · have t3 : (A.2 == 0) = true := by simp [hq]
            have hgx : w2.heap[l]? = some (rlblk g' d) := by obtain ⟨_, _, _, _, _, _, h5⟩ := HI.out; exact h5
            obtain ⟨-, -, k2, k3, -, kf⟩ := rlblk_cells hgx
            have f2 := kf 2
            have f3 := kf 3
            have hl2 := lt_of_block hgx
            have gn : g'.n = g.n := by rw [HG'.out]
            have gs : g'.size = g.size := by rw [HG'.out]
            rw [gn] at k2
            rw [gs] at k3
            have HGX := Lib.hid hgx
            have HE2 := Bx.mk (show g.append s x = (A.1, { g with n := g.n + 1, size := g.size + FB.length, dead := false }, 0) by rw [HE.out, if_pos hq])
            have HQ := Bx.mk hq
            have b1 : (g.n : Int) ≤ 10000 := by omega
            have b2 : (g.size : Int) ≤ 1000000000 := by omega
            have b3 : (FB.length : Int) ≤ 70000 := by omega
            clear hgx hq kf gn gs
            go_wp2_with fail
            go_ret
            rw [HE2.out, HQ.out]
            refine ⟨rfl, RNext.of_below HB1.out ?_⟩
            have hfin : RNext w1 ((w2.setCell ⟨l, 2, none⟩ (.int .i64 ((g.n + 1 : Nat) : Int))).setCell ⟨l, 3, none⟩ (.int .i64 ((g.size + FB.length : Nat) : Int))) d l A.1 { g' with n := g.n + 1, size := g.size + FB.length } F R :=
              HI.out.write HL.out HR.out (by have := HLT.out; have := HB1.out.size; omega) (fr_two _ _ _ _ _ _) (rlblk_grown HGX.out _ _)
            rw [HG'.out, HQ.out, show (((g.n + 1 : Nat)) : Int) = (g.n : Int) + 1 from by omega, show ((g.size + FB.length : Nat) : Int) = (g.size : Int) + ((x.length : Int) + 8) from by omega] at hfin
            exact hfin
          · have t3 : (A.2 == 0) = false := by simp [hq]
            have HE2 := Bx.mk (show g.append s x = (A.1, { g with dead := true }, A.2) by rw [HE.out, if_neg hq])
            have HQ := Bx.mk t3
            clear hq
            go_wp2_with fail
            go_ret
            rw [HE2.out]
            refine ⟨rfl, RNext.of_below HB1.out ?_⟩
            have := HI.out
            rw [HG'.out, HQ.out] at this
            exact this
end Go.Proofs.YtbfgkcgnhgfkmaaGreat.Wl
