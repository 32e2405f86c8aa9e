/-
  The reference's log: Reset.
-/
import Derived.Test.YtbfgkcgnhgfkmaaGreatWlW
namespace Go.Proofs.YtbfgkcgnhgfkmaaGreat.Wl
open Go Go.RowKit Go.Proofs.YtbfgkcgnhgfkmaaGreat.Slc Go.Proofs.YtbfgkcgnhgfkmaaGreat.Hs
open Go.Proofs.YtbfgkcgnhgfkmaaGreat.Dk (Fr ptr bstr bstr_size bstr_list RepR NextR St rappend_any rsync_any rrename_any)
set_option linter.unusedVariables false
set_option linter.unusedSimpArgs false

def onE (E : Int) (st : St) (x : St × Int) : St × Int := if E = 0 then x else (st, E)
def rep2 (st : St) (n : B) : St × Int := onE (st.rename (n ++ sfx) n).2 (st.rename (n ++ sfx) n).1 (st.rename (n ++ sfx) n).1.sync
def rep1 (st : St) (n : B) : St × Int := onE st.sync.2 st.sync.1 (rep2 st.sync.1 n)
theorem onE_eq (a x : St × Int) : (if a.2 ≠ 0 then a else x) = onE a.2 a.1 x := by
  unfold onE
  by_cases h : a.2 = 0
  · rw [if_neg (by simp [h]), if_pos h]
  · rw [if_pos h, if_neg h]
theorem replace_eq (s : St) (n b : B) : replace s n b = onE (s.append (n ++ sfx) b).2 (s.append (n ++ sfx) b).1 (rep1 (s.append (n ++ sfx) b).1 n) := by
  unfold replace rep1 rep2
  simp only
  rw [onE_eq, onE_eq, onE_eq]
set_option maxRecDepth 10000 in
set_option maxHeartbeats 4000000 in
theorem rlreset_any (w : World) (l d : Nat) (g : Lg) (s : St) (F R : Nat → Prop) (x : B) (hg : w.heap[l]? = some (rlblk g d)) (h : RepR w d s F R) (hl : ¬ F l) (hr : ¬ R l) (hn : g.name.length ≤ 900) (ho : s.ops.length ≤ 1000) (hwt : s.wt ≤ 1000000) (hx : x.length ≤ 9223372036854775807) :
    Calls Tryz.prog 26 #[ptr l, .string (bstr x)] w fun e w' => e = .returned (.int .i64 (g.reset s x).2.2) ∧ RNext w w' d l (g.reset s x).1 (g.reset s x).2.1 F R := by
  obtain ⟨c0, c1, c2, c3, c4, -⟩ := rlblk_cells hg
  have hlt := lt_of_block hg
  have hsz : (bstr x).size = x.length := bstr_size x
  have HG := Lib.hid hg
  have HH := Lib.hid h
  have HL := Lib.hid hl
  have HR := Lib.hid hr
  have HLT := Lib.hid hlt
  unfold ptr at *
  cases hdd : g.dead with
  | true =>
    have e1 : g.reset s x = (s, g, 28) := by unfold Lg.reset; rw [hdd]; rfl
    have HE := Bx.mk e1
    rw [hdd] at c4
    clear hg h hl hr hlt hdd e1
    generalize bstr x = X at *
    go_enter Tryz.func26, Tryz.ntmps26
    go_wp2_with fail
    go_ret
    rw [HE.out]
    exact ⟨rfl, RNext.same HH.out HG.out (Below.refl _ _)⟩
  | false =>
    rw [hdd] at c4
    by_cases hbig : 65536 < x.length
    · have e1 : g.reset s x = (s, g, 2) := by unfold Lg.reset; rw [hdd]; simp [hbig]
      have HE := Bx.mk e1
      have t1 : decide ((x.length : Int) > 65536) = true := by rw [decide_eq_true_eq]; omega
      clear hg h hl hr hlt hdd e1
      generalize bstr x = X at *
      go_enter Tryz.func26, Tryz.ntmps26
      go_wp2_with fail
      go_ret
      rw [HE.out]
      exact ⟨rfl, RNext.same HH.out HG.out (Below.refl _ _)⟩
    · have t1 : decide ((x.length : Int) > 65536) = false := by rw [decide_eq_false_iff_not]; omega
      have hfl := frameB_len 0 x
      have hfr := rFrame_any ((0 : Nat) : Int) x w (by omega) (by omega)
      rw [frameR_ok 0 x (by omega), show ((0 : Nat) : Int) = 0 from rfl] at hfr
      obtain ⟨RS, hRS⟩ : ∃ y, y = replace s g.name (frameB 0 x) := ⟨_, rfl⟩
      have e1 : g.reset s x = if RS.2 = 0 then (RS.1, { g with n := 1, size := (frameB 0 x).length, dead := false }, 0) else (RS.1, { g with dead := true }, RS.2) := by
        rw [hRS]; unfold Lg.reset; rw [hdd]; simp only [Bool.false_eq_true, if_false, hbig]
      rw [replace_eq] at hRS
      have hw1 := append_wt2 s (g.name ++ sfx) (frameB 0 x)
      have hap := fun (W : World) (hb : Below w.heap.size w W) => rappend_any W d s F R (g.name ++ sfx) (frameB 0 x) (h.below hb) (by simp [sfx]; omega) (by omega) h.ok.cap1 (by omega) (by omega)
      have hns : (g.name ++ sfx).length ≤ 1000 := by simp [sfx]; omega
      have hA1 := cat_sfx g.name (by omega)
      have hfs := bstr_size (frameB 0 x)
      generalize hF0 : frameB 0 x = FB at *
      generalize hA : s.append (g.name ++ sfx) FB = A at *
      have HA := Bx.mk hA
      clear hF0 hA
      have HE := Bx.mk e1
      have HRS := Bx.mk hRS
      have HFR := Lib.hid hfr
      have HDD := Bx.mk hdd
      have HW1 := Lib.hid (show A.1.ops.length ≤ 1001 ∧ A.1.wt ≤ 1100000 from ⟨by omega, by omega⟩)
      have HNS := Lib.hid hns
      generalize hX : bstr x = X at *
      generalize hFS : bstr FB = Fq at *
      generalize hNN : bstr g.name = N at *
      have HNN := Bx.mk hNN
      generalize hNX : bstr (g.name ++ sfx) = NX at *
      have HNX := Bx.mk hNX
      have HAP := Lib.hid hap
      clear hX hFS hNN hNX hap e1 hRS hfr hw1 hns hg h hl hr hlt hdd
      go_enter Tryz.func26, Tryz.ntmps26
      go_wp2_with fail
      go_at_call 53
      refine HFR.out.mono ?_
      rintro e w1 ⟨rfl, hb1⟩
      have hg1 := (hb1.block l HLT.out).trans HG.out
      have hlt1 := lt_of_block hg1
      obtain ⟨k0, k1, -, -, -, -⟩ := rlblk_cells hg1
      rw [HNN.out] at k1
      have m0 : ∀ e : Ext w1, e.out.cell? ⟨l, 0, none⟩ = some (.pointer (some ⟨d, 0, none⟩)) := fun e => (e.cell hlt1).trans k0
      have m1 : ∀ e : Ext w1, e.out.cell? ⟨l, 1, none⟩ = some (.string N) := fun e => (e.cell hlt1).trans k1
      have HB1 := Lib.hid hb1
      have HG1 := Lib.hid hg1
      clear hb1 hg1 c0 c1 c2 c3 c4 k0 k1
      go_wp2_with fail
      refine wp_region_ext_tail 10 (Ext.self w1) (by kernel_rfl) (by kernel_rfl) rfl rfl ?_
      simp only [List.take_succ_cons, List.take_zero, List.drop_succ_cons, List.drop_zero]
      repeat (go_big_quiet_step (fail))
      refine wpQuiet_nil ?_
      rintro _ ⟨e1, rfl⟩
      clear m0 m1
      go_wp2_with fail
      go_at_call 50
      refine (HAP.out e1.out (HB1.out.trans (e1.bel.mono HB1.out.size))).mono ?_
      rintro e w2 ⟨rfl, hn2⟩
      have HN2 := Lib.hid (Dk.NextR.of_below e1.bel hn2)
      clear hn2
      go_upto_if 32 with fail
      go_cut [7] (fun s7 wc => ∃ st E, s7 = .int .i64 E ∧ NextR w1 wc d st F R ∧ RS = onE E st (rep2 st g.name) ∧ st.ops.length ≤ 1003 ∧ st.wt ≤ 1100000)
      case first =>
        by_cases hq : A.2 = 0
        · have t3 : (A.2 == 0) = true := by rw [hq]; rfl
          have hw2 := Dk.sync_wt A.1
          have hsy := NextR.on HN2.out (s2 := A.1.sync.1) (Post := fun e => e = .returned (.int .i64 A.1.sync.2)) fun F' R' hr => rsync_any w2 d A.1 F' R' hr (by have := HW1.out; omega) (by have := HW1.out; omega)
          have HQ := Bx.mk (show RS = onE A.1.sync.2 A.1.sync.1 (rep2 A.1.sync.1 g.name) by rw [HRS.out]; unfold onE; rw [if_pos hq]; rfl)
          obtain ⟨k0, -, -, -, -, -⟩ := rlblk_cells (keepLR HG1.out HL.out HN2.out)
          generalize A.1.sync = Y at *
          have HSY := Lib.hid hsy
          have HW2 := Lib.hid (show Y.1.ops.length ≤ 1003 ∧ Y.1.wt ≤ 1100000 from ⟨by have := HW1.out; omega, by have := HW1.out; omega⟩)
          unfold ptr at HSY k0
          clear hsy hw2 hq
          go_wp2_with fail
          go_at_call 51
          refine HSY.out.mono ?_
          rintro e w3 ⟨rfl, hn3⟩
          have HN3 := Lib.hid hn3
          clear hn3
          go_wp2_with fail
          go_meet
          exact ⟨Y.1, Y.2, rfl, HN3.out, HQ.out, HW2.out.1, HW2.out.2⟩
        · have t3 : (A.2 == 0) = false := by rw [beq_eq_false_iff_ne]; exact hq
          have HQ := Bx.mk (show RS = onE A.2 A.1 (rep2 A.1 g.name) by rw [HRS.out]; unfold onE; rw [if_neg hq, if_neg hq])
          clear hq
          go_wp2_with fail
          go_meet
          exact ⟨A.1, A.2, rfl, HN2.out, HQ.out, by have := HW1.out; omega, HW1.out.2⟩
      case rest =>
        obtain ⟨st, E, rfl, hnx, hrs, hops, hwts⟩ := hcut
        have HNX3 := Lib.hid hnx
        have HR3 := Bx.mk hrs
        have HW3 := Lib.hid (And.intro hops hwts)
        clear hnx hrs hops hwts
        go_upto_if 39 with fail
        go_cut [7] (fun s7 wx => ∃ st E, s7 = .int .i64 E ∧ NextR w1 wx d st F R ∧ RS = onE E st st.sync ∧ st.ops.length ≤ 1004 ∧ st.wt ≤ 1100000)
        case first =>
          by_cases hq : E = 0
          · subst hq
            have hg3 := keepLR HG1.out HL.out HNX3.out
            have hlt3 := lt_of_block hg3
            obtain ⟨k0, k1, -, -, -, -⟩ := rlblk_cells hg3
            rw [HNN.out] at k1
            have hw4 := rename_wt st (g.name ++ sfx) g.name
            have m0 : ∀ e : Ext wc, e.out.cell? ⟨l, 0, none⟩ = some (.pointer (some ⟨d, 0, none⟩)) := fun e => (e.cell hlt3).trans k0
            have m1 : ∀ e : Ext wc, e.out.cell? ⟨l, 1, none⟩ = some (.string N) := fun e => (e.cell hlt3).trans k1
            have hrn := fun e : Ext wc => NextR.on (NextR.below HNX3.out e.bel) (s2 := (st.rename (g.name ++ sfx) g.name).1) (Post := fun r => r = .returned (.int .i64 (st.rename (g.name ++ sfx) g.name).2)) fun F' R' hr => rrename_any e.out d st F' R' (g.name ++ sfx) g.name hr HNS.out (by omega) (by have := HW3.out; omega) (by have := HW3.out; omega)
            have HQ := Bx.mk (show RS = onE (st.rename (g.name ++ sfx) g.name).2 (st.rename (g.name ++ sfx) g.name).1 (st.rename (g.name ++ sfx) g.name).1.sync by rw [HR3.out]; unfold onE; rw [if_pos rfl]; rfl)
            rw [HNX.out, HNN.out] at hrn
            generalize st.rename (g.name ++ sfx) g.name = Z at *
            have HRN := Lib.hid hrn
            have HW4 := Lib.hid (show Z.1.ops.length ≤ 1004 ∧ Z.1.wt ≤ 1100000 from ⟨by have := HW3.out; omega, by have := HW3.out; omega⟩)
            unfold ptr at HRN
            clear hrn hw4 k0 k1 hg3
            go_wp2_with fail
            refine wp_region_ext_tail 13 (Ext.self wc) (by kernel_rfl) (by kernel_rfl) rfl rfl ?_
            simp only [List.take_succ_cons, List.take_zero, List.drop_succ_cons, List.drop_zero]
            repeat (go_big_quiet_step (fail))
            refine wpQuiet_nil ?_
            rintro _ ⟨e2, rfl⟩
            clear m0 m1
            go_wp2_with fail
            go_at_call 52
            refine (HRN.out e2).mono ?_
            rintro e w4 ⟨rfl, hn4⟩
            have HN4 := Lib.hid hn4
            clear hn4
            go_wp2_with fail
            go_meet
            exact ⟨Z.1, Z.2, rfl, HN4.out, HQ.out, HW4.out.1, HW4.out.2⟩
          · have t3 : (E == 0) = false := by rw [beq_eq_false_iff_ne]; exact hq
            have HQ := Bx.mk (show RS = onE E st st.sync by rw [HR3.out]; unfold onE; rw [if_neg hq, if_neg hq])
            clear hq
            go_wp2_with fail
            go_meet
            exact ⟨st, E, rfl, HNX3.out, HQ.out, by have := HW3.out; omega, HW3.out.2⟩
        case rest =>
          obtain ⟨st2, E2, rfl, hnx, hrs, hops, hwts⟩ := hcut
          have HNX4 := Lib.hid hnx
          have HR4 := Bx.mk hrs
          have HW4 := Lib.hid (And.intro hops hwts)
          clear hnx hrs hops hwts
          go_upto_if 55 with fail
          go_cut [7] (fun s7 wx => s7 = .int .i64 RS.2 ∧ NextR w1 wx d RS.1 F R)
          case first =>
            by_cases hq : E2 = 0
            · subst hq
              obtain ⟨k0, -, -, -, -, -⟩ := rlblk_cells (keepLR HG1.out HL.out HNX4.out)
              have hsy := NextR.on HNX4.out (s2 := st2.sync.1) (Post := fun e => e = .returned (.int .i64 st2.sync.2)) fun F' R' hr => rsync_any wc d st2 F' R' hr (by have := HW4.out; omega) (by have := HW4.out; omega)
              have HQ := Bx.mk (show RS = st2.sync by rw [HR4.out]; unfold onE; rw [if_pos rfl])
              have HSY := Lib.hid hsy
              unfold ptr at HSY k0
              clear hsy
              go_wp2_with fail
              go_at_call 51
              refine HSY.out.mono ?_
              rintro e w5 ⟨rfl, hn5⟩
              have HN5 := Lib.hid hn5
              clear hn5
              go_wp2_with fail
              go_meet
              exact ⟨by rw [HQ.out], by rw [HQ.out]; exact HN5.out⟩
            · have t3 : (E2 == 0) = false := by rw [beq_eq_false_iff_ne]; exact hq
              have HQ := Bx.mk (show RS = (st2, E2) by rw [HR4.out]; unfold onE; rw [if_neg hq])
              clear hq
              go_wp2_with fail
              go_meet
              exact ⟨by rw [HQ.out], by rw [HQ.out]; exact HNX4.out⟩
          case rest =>
            obtain ⟨rfl, hn5⟩ := hcut
            have hgx := keepLR HG1.out HL.out hn5
            obtain ⟨g', hg'⟩ : ∃ g' : Lg, g' = { g with dead := !(RS.2 == 0) } := ⟨_, rfl⟩
            have hfd := failed_any wc l d g RS.2 hgx HDD.out
            have HN5 := Lib.hid hn5
            have HGX := Lib.hid hgx
            have HG' := Bx.mk hg'
            have HFD := Lib.hid hfd
            unfold ptr at HFD
            clear hn5 hgx hg' hfd
            go_wp2_with fail
            go_at_call 54
            refine HFD.out.mono ?_
            rintro e w6 ⟨rfl, hw6⟩
            have hg6 : w6.heap[l]? = some (rlblk g' d) := by rw [hw6, HG'.out]; exact rlblk_dead HGX.out _
            have HN6 : Hid (RNext w1 w6 d l RS.1 g' F R) := Lib.hid (RNext.of HN5.out HL.out HR.out (by have := HLT.out; have := HB1.out.size; omega) (w' := w6) (by rw [hw6]; exact fr_one _ _ _ _) hg6)
            obtain ⟨-, -, k2, k3, -, kf⟩ := rlblk_cells hg6
            have f2 := kf 2
            have f3 := kf 3
            have hl6 := lt_of_block hg6
            have HG6 := Lib.hid hg6
            clear hg6 hw6 kf
            by_cases hq : RS.2 = 0
            · have t3 : (RS.2 == 0) = true := by rw [hq]; rfl
              have HE2 := Bx.mk (show g.reset s x = (RS.1, { g with n := 1, size := FB.length, dead := false }, 0) by rw [HE.out, if_pos hq])
              have HQ := Bx.mk hq
              clear hq
              go_wp2_with fail
              go_ret
              rw [HE2.out, HQ.out]
              refine ⟨rfl, RNext.of_below HB1.out ?_⟩
              have hfin : RNext w1 ((w6.setCell ⟨l, 2, none⟩ (.int .i64 ((1 : Nat) : Int))).setCell ⟨l, 3, none⟩ (.int .i64 ((FB.length : Nat) : Int))) d l RS.1 { g' with n := 1, size := FB.length } F R :=
                HN6.out.write HL.out HR.out (by have := HLT.out; have := HB1.out.size; omega) (fr_two _ _ _ _ _ _) (rlblk_grown HG6.out _ _)
              rw [HG'.out, HQ.out, show ((FB.length : Nat) : Int) = (x.length : Int) + 8 from by omega] at hfin
              exact hfin
            · have t3 : (RS.2 == 0) = false := by rw [beq_eq_false_iff_ne]; exact hq
              have HE2 := Bx.mk (show g.reset s x = (RS.1, { g with dead := true }, RS.2) by rw [HE.out, if_neg hq])
              have HQ := Bx.mk t3
              clear hq
              go_wp2_with fail
              go_ret
              rw [HE2.out]
              refine ⟨rfl, RNext.of_below HB1.out ?_⟩
              have := HN6.out
              rw [HG'.out, HQ.out] at this
              exact this
end Go.Proofs.YtbfgkcgnhgfkmaaGreat.Wl
