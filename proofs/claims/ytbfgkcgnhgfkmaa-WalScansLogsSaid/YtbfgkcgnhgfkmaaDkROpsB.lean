/-
  Rename, Remove of the reference's disk. (Written by wip/gen/gen_rops.py.)
-/
import Derived.Test.YtbfgkcgnhgfkmaaDkRAdd
namespace Go.Proofs.Ytbfgkcgnhgfkmaa.Dk
open Go Go.Maps Go.RowKit Go.Proofs.Ytbfgkcgnhgfkmaa.Slc
set_option linter.unusedVariables false
set_option linter.unusedSimpArgs false

set_option maxHeartbeats 2000000 in
set_option maxRecDepth 10000 in
theorem rrename_any (w : World) (g : Nat) (s : St) (F R : Nat → Prop) (n d : B) (h : RepR w g s F R) (hn : n.length ≤ 1000) (hd : d.length ≤ 1000) (ho : s.ops.length ≤ 10000) (hwt : s.wt ≤ 100000000) :
    Calls Try.prog 69 #[ptr g, .string (bstr n), .string (bstr d)] w fun e w' => e = .returned (.int .i64 (s.rename n d).2) ∧ NextR w w' g (s.rename n d).1 F R := by
  have HOK := Lib.hid (h.ok.rename n d)
  have HSO := Lib.hid h.ok
  have H := Lib.hid h
  obtain ⟨i0, hi0, hz0, hz1, hz2⟩ := info_parts info_op
  have hall := all_any w g s F R h ho hwt
  obtain ⟨fv, ov, hdr, hfv, hfR, hov, hoF⟩ := h.body
  obtain ⟨oa, oc, hof, hoc⟩ := hov.rd.form
  subst hof
  have hblk : w.heap[g]? = some (rblk s.cap fv (.slice oa s.ops.length oc) s.left s.off) := hdr
  have HDR := Lib.hid hdr
  have HB := Lib.hid hblk
  have HFV := Lib.hid hfv
  have HFR := Lib.hid hfR
  have HOV := Lib.hid hov
  have HOF := Lib.hid hoF
  have HO := Lib.hid ho
  obtain ⟨c0, -, -, -, c4, -⟩ := rblk_cells hblk
  have hval := rvalid_any n w (by omega)
  have hval2 := rvalid_any d w (by omega)
  unfold ptr at *
  clear h hdr hblk hfv hfR hov hoF hoc
  cases hoff : s.off with
  | true =>
    have HR := Lib.hid (show s.rename n d = (s, 25) by unfold St.rename; rw [hoff]; rfl)
    rw [hoff] at c4
    clear hoff hval hval2 hall
    go_enter Try.func69, Try.ntmps69
    go_wp2
    go_ret
    exact ⟨by rw [HR.out]; rfl, by rw [HR.out]; exact NextR.same H.out (Below.refl _ _)⟩
  | false =>
    rw [hoff] at c4
    cases hv : okName n with
    | false =>
      have HR := Lib.hid (show s.rename n d = (s, 14) by unfold St.rename; rw [hoff, hv]; rfl)
      rw [hv] at hval
      clear hoff hv hval2 hall
      go_enter Try.func69, Try.ntmps69
      go_wp2_with (go_at_call 77; refine hval.mono ?_; rintro e w' ⟨rfl, rfl⟩)
      go_ret
      exact ⟨by rw [HR.out]; rfl, by rw [HR.out]; exact NextR.same H.out (Below.refl _ _)⟩
    | true =>
      rw [hv] at hval
      cases hv2 : okName d with
      | false =>
        have HR := Lib.hid (show s.rename n d = (s, 14) by unfold St.rename; rw [hoff, hv, hv2]; rfl)
        rw [hv2] at hval2
        clear hoff hv hv2 hall
        go_enter Try.func69, Try.ntmps69
        go_wp2_with fail
        go_at_call 77
        refine hval.mono ?_
        rintro e w' ⟨rfl, rfl⟩
        go_wp2_with fail
        go_at_call 77
        refine hval2.mono ?_
        rintro e w' ⟨rfl, rfl⟩
        go_wp2
        go_ret
        exact ⟨by rw [HR.out]; rfl, by rw [HR.out]; exact NextR.same H.out (Below.refl _ _)⟩
      | true =>
        rw [hv2] at hval2
        cases hh : has s.files n with
        | false =>
          have HR := Lib.hid (show s.rename n d = (s, 23) by unfold St.rename; rw [hoff, hv, hv2, hh]; rfl)
          have HW := Lib.hid (whI_no hh)
          clear hoff hv hv2 hh
          go_enter Try.func69, Try.ntmps69
          go_wp2_with fail
          go_at_call 77
          refine hval.mono ?_
          rintro e w' ⟨rfl, rfl⟩
          go_wp2_with fail
          go_at_call 77
          refine hval2.mono ?_
          rintro e w' ⟨rfl, rfl⟩
          go_wp2_with fail
          go_at_call 78
          refine hall.mono ?_
          rintro e w1 ⟨u, rfl, hu, hub, hb1⟩
          have HB1 := Lib.hid hb1
          have HU := Lib.hid hu
          obtain ⟨ua, uc, huf, -⟩ := hu.form
          subst huf
          clear hu hub hb1 hall
          have hwh := where_any _ s.files n w1 HU.out (by have := HSO.out.cnt'; omega)
          rw [HW.out] at hwh
          go_wp2_with fail
          go_at_call 79
          refine hwh.mono ?_
          rintro e w' ⟨rfl, rfl⟩
          clear hwh c4
          go_wp2
          go_ret
          exact ⟨by rw [HR.out]; rfl, by rw [HR.out]; exact NextR.same H.out HB1.out⟩
        | true =>
          have HR := Lib.hid (show s.rename n d = (s.add (Ch.ren n d), 0) by unfold St.rename; rw [hoff, hv, hv2, hh]; rfl)
          have HW := Lib.hid (whI_yes hh)
          clear hoff hv hv2 hh
          go_enter Try.func69, Try.ntmps69
          go_wp2_with fail
          go_at_call 77
          refine hval.mono ?_
          rintro e w' ⟨rfl, rfl⟩
          go_wp2_with fail
          go_at_call 77
          refine hval2.mono ?_
          rintro e w' ⟨rfl, rfl⟩
          go_wp2_with fail
          go_at_call 78
          refine hall.mono ?_
          rintro e w1 ⟨u, rfl, hu, hub, hb1⟩
          have HB1 := Lib.hid hb1
          have HU := Lib.hid hu
          obtain ⟨ua, uc, huf, -⟩ := hu.form
          subst huf
          clear hu hub hb1 hall
          have hwh := where_any _ s.files n w1 HU.out (by have := HSO.out.cnt'; omega)
          rw [HW.out] at hwh
          go_wp2_with fail
          go_at_call 79
          refine hwh.mono ?_
          rintro e w' ⟨rfl, rfl⟩
          clear hwh c4
          have t0 : decide (((wh s.files n : Nat) : Int) < 0) = false := by simp
          have hb1g := (HB1.out.block g (lt_of_block HB.out)).trans HB.out
          obtain ⟨-, -, d2, -, -, dfz⟩ := rblk_cells hb1g
          have HB1G := Lib.hid hb1g
          have hbx : Below w1.heap.size w1 (w1.alloc (.cells #[.int .i64 2, .string (bstr n), .string (bstr d)] 101)) := (Below.refl _ w1).alloc (Nat.le_refl _) _
          have how := (HOV.out.below HB1.out).below hbx
          have hsn : SrcV _ 3 _ 1 ([(Ch.ren n d)].flatMap encO) := src_op (c := (Ch.ren n d)) (heap_alloc_new w1 (.cells #[.int .i64 2, .string (bstr n), .string (bstr d)] 101))
          have hlen := HO.out
          have HBX := Lib.hid hbx
          clear hb1g dfz hbx
          go_wp2_with (at_builtin; refine wpList_append_any rfl _ _ _ rfl 0 101 i0 _ 3 40 und_ops hi0 hz0 hz1 hz2 rfl (by decide) _ s.ops.length (s.ops.flatMap encO) rfl how _ 1 ([(Ch.ren n d)].flatMap encO) rfl hsn ?ap1 ?ap2 (Nat.zero_le _) ?_)
          case ap1 => unfold maxLen; omega
          case ap2 => omega
          intro v3 w3 ha
          have hown := Own.apd (m := [(Ch.ren n d)]) how rfl rfl rfl rfl ha
          have hgr : w1.grownBy w3 (Value.slice oa s.ops.length oc).ownBlock := grown_trans (grown_of_below HBX.out _) ha.grown
          have hblk : v3.ownBlock = (Value.slice oa s.ops.length oc).ownBlock ∨ ∃ y, v3.ownBlock = some y ∧ w1.heap.size ≤ y := by
            rcases ha.blk with q | q
            · exact .inl q
            · exact .inr ⟨_, q, HBX.out.size⟩
          have hb3 : w3.heap[g]? = some (rblk s.cap fv (.slice oa s.ops.length oc) s.left s.off) := (hgr.block g (lt_of_block HB1G.out) (fun q => rown_ne HDR.out HOV.out g q.symm rfl)).trans HB1G.out
          obtain ⟨-, -, y2, -, -, yfz⟩ := rblk_cells hb3
          have yf2 := yfz 2
          have hdr4 : DR (w3.setCell ⟨g, 2, none⟩ v3) g { s with ops := s.ops ++ [(Ch.ren n d)] } fv v3 := by
            unfold DR
            unfold rblk at hb3
            rw [blk_set 2 v3 hb3]; rfl
          have hsp := spend_any g _ _ _ _ hdr4 HSO.out.left1
          have HNX := Lib.hid (fun (w5 : World) (hdr5 : DR w5 g (s.add (Ch.ren n d)) fv v3) (hg5 : (w3.setCell ⟨g, 2, none⟩ v3).grownBy w5 (some g)) => next_radd H.out HB1.out HDR.out HFV.out HFR.out HOF.out HOV.out hown hgr hblk (grown_trans (grown_set w3 g 2 v3) hg5) hdr5 (by have := HOK.out; rwa [HR.out] at this))
          obtain ⟨pa, pn, pc, hpf⟩ : ∃ a n c, v3 = .slice a n c := by
            obtain ⟨a, c, hq, -⟩ := hown.rd.form
            exact ⟨_, _, _, hq⟩
          subst hpf
          clear ha hown hgr hblk hb3 yfz hdr4 how hsn hlen d2
          go_wp2_with fail
          go_at_call 80
          refine hsp.mono ?_
          rintro e w5 ⟨rfl, hdr5, hg5⟩
          have HM := Lib.hid (HNX.out w5 hdr5 hg5)
          clear hdr5 hg5 hsp
          go_wp2
          go_ret
          exact ⟨by rw [HR.out]; rfl, by rw [HR.out]; exact HM.out⟩

set_option maxHeartbeats 2000000 in
set_option maxRecDepth 10000 in
theorem rremove_any (w : World) (g : Nat) (s : St) (F R : Nat → Prop) (n : B) (h : RepR w g s F R) (hn : n.length ≤ 1000) (ho : s.ops.length ≤ 10000) (hwt : s.wt ≤ 100000000) :
    Calls Try.prog 70 #[ptr g, .string (bstr n)] w fun e w' => e = .returned (.int .i64 (s.remove n).2) ∧ NextR w w' g (s.remove n).1 F R := by
  have HOK := Lib.hid (h.ok.remove n)
  have HSO := Lib.hid h.ok
  have H := Lib.hid h
  obtain ⟨i0, hi0, hz0, hz1, hz2⟩ := info_parts info_op
  have hall := all_any w g s F R h ho hwt
  obtain ⟨fv, ov, hdr, hfv, hfR, hov, hoF⟩ := h.body
  obtain ⟨oa, oc, hof, hoc⟩ := hov.rd.form
  subst hof
  have hblk : w.heap[g]? = some (rblk s.cap fv (.slice oa s.ops.length oc) s.left s.off) := hdr
  have HDR := Lib.hid hdr
  have HB := Lib.hid hblk
  have HFV := Lib.hid hfv
  have HFR := Lib.hid hfR
  have HOV := Lib.hid hov
  have HOF := Lib.hid hoF
  have HO := Lib.hid ho
  obtain ⟨c0, -, -, -, c4, -⟩ := rblk_cells hblk
  have hval := rvalid_any n w (by omega)
  unfold ptr at *
  clear h hdr hblk hfv hfR hov hoF hoc
  cases hoff : s.off with
  | true =>
    have HR := Lib.hid (show s.remove n = (s, 25) by unfold St.remove; rw [hoff]; rfl)
    rw [hoff] at c4
    clear hoff hval hall
    go_enter Try.func70, Try.ntmps70
    go_wp2
    go_ret
    exact ⟨by rw [HR.out]; rfl, by rw [HR.out]; exact NextR.same H.out (Below.refl _ _)⟩
  | false =>
    rw [hoff] at c4
    cases hv : okName n with
    | false =>
      have HR := Lib.hid (show s.remove n = (s, 14) by unfold St.remove; rw [hoff, hv]; rfl)
      rw [hv] at hval
      clear hoff hv hall
      go_enter Try.func70, Try.ntmps70
      go_wp2_with (go_at_call 77; refine hval.mono ?_; rintro e w' ⟨rfl, rfl⟩)
      go_ret
      exact ⟨by rw [HR.out]; rfl, by rw [HR.out]; exact NextR.same H.out (Below.refl _ _)⟩
    | true =>
      rw [hv] at hval
      cases hh : has s.files n with
      | false =>
        have HR := Lib.hid (show s.remove n = (s, 23) by unfold St.remove; rw [hoff, hv, hh]; rfl)
        have HW := Lib.hid (whI_no hh)
        clear hoff hv hh
        go_enter Try.func70, Try.ntmps70
        go_wp2_with fail
        go_at_call 77
        refine hval.mono ?_
        rintro e w' ⟨rfl, rfl⟩
        go_wp2_with fail
        go_at_call 78
        refine hall.mono ?_
        rintro e w1 ⟨u, rfl, hu, hub, hb1⟩
        have HB1 := Lib.hid hb1
        have HU := Lib.hid hu
        obtain ⟨ua, uc, huf, -⟩ := hu.form
        subst huf
        clear hu hub hb1 hall
        have hwh := where_any _ s.files n w1 HU.out (by have := HSO.out.cnt'; omega)
        rw [HW.out] at hwh
        go_wp2_with fail
        go_at_call 79
        refine hwh.mono ?_
        rintro e w' ⟨rfl, rfl⟩
        clear hwh c4
        go_wp2
        go_ret
        exact ⟨by rw [HR.out]; rfl, by rw [HR.out]; exact NextR.same H.out HB1.out⟩
      | true =>
        have HR := Lib.hid (show s.remove n = (s.add (Ch.rem n), 0) by unfold St.remove; rw [hoff, hv, hh]; rfl)
        have HW := Lib.hid (whI_yes hh)
        clear hoff hv hh
        go_enter Try.func70, Try.ntmps70
        go_wp2_with fail
        go_at_call 77
        refine hval.mono ?_
        rintro e w' ⟨rfl, rfl⟩
        go_wp2_with fail
        go_at_call 78
        refine hall.mono ?_
        rintro e w1 ⟨u, rfl, hu, hub, hb1⟩
        have HB1 := Lib.hid hb1
        have HU := Lib.hid hu
        obtain ⟨ua, uc, huf, -⟩ := hu.form
        subst huf
        clear hu hub hb1 hall
        have hwh := where_any _ s.files n w1 HU.out (by have := HSO.out.cnt'; omega)
        rw [HW.out] at hwh
        go_wp2_with fail
        go_at_call 79
        refine hwh.mono ?_
        rintro e w' ⟨rfl, rfl⟩
        clear hwh c4
        have t0 : decide (((wh s.files n : Nat) : Int) < 0) = false := by simp
        have hb1g := (HB1.out.block g (lt_of_block HB.out)).trans HB.out
        obtain ⟨-, -, d2, -, -, dfz⟩ := rblk_cells hb1g
        have HB1G := Lib.hid hb1g
        have hbx : Below w1.heap.size w1 (w1.alloc (.cells #[.int .i64 3, .string (bstr n), .string (bstr [])] 101)) := (Below.refl _ w1).alloc (Nat.le_refl _) _
        have how := (HOV.out.below HB1.out).below hbx
        have hsn : SrcV _ 3 _ 1 ([(Ch.rem n)].flatMap encO) := src_op (c := (Ch.rem n)) (heap_alloc_new w1 (.cells #[.int .i64 3, .string (bstr n), .string (bstr [])] 101))
        have hlen := HO.out
        have HBX := Lib.hid hbx
        clear hb1g dfz hbx
        go_wp2_with (at_builtin; refine wpList_append_any rfl _ _ _ rfl 0 101 i0 _ 3 40 und_ops hi0 hz0 hz1 hz2 rfl (by decide) _ s.ops.length (s.ops.flatMap encO) rfl how _ 1 ([(Ch.rem n)].flatMap encO) rfl hsn ?ap1 ?ap2 (Nat.zero_le _) ?_)
        case ap1 => unfold maxLen; omega
        case ap2 => omega
        intro v3 w3 ha
        have hown := Own.apd (m := [(Ch.rem n)]) how rfl rfl rfl rfl ha
        have hgr : w1.grownBy w3 (Value.slice oa s.ops.length oc).ownBlock := grown_trans (grown_of_below HBX.out _) ha.grown
        have hblk : v3.ownBlock = (Value.slice oa s.ops.length oc).ownBlock ∨ ∃ y, v3.ownBlock = some y ∧ w1.heap.size ≤ y := by
          rcases ha.blk with q | q
          · exact .inl q
          · exact .inr ⟨_, q, HBX.out.size⟩
        have hb3 : w3.heap[g]? = some (rblk s.cap fv (.slice oa s.ops.length oc) s.left s.off) := (hgr.block g (lt_of_block HB1G.out) (fun q => rown_ne HDR.out HOV.out g q.symm rfl)).trans HB1G.out
        obtain ⟨-, -, y2, -, -, yfz⟩ := rblk_cells hb3
        have yf2 := yfz 2
        have hdr4 : DR (w3.setCell ⟨g, 2, none⟩ v3) g { s with ops := s.ops ++ [(Ch.rem n)] } fv v3 := by
          unfold DR
          unfold rblk at hb3
          rw [blk_set 2 v3 hb3]; rfl
        have hsp := spend_any g _ _ _ _ hdr4 HSO.out.left1
        have HNX := Lib.hid (fun (w5 : World) (hdr5 : DR w5 g (s.add (Ch.rem n)) fv v3) (hg5 : (w3.setCell ⟨g, 2, none⟩ v3).grownBy w5 (some g)) => next_radd H.out HB1.out HDR.out HFV.out HFR.out HOF.out HOV.out hown hgr hblk (grown_trans (grown_set w3 g 2 v3) hg5) hdr5 (by have := HOK.out; rwa [HR.out] at this))
        obtain ⟨pa, pn, pc, hpf⟩ : ∃ a n c, v3 = .slice a n c := by
          obtain ⟨a, c, hq, -⟩ := hown.rd.form
          exact ⟨_, _, _, hq⟩
        subst hpf
        clear ha hown hgr hblk hb3 yfz hdr4 how hsn hlen d2
        go_wp2_with fail
        go_at_call 80
        refine hsp.mono ?_
        rintro e w5 ⟨rfl, hdr5, hg5⟩
        have HM := Lib.hid (HNX.out w5 hdr5 hg5)
        clear hdr5 hg5 hsp
        go_wp2
        go_ret
        exact ⟨by rw [HR.out]; rfl, by rw [HR.out]; exact HM.out⟩

end Go.Proofs.Ytbfgkcgnhgfkmaa.Dk
