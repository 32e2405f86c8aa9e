/-
  Append of the reference's disk. (Written by wip/gen/gen_rops.py.)
-/
/-
  Rename, Remove of the reference's disk. (Written by wip/gen/gen_rops.py.)
-/
/-
  NewDisk, Sync, Read, Fuse of the reference's disk.
-/
import Derived.Test.YtbfgkcgnhgfkmaaDkRAdd
import Derived.Test.YtbfgkcgnhgfkmaaDkOpsC
namespace Go.Proofs.Ytbfgkcgnhgfkmaa.Dk
open Go Go.Maps Go.RowKit Go.Proofs.Ytbfgkcgnhgfkmaa.Slc
set_option linter.unusedVariables false
set_option linter.unusedSimpArgs false

set_option maxHeartbeats 2000000 in
set_option maxRecDepth 10000 in
theorem rappend_any (w : World) (g : Nat) (s : St) (F R : Nat → Prop) (n d : B) (h : RepR w g s F R) (hn : n.length ≤ 140737488355328) (hd : d.length ≤ 140737488355328) (hwt2 : s.cap ≤ 9223372036854775807) (ho : s.ops.length ≤ 10000) (hwt : s.wt ≤ 100000000) :
    Calls Try.prog 40 #[ptr g, .string (bstr n), .string (bstr d)] w fun e w' => e = .returned (.int .i64 (s.append n d).2) ∧ NextR w w' g (s.append n d).1 F R := by
  have HOK := Lib.hid (h.ok.append n d)
  have HSO := Lib.hid h.ok
  have H := Lib.hid h
  obtain ⟨i0, hi0, hz0, hz1, hz2⟩ := info_parts info_op
  have hall := all_any w g s F R h ho hwt
  obtain ⟨fv, ov, hdr, hfv, hfR, hov, hoF⟩ := h.body
  obtain ⟨oa, oc, hof, hoc⟩ := hov.rd.form
  subst hof
  have hblk : w.heap[g]? = some (rblk s.cap fv (.slice oa s.ops.length oc) s.left s.off) := hdr
  have HDR := Lib.hid hdr
  have HB := Lib.hid hblk
  have HFV := Lib.hid hfv
  have HFR := Lib.hid hfR
  have HOV := Lib.hid hov
  have HOF := Lib.hid hoF
  have HO := Lib.hid ho
  obtain ⟨c0, -, -, -, c4, -⟩ := rblk_cells hblk
  have hval := rvalid_any n w (by omega)
  unfold ptr at *
  clear h hdr hblk hfv hfR hov hoF hoc
  cases hoff : s.off with
  | true =>
    have HR := Lib.hid (show s.append n d = (s, 25) by unfold St.append; rw [hoff]; rfl)
    rw [hoff] at c4
    clear hoff hval hall
    go_enter Try.func40, Try.ntmps40
    go_wp2
    go_ret
    exact ⟨by rw [HR.out]; rfl, by rw [HR.out]; exact NextR.same H.out (Below.refl _ _)⟩
  | false =>
    rw [hoff] at c4
    cases hv : okName n with
    | false =>
      have HR := Lib.hid (show s.append n d = (s, 14) by unfold St.append; rw [hoff, hv]; rfl)
      rw [hv] at hval
      clear hoff hv hall
      go_enter Try.func40, Try.ntmps40
      go_wp2_with (go_at_call 77; refine hval.mono ?_; rintro e w' ⟨rfl, rfl⟩)
      go_ret
      exact ⟨by rw [HR.out]; rfl, by rw [HR.out]; exact NextR.same H.out (Below.refl _ _)⟩
    | true =>
      rw [hv] at hval
      have HOFF := Lib.hid hoff
      have HV := Lib.hid hv
      clear hoff hv
      go_enter Try.func40, Try.ntmps40
      go_wp2_with fail
      go_at_call 77
      refine hval.mono ?_
      rintro e w' ⟨rfl, rfl⟩
      go_wp2_with fail
      go_at_call 78
      refine hall.mono ?_
      rintro e w1 ⟨u, rfl, hu, hub, hb1⟩
      have HB1 := Lib.hid hb1
      have HU := Lib.hid hu
      obtain ⟨ua, uc, huf, -⟩ := hu.form
      subst huf
      clear hu hub hb1 hall
      have HCELL := Lib.hid (show ∀ k (hk : k < s.files.length), ∃ b o, ua = some ⟨b, o, none⟩ ∧ w1.cell? ⟨b, o + k * 2 + 1, none⟩ = some (.string (bstr (s.files[k]).2)) from fun k hk => by
        obtain ⟨b, o, c, hv, _, hlt, hc⟩ := HU.out.cells encF_ok (by omega)
        simp only [Value.slice.injEq] at hv
        have := hc w1 (fun _ _ => rfl) k hk 1 _ (by omega) rfl
        rw [show o + (k * 2 + 1) = o + k * 2 + 1 by omega] at this
        exact ⟨b, o, hv.1, this⟩)
      have HTT := Lib.hid (show total s.files ≤ 100000000 from by have := total_aps s.dur s.ops; unfold St.wt at hwt; exact Nat.le_trans this hwt)
      clear c4 hwt
      go_wp2_with fail
      go_loop [8, 9] (fun acc i => ∃ k : Nat, k ≤ s.files.length ∧ i = .int .i64 (k : Int) ∧ acc = .int .i64 (total (s.files.take k) : Nat)) (fun _ i => s.files.length - (intOf i).toNat)
      case atStart => exact ⟨0, Nat.zero_le _, rfl, rfl⟩
      case round =>
        obtain ⟨k, hk, rfl, rfl⟩ := hrel
        have hlen16 := HSO.out.cnt'
        by_cases hlt : k < s.files.length
        · obtain ⟨b', o', rfl, hx⟩ := HCELL.out k hlt
          have hsuc := total_take_succ s.files k hlt
          have hle := total_take_le s.files (k + 1)
          have htt := HTT.out
          have hsz : (bstr (s.files[k]).2).size = (s.files[k]).2.length := bstr_size _
          generalize hT : total (s.files.take k) = T at *
          generalize hD : bstr (s.files[k]).2 = DD at *
          have HSUC := Lib.hid hsuc
          rw [hsuc, ← hsz] at hle
          have q1 : IntKind.i64.wrap ((T : Int) + (DD.size : Int)) = ((T + DD.size : Nat) : Int) := by rw [IntWalk.i64_in _ (by omega)]; omega
          have HSZ := Lib.hid hsz
          clear hT hD hsuc hle htt hsz
          go_wp2
          go_round
          case rel => exact ⟨k + 1, by omega, by go_num, by rw [HSUC.out, ← HSZ.out]; rfl⟩
          case measure => simp [intOf]; omega
        · obtain rfl : k = s.files.length := by omega
          have HALL := Lib.hid (show total (s.files.take s.files.length) = total s.files by rw [List.take_length])
          have hwh := where_any _ s.files n w1 HU.out (by omega)
          have hsz : (bstr d).size = d.length := bstr_size d
          have hcap := HSO.out.cap1
          have hcap0 := HSO.out.cap0
          have htt := HTT.out
          rw [← HALL.out] at htt
          have hfit : s.fits n d.length = (!(!has s.files n && decide (16 ≤ s.files.length)) && decide ((d.length : Int) ≤ s.cap - total s.files)) := rfl
          rw [← HALL.out] at hfit
          have hb1g := (HB1.out.block g (lt_of_block HB.out)).trans HB.out
          obtain ⟨z0, -, -, -, -, -⟩ := rblk_cells hb1g
          generalize hT : total (s.files.take s.files.length) = T at *
          have q1 : IntKind.i64.wrap (s.cap - (T : Int)) = s.cap - (T : Int) := IntWalk.i64_in _ (by omega)
          have HFIT := Lib.hid hfit
          have HWH := Lib.hid hwh
          clear hT hfit hwh hb1g HCELL htt hk hlt c0
          cases hh : has s.files n with
          | true =>
            have HWH2 := Lib.hid (by have := HWH.out; rwa [whI_yes hh] at this)
            have HH := Lib.hid hh
            have t0 : decide (((wh s.files n : Nat) : Int) < 0) = false := by simp
            clear hh
            by_cases hgt : s.cap - (T : Int) < (d.length : Int)
            · have t1 : decide (s.cap - (T : Int) < ((bstr d).size : Int)) = true := by rw [hsz]; simpa using hgt
              have hfv : s.fits n d.length = false := by rw [HFIT.out]; simp [HH.out]; omega
              have HR := Lib.hid (show s.append n d = (s, 26) by unfold St.append; rw [HOFF.out, HV.out, hfv]; rfl)
              clear hfv hlen16 hcap hcap0 hsz
              go_wp2_with fail
              go_at_call 79
              refine HWH2.out.mono ?_
              rintro e w' ⟨rfl, rfl⟩
              go_wp2
              go_ret
              exact ⟨by rw [HR.out]; rfl, by rw [HR.out]; exact NextR.same H.out HB1.out⟩
            · have t1 : decide (s.cap - (T : Int) < ((bstr d).size : Int)) = false := by rw [hsz]; simpa using hgt
              have hfv : s.fits n d.length = true := by rw [HFIT.out]; simp [HH.out]; omega
              have HR := Lib.hid (show s.append n d = (s.add (Ch.app n d), 0) by unfold St.append; rw [HOFF.out, HV.out, hfv]; rfl)
              clear hfv hlen16 hcap hcap0 hsz
              go_wp2_with fail
              go_at_call 79
              refine HWH2.out.mono ?_
              rintro e w' ⟨rfl, rfl⟩
              have hb1g := (HB1.out.block g (lt_of_block HB.out)).trans HB.out
              obtain ⟨-, -, d2, -, -, dfz⟩ := rblk_cells hb1g
              have HB1G := Lib.hid hb1g
              have hbx : Below w1.heap.size w1 (w1.alloc (.cells #[.int .i64 1, .string (bstr n), .string (bstr d)] 101)) := (Below.refl _ w1).alloc (Nat.le_refl _) _
              have how := (HOV.out.below HB1.out).below hbx
              have hsn : SrcV _ 3 _ 1 ([(Ch.app n d)].flatMap encO) := src_op (c := (Ch.app n d)) (heap_alloc_new w1 (.cells #[.int .i64 1, .string (bstr n), .string (bstr d)] 101))
              have hlen := HO.out
              have HBX := Lib.hid hbx
              clear hb1g dfz hbx
              go_wp2_with (at_builtin; refine wpList_append_any rfl _ _ _ rfl 0 101 i0 _ 3 40 und_ops hi0 hz0 hz1 hz2 rfl (by decide) _ s.ops.length (s.ops.flatMap encO) rfl how _ 1 ([(Ch.app n d)].flatMap encO) rfl hsn ?ap1 ?ap2 (Nat.zero_le _) ?_)
              case ap1 => unfold maxLen; omega
              case ap2 => omega
              intro v3 w3 ha
              have hown := Own.apd (m := [(Ch.app n d)]) how rfl rfl rfl rfl ha
              have hgr : w1.grownBy w3 (Value.slice oa s.ops.length oc).ownBlock := grown_trans (grown_of_below HBX.out _) ha.grown
              have hblk : v3.ownBlock = (Value.slice oa s.ops.length oc).ownBlock ∨ ∃ y, v3.ownBlock = some y ∧ w1.heap.size ≤ y := by
                rcases ha.blk with q | q
                · exact .inl q
                · exact .inr ⟨_, q, HBX.out.size⟩
              have hb3 : w3.heap[g]? = some (rblk s.cap fv (.slice oa s.ops.length oc) s.left s.off) := (hgr.block g (lt_of_block HB1G.out) (fun q => rown_ne HDR.out HOV.out g q.symm rfl)).trans HB1G.out
              obtain ⟨-, -, y2, -, -, yfz⟩ := rblk_cells hb3
              have yf2 := yfz 2
              have hdr4 : DR (w3.setCell ⟨g, 2, none⟩ v3) g { s with ops := s.ops ++ [(Ch.app n d)] } fv v3 := by
                unfold DR
                unfold rblk at hb3
                rw [blk_set 2 v3 hb3]; rfl
              have hsp := spend_any g _ _ _ _ hdr4 HSO.out.left1
              have HNX := Lib.hid (fun (w5 : World) (hdr5 : DR w5 g (s.add (Ch.app n d)) fv v3) (hg5 : (w3.setCell ⟨g, 2, none⟩ v3).grownBy w5 (some g)) => next_radd H.out HB1.out HDR.out HFV.out HFR.out HOF.out HOV.out hown hgr hblk (grown_trans (grown_set w3 g 2 v3) hg5) hdr5 (by have := HOK.out; rwa [HR.out] at this))
              obtain ⟨pa, pn, pc, hpf⟩ : ∃ a n c, v3 = .slice a n c := by
                obtain ⟨a, c, hq, -⟩ := hown.rd.form
                exact ⟨_, _, _, hq⟩
              subst hpf
              clear ha hown hgr hblk hb3 yfz hdr4 how hsn hlen d2
              go_wp2_with fail
              go_at_call 80
              refine hsp.mono ?_
              rintro e w5 ⟨rfl, hdr5, hg5⟩
              have HM := Lib.hid (HNX.out w5 hdr5 hg5)
              clear hdr5 hg5 hsp
              go_wp2
              go_ret
              exact ⟨by rw [HR.out]; rfl, by rw [HR.out]; exact HM.out⟩
          | false =>
            have HWH2 := Lib.hid (by have := HWH.out; rwa [whI_no hh] at this)
            have HH := Lib.hid hh
            clear hh
            by_cases hge : 16 ≤ s.files.length
            · have t2 : decide (16 ≤ (s.files.length : Int)) = true := by simp; omega
              have hfv : s.fits n d.length = false := by rw [HFIT.out]; simp [HH.out]; omega
              have HR := Lib.hid (show s.append n d = (s, 26) by unfold St.append; rw [HOFF.out, HV.out, hfv]; rfl)
              clear hfv hlen16 hcap hcap0 hsz
              go_wp2_with fail
              go_at_call 79
              refine HWH2.out.mono ?_
              rintro e w' ⟨rfl, rfl⟩
              go_wp2
              go_ret
              exact ⟨by rw [HR.out]; rfl, by rw [HR.out]; exact NextR.same H.out HB1.out⟩
            · have t2 : decide (16 ≤ (s.files.length : Int)) = false := by simp; omega
              by_cases hgt : s.cap - (T : Int) < (d.length : Int)
              · have t1 : decide (s.cap - (T : Int) < ((bstr d).size : Int)) = true := by rw [hsz]; simpa using hgt
                have hfv : s.fits n d.length = false := by rw [HFIT.out]; simp [HH.out]; omega
                have HR := Lib.hid (show s.append n d = (s, 26) by unfold St.append; rw [HOFF.out, HV.out, hfv]; rfl)
                clear hfv hlen16 hcap hcap0 hsz
                go_wp2_with fail
                go_at_call 79
                refine HWH2.out.mono ?_
                rintro e w' ⟨rfl, rfl⟩
                go_wp2
                go_ret
                exact ⟨by rw [HR.out]; rfl, by rw [HR.out]; exact NextR.same H.out HB1.out⟩
              · have t1 : decide (s.cap - (T : Int) < ((bstr d).size : Int)) = false := by rw [hsz]; simpa using hgt
                have hfv : s.fits n d.length = true := by rw [HFIT.out]; simp [HH.out]; omega
                have HR := Lib.hid (show s.append n d = (s.add (Ch.app n d), 0) by unfold St.append; rw [HOFF.out, HV.out, hfv]; rfl)
                clear hfv hlen16 hcap hcap0 hsz
                go_wp2_with fail
                go_at_call 79
                refine HWH2.out.mono ?_
                rintro e w' ⟨rfl, rfl⟩
                have hb1g := (HB1.out.block g (lt_of_block HB.out)).trans HB.out
                obtain ⟨-, -, d2, -, -, dfz⟩ := rblk_cells hb1g
                have HB1G := Lib.hid hb1g
                have hbx : Below w1.heap.size w1 (w1.alloc (.cells #[.int .i64 1, .string (bstr n), .string (bstr d)] 101)) := (Below.refl _ w1).alloc (Nat.le_refl _) _
                have how := (HOV.out.below HB1.out).below hbx
                have hsn : SrcV _ 3 _ 1 ([(Ch.app n d)].flatMap encO) := src_op (c := (Ch.app n d)) (heap_alloc_new w1 (.cells #[.int .i64 1, .string (bstr n), .string (bstr d)] 101))
                have hlen := HO.out
                have HBX := Lib.hid hbx
                clear hb1g dfz hbx
                go_wp2_with (at_builtin; refine wpList_append_any rfl _ _ _ rfl 0 101 i0 _ 3 40 und_ops hi0 hz0 hz1 hz2 rfl (by decide) _ s.ops.length (s.ops.flatMap encO) rfl how _ 1 ([(Ch.app n d)].flatMap encO) rfl hsn ?ap1 ?ap2 (Nat.zero_le _) ?_)
                case ap1 => unfold maxLen; omega
                case ap2 => omega
                intro v3 w3 ha
                have hown := Own.apd (m := [(Ch.app n d)]) how rfl rfl rfl rfl ha
                have hgr : w1.grownBy w3 (Value.slice oa s.ops.length oc).ownBlock := grown_trans (grown_of_below HBX.out _) ha.grown
                have hblk : v3.ownBlock = (Value.slice oa s.ops.length oc).ownBlock ∨ ∃ y, v3.ownBlock = some y ∧ w1.heap.size ≤ y := by
                  rcases ha.blk with q | q
                  · exact .inl q
                  · exact .inr ⟨_, q, HBX.out.size⟩
                have hb3 : w3.heap[g]? = some (rblk s.cap fv (.slice oa s.ops.length oc) s.left s.off) := (hgr.block g (lt_of_block HB1G.out) (fun q => rown_ne HDR.out HOV.out g q.symm rfl)).trans HB1G.out
                obtain ⟨-, -, y2, -, -, yfz⟩ := rblk_cells hb3
                have yf2 := yfz 2
                have hdr4 : DR (w3.setCell ⟨g, 2, none⟩ v3) g { s with ops := s.ops ++ [(Ch.app n d)] } fv v3 := by
                  unfold DR
                  unfold rblk at hb3
                  rw [blk_set 2 v3 hb3]; rfl
                have hsp := spend_any g _ _ _ _ hdr4 HSO.out.left1
                have HNX := Lib.hid (fun (w5 : World) (hdr5 : DR w5 g (s.add (Ch.app n d)) fv v3) (hg5 : (w3.setCell ⟨g, 2, none⟩ v3).grownBy w5 (some g)) => next_radd H.out HB1.out HDR.out HFV.out HFR.out HOF.out HOV.out hown hgr hblk (grown_trans (grown_set w3 g 2 v3) hg5) hdr5 (by have := HOK.out; rwa [HR.out] at this))
                obtain ⟨pa, pn, pc, hpf⟩ : ∃ a n c, v3 = .slice a n c := by
                  obtain ⟨a, c, hq, -⟩ := hown.rd.form
                  exact ⟨_, _, _, hq⟩
                subst hpf
                clear ha hown hgr hblk hb3 yfz hdr4 how hsn hlen d2
                go_wp2_with fail
                go_at_call 80
                refine hsp.mono ?_
                rintro e w5 ⟨rfl, hdr5, hg5⟩
                have HM := Lib.hid (HNX.out w5 hdr5 hg5)
                clear hdr5 hg5 hsp
                go_wp2
                go_ret
                exact ⟨by rw [HR.out]; rfl, by rw [HR.out]; exact HM.out⟩

end Go.Proofs.Ytbfgkcgnhgfkmaa.Dk

namespace Go.Proofs.Ytbfgkcgnhgfkmaa.Dk
open Go Go.Maps Go.RowKit Go.Proofs.Ytbfgkcgnhgfkmaa.Slc
set_option linter.unusedVariables false
set_option linter.unusedSimpArgs false

set_option maxHeartbeats 2000000 in
set_option maxRecDepth 10000 in
theorem rrename_any (w : World) (g : Nat) (s : St) (F R : Nat → Prop) (n d : B) (h : RepR w g s F R) (hn : n.length ≤ 1000) (hd : d.length ≤ 1000) (ho : s.ops.length ≤ 10000) (hwt : s.wt ≤ 100000000) :
    Calls Try.prog 69 #[ptr g, .string (bstr n), .string (bstr d)] w fun e w' => e = .returned (.int .i64 (s.rename n d).2) ∧ NextR w w' g (s.rename n d).1 F R := by
  have HOK := Lib.hid (h.ok.rename n d)
  have HSO := Lib.hid h.ok
  have H := Lib.hid h
  obtain ⟨i0, hi0, hz0, hz1, hz2⟩ := info_parts info_op
  have hall := all_any w g s F R h ho hwt
  obtain ⟨fv, ov, hdr, hfv, hfR, hov, hoF⟩ := h.body
  obtain ⟨oa, oc, hof, hoc⟩ := hov.rd.form
  subst hof
  have hblk : w.heap[g]? = some (rblk s.cap fv (.slice oa s.ops.length oc) s.left s.off) := hdr
  have HDR := Lib.hid hdr
  have HB := Lib.hid hblk
  have HFV := Lib.hid hfv
  have HFR := Lib.hid hfR
  have HOV := Lib.hid hov
  have HOF := Lib.hid hoF
  have HO := Lib.hid ho
  obtain ⟨c0, -, -, -, c4, -⟩ := rblk_cells hblk
  have hval := rvalid_any n w (by omega)
  have hval2 := rvalid_any d w (by omega)
  unfold ptr at *
  clear h hdr hblk hfv hfR hov hoF hoc
  cases hoff : s.off with
  | true =>
    have HR := Lib.hid (show s.rename n d = (s, 25) by unfold St.rename; rw [hoff]; rfl)
    rw [hoff] at c4
    clear hoff hval hval2 hall
    go_enter Try.func69, Try.ntmps69
    go_wp2
    go_ret
    exact ⟨by rw [HR.out]; rfl, by rw [HR.out]; exact NextR.same H.out (Below.refl _ _)⟩
  | false =>
    rw [hoff] at c4
    cases hv : okName n with
    | false =>
      have HR := Lib.hid (show s.rename n d = (s, 14) by unfold St.rename; rw [hoff, hv]; rfl)
      rw [hv] at hval
      clear hoff hv hval2 hall
      go_enter Try.func69, Try.ntmps69
      go_wp2_with (go_at_call 77; refine hval.mono ?_; rintro e w' ⟨rfl, rfl⟩)
      go_ret
      exact ⟨by rw [HR.out]; rfl, by rw [HR.out]; exact NextR.same H.out (Below.refl _ _)⟩
    | true =>
      rw [hv] at hval
      cases hv2 : okName d with
      | false =>
        have HR := Lib.hid (show s.rename n d = (s, 14) by unfold St.rename; rw [hoff, hv, hv2]; rfl)
        rw [hv2] at hval2
        clear hoff hv hv2 hall
        go_enter Try.func69, Try.ntmps69
        go_wp2_with fail
        go_at_call 77
        refine hval.mono ?_
        rintro e w' ⟨rfl, rfl⟩
        go_wp2_with fail
        go_at_call 77
        refine hval2.mono ?_
        rintro e w' ⟨rfl, rfl⟩
        go_wp2
        go_ret
        exact ⟨by rw [HR.out]; rfl, by rw [HR.out]; exact NextR.same H.out (Below.refl _ _)⟩
      | true =>
        rw [hv2] at hval2
        cases hh : has s.files n with
        | false =>
          have HR := Lib.hid (show s.rename n d = (s, 23) by unfold St.rename; rw [hoff, hv, hv2, hh]; rfl)
          have HW := Lib.hid (whI_no hh)
          clear hoff hv hv2 hh
          go_enter Try.func69, Try.ntmps69
          go_wp2_with fail
          go_at_call 77
          refine hval.mono ?_
          rintro e w' ⟨rfl, rfl⟩
          go_wp2_with fail
          go_at_call 77
          refine hval2.mono ?_
          rintro e w' ⟨rfl, rfl⟩
          go_wp2_with fail
          go_at_call 78
          refine hall.mono ?_
          rintro e w1 ⟨u, rfl, hu, hub, hb1⟩
          have HB1 := Lib.hid hb1
          have HU := Lib.hid hu
          obtain ⟨ua, uc, huf, -⟩ := hu.form
          subst huf
          clear hu hub hb1 hall
          have hwh := where_any _ s.files n w1 HU.out (by have := HSO.out.cnt'; omega)
          rw [HW.out] at hwh
          go_wp2_with fail
          go_at_call 79
          refine hwh.mono ?_
          rintro e w' ⟨rfl, rfl⟩
          clear hwh c4
          go_wp2
          go_ret
          exact ⟨by rw [HR.out]; rfl, by rw [HR.out]; exact NextR.same H.out HB1.out⟩
        | true =>
          have HR := Lib.hid (show s.rename n d = (s.add (Ch.ren n d), 0) by unfold St.rename; rw [hoff, hv, hv2, hh]; rfl)
          have HW := Lib.hid (whI_yes hh)
          clear hoff hv hv2 hh
          go_enter Try.func69, Try.ntmps69
          go_wp2_with fail
          go_at_call 77
          refine hval.mono ?_
          rintro e w' ⟨rfl, rfl⟩
          go_wp2_with fail
          go_at_call 77
          refine hval2.mono ?_
          rintro e w' ⟨rfl, rfl⟩
          go_wp2_with fail
          go_at_call 78
          refine hall.mono ?_
          rintro e w1 ⟨u, rfl, hu, hub, hb1⟩
          have HB1 := Lib.hid hb1
          have HU := Lib.hid hu
          obtain ⟨ua, uc, huf, -⟩ := hu.form
          subst huf
          clear hu hub hb1 hall
          have hwh := where_any _ s.files n w1 HU.out (by have := HSO.out.cnt'; omega)
          rw [HW.out] at hwh
          go_wp2_with fail
          go_at_call 79
          refine hwh.mono ?_
          rintro e w' ⟨rfl, rfl⟩
          clear hwh c4
          have t0 : decide (((wh s.files n : Nat) : Int) < 0) = false := by simp
          have hb1g := (HB1.out.block g (lt_of_block HB.out)).trans HB.out
          obtain ⟨-, -, d2, -, -, dfz⟩ := rblk_cells hb1g
          have HB1G := Lib.hid hb1g
          have hbx : Below w1.heap.size w1 (w1.alloc (.cells #[.int .i64 2, .string (bstr n), .string (bstr d)] 101)) := (Below.refl _ w1).alloc (Nat.le_refl _) _
          have how := (HOV.out.below HB1.out).below hbx
          have hsn : SrcV _ 3 _ 1 ([(Ch.ren n d)].flatMap encO) := src_op (c := (Ch.ren n d)) (heap_alloc_new w1 (.cells #[.int .i64 2, .string (bstr n), .string (bstr d)] 101))
          have hlen := HO.out
          have HBX := Lib.hid hbx
          clear hb1g dfz hbx
          go_wp2_with (at_builtin; refine wpList_append_any rfl _ _ _ rfl 0 101 i0 _ 3 40 und_ops hi0 hz0 hz1 hz2 rfl (by decide) _ s.ops.length (s.ops.flatMap encO) rfl how _ 1 ([(Ch.ren n d)].flatMap encO) rfl hsn ?ap1 ?ap2 (Nat.zero_le _) ?_)
          case ap1 => unfold maxLen; omega
          case ap2 => omega
          intro v3 w3 ha
          have hown := Own.apd (m := [(Ch.ren n d)]) how rfl rfl rfl rfl ha
          have hgr : w1.grownBy w3 (Value.slice oa s.ops.length oc).ownBlock := grown_trans (grown_of_below HBX.out _) ha.grown
          have hblk : v3.ownBlock = (Value.slice oa s.ops.length oc).ownBlock ∨ ∃ y, v3.ownBlock = some y ∧ w1.heap.size ≤ y := by
            rcases ha.blk with q | q
            · exact .inl q
            · exact .inr ⟨_, q, HBX.out.size⟩
          have hb3 : w3.heap[g]? = some (rblk s.cap fv (.slice oa s.ops.length oc) s.left s.off) := (hgr.block g (lt_of_block HB1G.out) (fun q => rown_ne HDR.out HOV.out g q.symm rfl)).trans HB1G.out
          obtain ⟨-, -, y2, -, -, yfz⟩ := rblk_cells hb3
          have yf2 := yfz 2
          have hdr4 : DR (w3.setCell ⟨g, 2, none⟩ v3) g { s with ops := s.ops ++ [(Ch.ren n d)] } fv v3 := by
            unfold DR
            unfold rblk at hb3
            rw [blk_set 2 v3 hb3]; rfl
          have hsp := spend_any g _ _ _ _ hdr4 HSO.out.left1
          have HNX := Lib.hid (fun (w5 : World) (hdr5 : DR w5 g (s.add (Ch.ren n d)) fv v3) (hg5 : (w3.setCell ⟨g, 2, none⟩ v3).grownBy w5 (some g)) => next_radd H.out HB1.out HDR.out HFV.out HFR.out HOF.out HOV.out hown hgr hblk (grown_trans (grown_set w3 g 2 v3) hg5) hdr5 (by have := HOK.out; rwa [HR.out] at this))
          obtain ⟨pa, pn, pc, hpf⟩ : ∃ a n c, v3 = .slice a n c := by
            obtain ⟨a, c, hq, -⟩ := hown.rd.form
            exact ⟨_, _, _, hq⟩
          subst hpf
          clear ha hown hgr hblk hb3 yfz hdr4 how hsn hlen d2
          go_wp2_with fail
          go_at_call 80
          refine hsp.mono ?_
          rintro e w5 ⟨rfl, hdr5, hg5⟩
          have HM := Lib.hid (HNX.out w5 hdr5 hg5)
          clear hdr5 hg5 hsp
          go_wp2
          go_ret
          exact ⟨by rw [HR.out]; rfl, by rw [HR.out]; exact HM.out⟩

set_option maxHeartbeats 2000000 in
set_option maxRecDepth 10000 in
theorem rremove_any (w : World) (g : Nat) (s : St) (F R : Nat → Prop) (n : B) (h : RepR w g s F R) (hn : n.length ≤ 1000) (ho : s.ops.length ≤ 10000) (hwt : s.wt ≤ 100000000) :
    Calls Try.prog 70 #[ptr g, .string (bstr n)] w fun e w' => e = .returned (.int .i64 (s.remove n).2) ∧ NextR w w' g (s.remove n).1 F R := by
  have HOK := Lib.hid (h.ok.remove n)
  have HSO := Lib.hid h.ok
  have H := Lib.hid h
  obtain ⟨i0, hi0, hz0, hz1, hz2⟩ := info_parts info_op
  have hall := all_any w g s F R h ho hwt
  obtain ⟨fv, ov, hdr, hfv, hfR, hov, hoF⟩ := h.body
  obtain ⟨oa, oc, hof, hoc⟩ := hov.rd.form
  subst hof
  have hblk : w.heap[g]? = some (rblk s.cap fv (.slice oa s.ops.length oc) s.left s.off) := hdr
  have HDR := Lib.hid hdr
  have HB := Lib.hid hblk
  have HFV := Lib.hid hfv
  have HFR := Lib.hid hfR
  have HOV := Lib.hid hov
  have HOF := Lib.hid hoF
  have HO := Lib.hid ho
  obtain ⟨c0, -, -, -, c4, -⟩ := rblk_cells hblk
  have hval := rvalid_any n w (by omega)
  unfold ptr at *
  clear h hdr hblk hfv hfR hov hoF hoc
  cases hoff : s.off with
  | true =>
    have HR := Lib.hid (show s.remove n = (s, 25) by unfold St.remove; rw [hoff]; rfl)
    rw [hoff] at c4
    clear hoff hval hall
    go_enter Try.func70, Try.ntmps70
    go_wp2
    go_ret
    exact ⟨by rw [HR.out]; rfl, by rw [HR.out]; exact NextR.same H.out (Below.refl _ _)⟩
  | false =>
    rw [hoff] at c4
    cases hv : okName n with
    | false =>
      have HR := Lib.hid (show s.remove n = (s, 14) by unfold St.remove; rw [hoff, hv]; rfl)
      rw [hv] at hval
      clear hoff hv hall
      go_enter Try.func70, Try.ntmps70
      go_wp2_with (go_at_call 77; refine hval.mono ?_; rintro e w' ⟨rfl, rfl⟩)
      go_ret
      exact ⟨by rw [HR.out]; rfl, by rw [HR.out]; exact NextR.same H.out (Below.refl _ _)⟩
    | true =>
      rw [hv] at hval
      cases hh : has s.files n with
      | false =>
        have HR := Lib.hid (show s.remove n = (s, 23) by unfold St.remove; rw [hoff, hv, hh]; rfl)
        have HW := Lib.hid (whI_no hh)
        clear hoff hv hh
        go_enter Try.func70, Try.ntmps70
        go_wp2_with fail
        go_at_call 77
        refine hval.mono ?_
        rintro e w' ⟨rfl, rfl⟩
        go_wp2_with fail
        go_at_call 78
        refine hall.mono ?_
        rintro e w1 ⟨u, rfl, hu, hub, hb1⟩
        have HB1 := Lib.hid hb1
        have HU := Lib.hid hu
        obtain ⟨ua, uc, huf, -⟩ := hu.form
        subst huf
        clear hu hub hb1 hall
        have hwh := where_any _ s.files n w1 HU.out (by have := HSO.out.cnt'; omega)
        rw [HW.out] at hwh
        go_wp2_with fail
        go_at_call 79
        refine hwh.mono ?_
        rintro e w' ⟨rfl, rfl⟩
        clear hwh c4
        go_wp2
        go_ret
        exact ⟨by rw [HR.out]; rfl, by rw [HR.out]; exact NextR.same H.out HB1.out⟩
      | true =>
        have HR := Lib.hid (show s.remove n = (s.add (Ch.rem n), 0) by unfold St.remove; rw [hoff, hv, hh]; rfl)
        have HW := Lib.hid (whI_yes hh)
        clear hoff hv hh
        go_enter Try.func70, Try.ntmps70
        go_wp2_with fail
        go_at_call 77
        refine hval.mono ?_
        rintro e w' ⟨rfl, rfl⟩
        go_wp2_with fail
        go_at_call 78
        refine hall.mono ?_
        rintro e w1 ⟨u, rfl, hu, hub, hb1⟩
        have HB1 := Lib.hid hb1
        have HU := Lib.hid hu
        obtain ⟨ua, uc, huf, -⟩ := hu.form
        subst huf
        clear hu hub hb1 hall
        have hwh := where_any _ s.files n w1 HU.out (by have := HSO.out.cnt'; omega)
        rw [HW.out] at hwh
        go_wp2_with fail
        go_at_call 79
        refine hwh.mono ?_
        rintro e w' ⟨rfl, rfl⟩
        clear hwh c4
        have t0 : decide (((wh s.files n : Nat) : Int) < 0) = false := by simp
        have hb1g := (HB1.out.block g (lt_of_block HB.out)).trans HB.out
        obtain ⟨-, -, d2, -, -, dfz⟩ := rblk_cells hb1g
        have HB1G := Lib.hid hb1g
        have hbx : Below w1.heap.size w1 (w1.alloc (.cells #[.int .i64 3, .string (bstr n), .string (bstr [])] 101)) := (Below.refl _ w1).alloc (Nat.le_refl _) _
        have how := (HOV.out.below HB1.out).below hbx
        have hsn : SrcV _ 3 _ 1 ([(Ch.rem n)].flatMap encO) := src_op (c := (Ch.rem n)) (heap_alloc_new w1 (.cells #[.int .i64 3, .string (bstr n), .string (bstr [])] 101))
        have hlen := HO.out
        have HBX := Lib.hid hbx
        clear hb1g dfz hbx
        go_wp2_with (at_builtin; refine wpList_append_any rfl _ _ _ rfl 0 101 i0 _ 3 40 und_ops hi0 hz0 hz1 hz2 rfl (by decide) _ s.ops.length (s.ops.flatMap encO) rfl how _ 1 ([(Ch.rem n)].flatMap encO) rfl hsn ?ap1 ?ap2 (Nat.zero_le _) ?_)
        case ap1 => unfold maxLen; omega
        case ap2 => omega
        intro v3 w3 ha
        have hown := Own.apd (m := [(Ch.rem n)]) how rfl rfl rfl rfl ha
        have hgr : w1.grownBy w3 (Value.slice oa s.ops.length oc).ownBlock := grown_trans (grown_of_below HBX.out _) ha.grown
        have hblk : v3.ownBlock = (Value.slice oa s.ops.length oc).ownBlock ∨ ∃ y, v3.ownBlock = some y ∧ w1.heap.size ≤ y := by
          rcases ha.blk with q | q
          · exact .inl q
          · exact .inr ⟨_, q, HBX.out.size⟩
        have hb3 : w3.heap[g]? = some (rblk s.cap fv (.slice oa s.ops.length oc) s.left s.off) := (hgr.block g (lt_of_block HB1G.out) (fun q => rown_ne HDR.out HOV.out g q.symm rfl)).trans HB1G.out
        obtain ⟨-, -, y2, -, -, yfz⟩ := rblk_cells hb3
        have yf2 := yfz 2
        have hdr4 : DR (w3.setCell ⟨g, 2, none⟩ v3) g { s with ops := s.ops ++ [(Ch.rem n)] } fv v3 := by
          unfold DR
          unfold rblk at hb3
          rw [blk_set 2 v3 hb3]; rfl
        have hsp := spend_any g _ _ _ _ hdr4 HSO.out.left1
        have HNX := Lib.hid (fun (w5 : World) (hdr5 : DR w5 g (s.add (Ch.rem n)) fv v3) (hg5 : (w3.setCell ⟨g, 2, none⟩ v3).grownBy w5 (some g)) => next_radd H.out HB1.out HDR.out HFV.out HFR.out HOF.out HOV.out hown hgr hblk (grown_trans (grown_set w3 g 2 v3) hg5) hdr5 (by have := HOK.out; rwa [HR.out] at this))
        obtain ⟨pa, pn, pc, hpf⟩ : ∃ a n c, v3 = .slice a n c := by
          obtain ⟨a, c, hq, -⟩ := hown.rd.form
          exact ⟨_, _, _, hq⟩
        subst hpf
        clear ha hown hgr hblk hb3 yfz hdr4 how hsn hlen d2
        go_wp2_with fail
        go_at_call 80
        refine hsp.mono ?_
        rintro e w5 ⟨rfl, hdr5, hg5⟩
        have HM := Lib.hid (HNX.out w5 hdr5 hg5)
        clear hdr5 hg5 hsp
        go_wp2
        go_ret
        exact ⟨by rw [HR.out]; rfl, by rw [HR.out]; exact HM.out⟩

end Go.Proofs.Ytbfgkcgnhgfkmaa.Dk

namespace Go.Proofs.Ytbfgkcgnhgfkmaa.Dk
open Go Go.Maps Go.RowKit Go.Proofs.Ytbfgkcgnhgfkmaa.Slc
set_option linter.unusedVariables false
set_option linter.unusedSimpArgs false

theorem rnew_any (cap : Int) (w : World) (hc : cap ≤ 9223372036854775807) :
    Calls Try.prog 27 #[.int .i64 cap] w fun e w' => e = .returned (ptr w.heap.size) ∧ RepR w' w.heap.size (St.new cap) (fun k => k = w.heap.size) (fun _ => False) ∧ Below w.heap.size w w' := by
  have fin : ∀ m : Int, m = max cap 0 → RepR (w.alloc (rblk m (.slice none 0 0) (.slice none 0 0) (-1) false)) w.heap.size (St.new cap) (fun k => k = w.heap.size) (fun _ => False) ∧ Below w.heap.size w (w.alloc (rblk m (.slice none 0 0) (.slice none 0 0) (-1) false)) := by
    intro m hm
    subst hm
    refine ⟨⟨St.Ok.new cap hc, ⟨_, _, heap_alloc_new _ _, Rd.nil _, (fun k q => by cases q), Own.nil _ _, (fun k q => by cases q)⟩, rfl, fun k q => by subst q; simp, fun k q => q.elim, fun k _ q => q⟩, (Below.refl _ _).alloc (Nat.le_refl _) _⟩
  have HF := Lib.hid fin
  clear fin
  unfold ptr
  have HM := Lib.hid (HF.out _ rfl)
  go_enter Try.func27, Try.ntmps27
  go_wp2
  go_ret
  exact ⟨rfl, HM.out⟩

/-- the disk's block alone has turned -/
theorem rrep_set {w w' : World} {g : Nat} {s s' : St} {F R : Nat → Prop} {fv ov : Value} (h : RepR w g s F R) (hdr : DR w g s fv ov) (hfv : Rd w encF fv s.dur) (hfR : ∀ k, fv.ownBlock = some k → R k) (hov : Own w 0 101 3 encO ov s.ops) (hoF : ∀ k, ov.ownBlock = some k → F k)
    (hg : w.grownBy w' (some g)) (hok : s'.Ok) (hd : s'.dur = s.dur) (ho : s'.ops = s.ops) (hdr' : DR w' g s' fv ov) : RepR w' g s' F R := by
  have hk : ∀ k, k < w.heap.size → k ≠ g → w'.heap[k]? = w.heap[k]? := fun k hk hn => hg.block k hk fun q => hn (Option.some.inj q)
  have hs := hg.size
  refine ⟨hok, ⟨fv, ov, hdr', ?_, hfR, ?_, hoF⟩, h.Fg, fun k q => Nat.lt_of_lt_of_le (h.Flt k q) hs, fun k q => Nat.lt_of_lt_of_le (h.Rlt k q) hs, h.dis⟩
  · rw [hd]; exact hfv.keep hs fun k q hl => hk k hl fun e => h.dis g h.Fg (e ▸ hfR k q)
  · rw [ho]; exact hov.keep fun k q hl => hk k hl (rown_ne hdr hov k q)
theorem next_rsync {w w1 w' : World} {g : Nat} {s s' : St} {F R : Nat → Prop} {u : Value} (h : RepR w g s F R) (hb : Below w.heap.size w w1) {l : Fs} (hu : Rd w1 encF u l) (hub : ∀ k, u.ownBlock = some k → R k ∨ w.heap.size ≤ k) (hg : w1.grownBy w' (some g)) (hok : s'.Ok) (hd : s'.dur = l) (ho : s'.ops = [])
    (hdr' : DR w' g s' u (.slice none 0 0)) : NextR w w' g s' F R := by
  have s1 := hb.size
  have s2 := hg.size
  have hgl := h.Flt g h.Fg
  have hug : ∀ k, u.ownBlock = some k → k ≠ g := by
    intro k q z
    subst z
    rcases hub k q with y | y
    · exact h.dis k h.Fg y
    · omega
  refine ⟨F, fun k => u.ownBlock = some k, ⟨hok, ⟨u, _, hdr', ?_, fun k q => q, ?_, fun k q => by cases q⟩, h.Fg, fun k q => by have := h.Flt k q; omega, fun k q => by have := hu.lt k q; omega, ?_⟩, fun k q => .inl q, hub, ?_⟩
  · rw [hd]; exact hu.keep s2 fun k q hl => hg.block k hl fun z => hug k q (Option.some.inj z)
  · rw [ho]; exact Own.nil _ _
  · intro k q z
    rcases hub k z with y | y
    · exact h.dis k q y
    · have := h.Flt k q; omega
  · exact (Fr.below hb).trans (Fr.grown (F := F) hg fun k hk _ => by cases hk; exact h.Fg) fun k q => .inl q

set_option maxHeartbeats 1000000 in
set_option maxRecDepth 10000 in
theorem rsync_any (w : World) (g : Nat) (s : St) (F R : Nat → Prop) (h : RepR w g s F R) (ho : s.ops.length ≤ 10000) (hwt : s.wt ≤ 100000000) :
    Calls Try.prog 41 #[ptr g] w fun e w' => e = .returned (.int .i64 s.sync.2) ∧ NextR w w' g s.sync.1 F R := by
  have HOK := Lib.hid h.ok.sync
  have HSO := Lib.hid h.ok
  have H := Lib.hid h
  have hall := all_any w g s F R h ho hwt
  obtain ⟨fv, ov, hdr, hfv, hfR, hov, hoF⟩ := h.body
  obtain ⟨oa, oc, hof, hoc⟩ := hov.rd.form
  obtain ⟨fa, fc, hff, -⟩ := hfv.form
  subst hof hff
  have hblk : w.heap[g]? = some (rblk s.cap (.slice fa s.dur.length fc) (.slice oa s.ops.length oc) s.left s.off) := hdr
  have HB := Lib.hid hblk
  obtain ⟨-, -, -, -, c4, -⟩ := rblk_cells hblk
  unfold ptr at *
  clear h hdr hblk hfv hfR hov hoF hoc
  cases hoff : s.off with
  | true =>
    have HR := Lib.hid (show s.sync = (s, 25) by unfold St.sync; rw [hoff]; rfl)
    rw [hoff] at c4
    clear hoff hall
    go_enter Try.func41, Try.ntmps41
    go_wp2
    go_ret
    exact ⟨by rw [HR.out]; rfl, by rw [HR.out]; exact NextR.same H.out (Below.refl _ _)⟩
  | false =>
    have hR : s.sync = (({ s with dur := s.files, ops := [] } : St).spend, 0) := by unfold St.sync; rw [hoff]; rfl
    have hok : (({ s with dur := s.files, ops := [] } : St).spend).Ok := by have := HOK.out; rwa [hR] at this
    have HR := Lib.hid hR
    have HOK2 := Lib.hid hok
    rw [hoff] at c4
    clear hoff hR hok
    go_enter Try.func41, Try.ntmps41
    go_wp2_with fail
    go_at_call 78
    refine hall.mono ?_
    rintro e w1 ⟨u, rfl, hu, hub, hb⟩
    have hb1 := (hb.block g (lt_of_block HB.out)).trans HB.out
    obtain ⟨-, z1, z2, -, -, zf⟩ := rblk_cells hb1
    have hb2 : (w1.setCell ⟨g, 1, none⟩ u).heap[g]? = some (rblk s.cap u (.slice oa s.ops.length oc) s.left s.off) := by
      unfold rblk at hb1; rw [blk_set 1 u hb1]; rfl
    have hb3 : DR ((w1.setCell ⟨g, 1, none⟩ u).setCell ⟨g, 2, none⟩ (.slice none 0 0)) g { s with dur := s.files, ops := [] } u (.slice none 0 0) := by
      unfold DR; unfold rblk at hb2; rw [blk_set 2 _ hb2]; rfl
    obtain ⟨-, -, y2, -, -, yf⟩ := rblk_cells hb2
    have zf1 := zf 1
    have yf2 := yf 2
    have hsp := spend_any g _ _ _ _ hb3 HSO.out.left1
    have hg3 : w1.grownBy ((w1.setCell ⟨g, 1, none⟩ u).setCell ⟨g, 2, none⟩ (.slice none 0 0)) (some g) := grown_trans (grown_set w1 g 1 u) (grown_set _ g 2 _)
    have HFIN := Lib.hid (fun (w4 : World) (hdr4 : DR w4 g (({ s with dur := s.files, ops := [] } : St).spend) u (.slice none 0 0)) (hg4 : ((w1.setCell ⟨g, 1, none⟩ u).setCell ⟨g, 2, none⟩ (.slice none 0 0)).grownBy w4 (some g)) =>
      next_rsync H.out hb hu hub (grown_trans hg3 hg4) HOK2.out (St.spend_ops _).2.1 (St.spend_ops _).1 hdr4)
    obtain ⟨ua, uc, huf, -⟩ := hu.form
    subst huf
    clear hu hub hb hb1 hb2 hb3 zf yf hg3 hall c4
    go_wp2_with fail
    go_at_call 80
    refine hsp.mono ?_
    rintro e w4 ⟨rfl, hdr4, hg4⟩
    have HM := Lib.hid (HFIN.out w4 hdr4 hg4)
    clear hdr4 hg4 hsp
    go_wp2
    go_ret
    exact ⟨by rw [HR.out]; rfl, by rw [HR.out]; exact HM.out⟩

set_option maxHeartbeats 1000000 in
set_option maxRecDepth 10000 in
theorem rread_any (w : World) (g : Nat) (s : St) (F R : Nat → Prop) (n : B) (h : RepR w g s F R) (hn : n.length ≤ 1000) (ho : s.ops.length ≤ 10000) (hwt : s.wt ≤ 100000000) :
    Calls Try.prog 60 #[ptr g, .string (bstr n)] w fun e w' => e = .returned (rdV (s.read n)) ∧ Below w.heap.size w w' := by
  have HSO := Lib.hid h.ok
  have hall := all_any w g s F R h ho hwt
  obtain ⟨fv, ov, hdr, hfv, hfR, hov, hoF⟩ := h.body
  have hblk : w.heap[g]? = some (rblk s.cap fv ov s.left s.off) := hdr
  obtain ⟨-, -, -, -, c4, -⟩ := rblk_cells hblk
  have hval := rvalid_any n w (by omega)
  have HN := Lib.hid bstr_nil
  unfold ptr at *
  clear h hdr hblk hfv hfR hov hoF
  cases hoff : s.off with
  | true =>
    have HR := Lib.hid (show s.read n = ([], 25) by unfold St.read; rw [hoff]; rfl)
    rw [hoff] at c4
    clear hoff hall hval
    generalize bstr n = N at *
    go_enter Try.func60, Try.ntmps60
    go_wp2
    go_ret2
    exact ⟨by rw [HR.out]; rfl, Below.refl _ _⟩
  | false =>
    rw [hoff] at c4
    cases hv : okName n with
    | false =>
      have HR := Lib.hid (show s.read n = ([], 14) by unfold St.read; rw [hoff, hv]; rfl)
      rw [hv] at hval
      clear hoff hv hall
      generalize bstr n = N at *
      go_enter Try.func60, Try.ntmps60
      go_wp2_with (go_at_call 77; refine hval.mono ?_; rintro e w' ⟨rfl, rfl⟩)
      go_ret2
      exact ⟨by rw [HR.out]; rfl, Below.refl _ _⟩
    | true =>
      rw [hv] at hval
      have HWH := Lib.hid (fun (w1 : World) (u : Value) (hu : Rd w1 encF u s.files) => where_any u s.files n w1 hu (by have := HSO.out.cnt'; omega))
      cases hh : has s.files n with
      | false =>
        have hg : get s.files n = none := by simpa [has] using hh
        have HR := Lib.hid (show s.read n = ([], 23) by unfold St.read; rw [hoff, hv, hg]; rfl)
        have HI := Lib.hid (whI_no hh)
        clear hoff hv hh hg
        generalize bstr n = N at *
        go_enter Try.func60, Try.ntmps60
        go_wp2_with fail
        go_at_call 77
        refine hval.mono ?_
        rintro e w' ⟨rfl, rfl⟩
        go_wp2_with fail
        go_at_call 78
        refine hall.mono ?_
        rintro e w1 ⟨u, rfl, hu, hub, hb⟩
        have hwh := HWH.out w1 u hu
        rw [HI.out] at hwh
        have HB := Lib.hid hb
        obtain ⟨ua, uc, huf, -⟩ := hu.form
        subst huf
        clear hu hub hb hall c4
        go_wp2_with fail
        go_at_call 79
        refine hwh.mono ?_
        rintro e w' ⟨rfl, rfl⟩
        clear hwh
        go_wp2
        go_ret2
        exact ⟨by rw [HR.out]; rfl, HB.out⟩
      | true =>
        obtain ⟨d, hd⟩ : ∃ d, get s.files n = some d := Option.isSome_iff_exists.1 hh
        have HR := Lib.hid (show s.read n = (d, 0) by unfold St.read; rw [hoff, hv, hd]; rfl)
        have hiw := (wh_lt s.files n).1 hh
        have HAT := Lib.hid (wh_at s.files n hiw)
        have HI := Lib.hid (whI_yes hh)
        have HD := Lib.hid hd
        obtain ⟨i, hii⟩ : ∃ i, wh s.files n = i := ⟨_, rfl⟩
        rw [hii] at HI
        have hi : i < s.files.length := by omega
        have HLI := Lib.hid (show (s.files[i]'hi).2 = d from by
          subst hii
          have := HAT.out.2
          rw [HD.out] at this
          exact (Option.some.inj this).symm)
        clear hoff hv hh hd hii hiw HAT
        generalize bstr n = N at *
        go_enter Try.func60, Try.ntmps60
        go_wp2_with fail
        go_at_call 77
        refine hval.mono ?_
        rintro e w' ⟨rfl, rfl⟩
        go_wp2_with fail
        go_at_call 78
        refine hall.mono ?_
        rintro e w1 ⟨u, rfl, hu, hub, hb⟩
        have hwh := HWH.out w1 u hu
        rw [HI.out] at hwh
        have HB := Lib.hid hb
        obtain ⟨b', o', c', hv', -, hlt', hc⟩ := hu.cells encF_ok (by omega)
        have hx := hc w1 (fun _ _ => rfl) i hi 1 _ (by omega) rfl
        rw [show o' + (i * 2 + 1) = o' + i * 2 + 1 by omega, HLI.out] at hx
        subst hv'
        have t0 : decide ((i : Int) < 0) = false := by simp
        clear hu hub hb hall c4 hc
        generalize hDD : bstr d = DD at *
        have HDD := Lib.hid hDD
        clear hDD
        go_wp2_with fail
        go_at_call 79
        refine hwh.mono ?_
        rintro e w' ⟨rfl, rfl⟩
        clear hwh
        go_wp2
        go_ret2
        exact ⟨by rw [HR.out]; unfold rdV; rw [HDD.out]; rfl, HB.out⟩

set_option maxHeartbeats 1000000 in
theorem rfuse_any (w : World) (g : Nat) (s : St) (F R : Nat → Prop) (n : Int) (h : RepR w g s F R) (hn0 : -9223372036854775808 ≤ n) (hn : n ≤ 9223372036854775807) :
    Calls Try.prog 57 #[ptr g, .int .i64 n] w fun e w' => e = .returned (.tuple #[]) ∧ NextR w w' g (s.fuse n) F R := by
  obtain ⟨fv, ov, hdr, hfv, hfR, hov, hoF⟩ := h.body
  have HREP := Lib.hid (fun (w' : World) (s' : St) (hg : w.grownBy w' (some g)) (hok : s'.Ok) (hd : s'.dur = s.dur) (ho : s'.ops = s.ops) (hdr' : DR w' g s' fv ov) => rrep_set h hdr hfv hfR hov hoF hg hok hd ho hdr')
  have HNX := Lib.hid (show ∀ (w' : World) (s' : St), w.grownBy w' (some g) → RepR w' g s' F R → NextR w w' g s' F R from fun w' s' hg hr => ⟨F, R, hr, fun k q => .inl q, fun k q => .inl q, Fr.grown hg fun k hk _ => by cases hk; exact h.Fg⟩)
  have hblk : w.heap[g]? = some (rblk s.cap fv ov s.left s.off) := hdr
  have HOK := Lib.hid (h.ok.fuse n hn)
  have H := Lib.hid h
  obtain ⟨-, -, -, c3, c4, hfr⟩ := rblk_cells hblk
  unfold ptr
  cases hoff : s.off with
  | true =>
    have HR := Lib.hid (show s.fuse n = s by unfold St.fuse; rw [hoff]; rfl)
    rw [hoff] at c4
    clear hoff hblk h hdr hfv hfR hov hoF hfr
    go_enter Try.func57, Try.ntmps57
    go_wp2
    refine bodyPost_ret (results_none rfl _ _ _) rfl ?_
    exact ⟨rfl, by rw [HR.out]; exact NextR.same H.out (Below.refl _ _)⟩
  | false =>
    have HR := Lib.hid (show s.fuse n = { s with left := max n (-1) } by unfold St.fuse; rw [hoff]; rfl)
    have hb1 : (w.setCell ⟨g, 3, none⟩ (.int .i64 (max n (-1)))).heap[g]? = some (rblk s.cap fv ov (max n (-1)) s.off) := by
      unfold rblk at hblk; rw [blk_set 3 _ hblk]; rfl
    have hb2 : ((w.setCell ⟨g, 3, none⟩ (.int .i64 (max n (-1)))).setCell ⟨g, 4, none⟩ (.bool (n == 0))).heap[g]? = some (rblk s.cap fv ov (max n (-1)) (n == 0)) := by
      unfold rblk at hb1; rw [blk_set 4 _ hb1]; rfl
    have hg2 : w.grownBy ((w.setCell ⟨g, 3, none⟩ (.int .i64 (max n (-1)))).setCell ⟨g, 4, none⟩ (.bool (n == 0))) (some g) := grown_trans (grown_set w g 3 _) (grown_set _ g 4 _)
    obtain ⟨-, -, -, -, y4, yf⟩ := rblk_cells hb1
    have zf3 := hfr 3
    have yf4 := yf 4
    have hdr2 : DR ((w.setCell ⟨g, 3, none⟩ (.int .i64 (max n (-1)))).setCell ⟨g, 4, none⟩ (.bool (n == 0))) g (s.fuse n) fv ov := by
      unfold DR
      rw [hb2, HR.out]
      have e : (n == 0) = decide (max n (-1) = 0) := by
        by_cases z : n = 0
        · subst z; rfl
        · rw [beq_eq_false_iff_ne.2 z, decide_eq_false]; omega
      simp only [St.off, e]
    have HM := Lib.hid (HNX.out _ (s.fuse n) hg2 (HREP.out _ (s.fuse n) hg2 HOK.out (by rw [HR.out]) (by rw [HR.out]) hdr2))
    rw [hoff] at c4
    rw [hoff] at y4
    clear hoff hblk hb1 hb2 hg2 hfr yf hdr2 h hdr hfv hfR hov hoF
    go_enter Try.func57, Try.ntmps57
    go_wp2
    go_end0
    exact ⟨rfl, HM.out⟩

end Go.Proofs.Ytbfgkcgnhgfkmaa.Dk
