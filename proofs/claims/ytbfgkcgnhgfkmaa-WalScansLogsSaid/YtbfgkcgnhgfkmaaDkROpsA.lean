/-
  Append of the reference's disk. (Written by wip/gen/gen_rops.py.)
-/
import Derived.Test.YtbfgkcgnhgfkmaaDkRAdd
namespace Go.Proofs.Ytbfgkcgnhgfkmaa.Dk
open Go Go.Maps Go.RowKit Go.Proofs.Ytbfgkcgnhgfkmaa.Slc
set_option linter.unusedVariables false
set_option linter.unusedSimpArgs false

set_option maxHeartbeats 2000000 in
set_option maxRecDepth 10000 in
theorem rappend_any (w : World) (g : Nat) (s : St) (F R : Nat → Prop) (n d : B) (h : RepR w g s F R) (hn : n.length ≤ 140737488355328) (hd : d.length ≤ 140737488355328) (hwt2 : s.cap ≤ 9223372036854775807) (ho : s.ops.length ≤ 10000) (hwt : s.wt ≤ 100000000) :
    Calls Try.prog 40 #[ptr g, .string (bstr n), .string (bstr d)] w fun e w' => e = .returned (.int .i64 (s.append n d).2) ∧ NextR w w' g (s.append n d).1 F R := by
  have HOK := Lib.hid (h.ok.append n d)
  have HSO := Lib.hid h.ok
  have H := Lib.hid h
  obtain ⟨i0, hi0, hz0, hz1, hz2⟩ := info_parts info_op
  have hall := all_any w g s F R h ho hwt
  obtain ⟨fv, ov, hdr, hfv, hfR, hov, hoF⟩ := h.body
  obtain ⟨oa, oc, hof, hoc⟩ := hov.rd.form
  subst hof
  have hblk : w.heap[g]? = some (rblk s.cap fv (.slice oa s.ops.length oc) s.left s.off) := hdr
  have HDR := Lib.hid hdr
  have HB := Lib.hid hblk
  have HFV := Lib.hid hfv
  have HFR := Lib.hid hfR
  have HOV := Lib.hid hov
  have HOF := Lib.hid hoF
  have HO := Lib.hid ho
  obtain ⟨c0, -, -, -, c4, -⟩ := rblk_cells hblk
  have hval := rvalid_any n w (by omega)
  unfold ptr at *
  clear h hdr hblk hfv hfR hov hoF hoc
  cases hoff : s.off with
  | true =>
    have HR := Lib.hid (show s.append n d = (s, 25) by unfold St.append; rw [hoff]; rfl)
    rw [hoff] at c4
    clear hoff hval hall
    go_enter Try.func40, Try.ntmps40
    go_wp2
    go_ret
    exact ⟨by rw [HR.out]; rfl, by rw [HR.out]; exact NextR.same H.out (Below.refl _ _)⟩
  | false =>
    rw [hoff] at c4
    cases hv : okName n with
    | false =>
      have HR := Lib.hid (show s.append n d = (s, 14) by unfold St.append; rw [hoff, hv]; rfl)
      rw [hv] at hval
      clear hoff hv hall
      go_enter Try.func40, Try.ntmps40
      go_wp2_with (go_at_call 77; refine hval.mono ?_; rintro e w' ⟨rfl, rfl⟩)
      go_ret
      exact ⟨by rw [HR.out]; rfl, by rw [HR.out]; exact NextR.same H.out (Below.refl _ _)⟩
    | true =>
      rw [hv] at hval
      have HOFF := Lib.hid hoff
      have HV := Lib.hid hv
      clear hoff hv
      go_enter Try.func40, Try.ntmps40
      go_wp2_with fail
      go_at_call 77
      refine hval.mono ?_
      rintro e w' ⟨rfl, rfl⟩
      go_wp2_with fail
      go_at_call 78
      refine hall.mono ?_
      rintro e w1 ⟨u, rfl, hu, hub, hb1⟩
      have HB1 := Lib.hid hb1
      have HU := Lib.hid hu
      obtain ⟨ua, uc, huf, -⟩ := hu.form
      subst huf
      clear hu hub hb1 hall
      have HCELL := Lib.hid (show ∀ k (hk : k < s.files.length), ∃ b o, ua = some ⟨b, o, none⟩ ∧ w1.cell? ⟨b, o + k * 2 + 1, none⟩ = some (.string (bstr (s.files[k]).2)) from fun k hk => by
        obtain ⟨b, o, c, hv, _, hlt, hc⟩ := HU.out.cells encF_ok (by omega)
        simp only [Value.slice.injEq] at hv
        have := hc w1 (fun _ _ => rfl) k hk 1 _ (by omega) rfl
        rw [show o + (k * 2 + 1) = o + k * 2 + 1 by omega] at this
        exact ⟨b, o, hv.1, this⟩)
      have HTT := Lib.hid (show total s.files ≤ 100000000 from by have := total_aps s.dur s.ops; unfold St.wt at hwt; exact Nat.le_trans this hwt)
      clear c4 hwt
      go_wp2_with fail
      go_loop [8, 9] (fun acc i => ∃ k : Nat, k ≤ s.files.length ∧ i = .int .i64 (k : Int) ∧ acc = .int .i64 (total (s.files.take k) : Nat)) (fun _ i => s.files.length - (intOf i).toNat)
      case atStart => exact ⟨0, Nat.zero_le _, rfl, rfl⟩
      case round =>
        obtain ⟨k, hk, rfl, rfl⟩ := hrel
        have hlen16 := HSO.out.cnt'
        by_cases hlt : k < s.files.length
        · obtain ⟨b', o', rfl, hx⟩ := HCELL.out k hlt
          have hsuc := total_take_succ s.files k hlt
          have hle := total_take_le s.files (k + 1)
          have htt := HTT.out
          have hsz : (bstr (s.files[k]).2).size = (s.files[k]).2.length := bstr_size _
          generalize hT : total (s.files.take k) = T at *
          generalize hD : bstr (s.files[k]).2 = DD at *
          have HSUC := Lib.hid hsuc
          rw [hsuc, ← hsz] at hle
          have q1 : IntKind.i64.wrap ((T : Int) + (DD.size : Int)) = ((T + DD.size : Nat) : Int) := by rw [IntWalk.i64_in _ (by omega)]; omega
          have HSZ := Lib.hid hsz
          clear hT hD hsuc hle htt hsz
          go_wp2
          go_round
          case rel => exact ⟨k + 1, by omega, by go_num, by rw [HSUC.out, ← HSZ.out]; rfl⟩
          case measure => simp [intOf]; omega
        · obtain rfl : k = s.files.length := by omega
          have HALL := Lib.hid (show total (s.files.take s.files.length) = total s.files by rw [List.take_length])
          have hwh := where_any _ s.files n w1 HU.out (by omega)
          have hsz : (bstr d).size = d.length := bstr_size d
          have hcap := HSO.out.cap1
          have hcap0 := HSO.out.cap0
          have htt := HTT.out
          rw [← HALL.out] at htt
          have hfit : s.fits n d.length = (!(!has s.files n && decide (16 ≤ s.files.length)) && decide ((d.length : Int) ≤ s.cap - total s.files)) := rfl
          rw [← HALL.out] at hfit
          have hb1g := (HB1.out.block g (lt_of_block HB.out)).trans HB.out
          obtain ⟨z0, -, -, -, -, -⟩ := rblk_cells hb1g
          generalize hT : total (s.files.take s.files.length) = T at *
          have q1 : IntKind.i64.wrap (s.cap - (T : Int)) = s.cap - (T : Int) := IntWalk.i64_in _ (by omega)
          have HFIT := Lib.hid hfit
          have HWH := Lib.hid hwh
          clear hT hfit hwh hb1g HCELL htt hk hlt c0
          cases hh : has s.files n with
          | true =>
            have HWH2 := Lib.hid (by have := HWH.out; rwa [whI_yes hh] at this)
            have HH := Lib.hid hh
            have t0 : decide (((wh s.files n : Nat) : Int) < 0) = false := by simp
            clear hh
            by_cases hgt : s.cap - (T : Int) < (d.length : Int)
            · have t1 : decide (s.cap - (T : Int) < ((bstr d).size : Int)) = true := by rw [hsz]; simpa using hgt
              have hfv : s.fits n d.length = false := by rw [HFIT.out]; simp [HH.out]; omega
              have HR := Lib.hid (show s.append n d = (s, 26) by unfold St.append; rw [HOFF.out, HV.out, hfv]; rfl)
              clear hfv hlen16 hcap hcap0 hsz
              go_wp2_with fail
              go_at_call 79
              refine HWH2.out.mono ?_
              rintro e w' ⟨rfl, rfl⟩
              go_wp2
              go_ret
              exact ⟨by rw [HR.out]; rfl, by rw [HR.out]; exact NextR.same H.out HB1.out⟩
            · have t1 : decide (s.cap - (T : Int) < ((bstr d).size : Int)) = false := by rw [hsz]; simpa using hgt
              have hfv : s.fits n d.length = true := by rw [HFIT.out]; simp [HH.out]; omega
              have HR := Lib.hid (show s.append n d = (s.add (Ch.app n d), 0) by unfold St.append; rw [HOFF.out, HV.out, hfv]; rfl)
              clear hfv hlen16 hcap hcap0 hsz
              go_wp2_with fail
              go_at_call 79
              refine HWH2.out.mono ?_
              rintro e w' ⟨rfl, rfl⟩
              have hb1g := (HB1.out.block g (lt_of_block HB.out)).trans HB.out
              obtain ⟨-, -, d2, -, -, dfz⟩ := rblk_cells hb1g
              have HB1G := Lib.hid hb1g
              have hbx : Below w1.heap.size w1 (w1.alloc (.cells #[.int .i64 1, .string (bstr n), .string (bstr d)] 101)) := (Below.refl _ w1).alloc (Nat.le_refl _) _
              have how := (HOV.out.below HB1.out).below hbx
              have hsn : SrcV _ 3 _ 1 ([(Ch.app n d)].flatMap encO) := src_op (c := (Ch.app n d)) (heap_alloc_new w1 (.cells #[.int .i64 1, .string (bstr n), .string (bstr d)] 101))
              have hlen := HO.out
              have HBX := Lib.hid hbx
              clear hb1g dfz hbx
              go_wp2_with (at_builtin; refine wpList_append_any rfl _ _ _ rfl 0 101 i0 _ 3 40 und_ops hi0 hz0 hz1 hz2 rfl (by decide) _ s.ops.length (s.ops.flatMap encO) rfl how _ 1 ([(Ch.app n d)].flatMap encO) rfl hsn ?ap1 ?ap2 (Nat.zero_le _) ?_)
              case ap1 => unfold maxLen; omega
              case ap2 => omega
              intro v3 w3 ha
              have hown := Own.apd (m := [(Ch.app n d)]) how rfl rfl rfl rfl ha
              have hgr : w1.grownBy w3 (Value.slice oa s.ops.length oc).ownBlock := grown_trans (grown_of_below HBX.out _) ha.grown
              have hblk : v3.ownBlock = (Value.slice oa s.ops.length oc).ownBlock ∨ ∃ y, v3.ownBlock = some y ∧ w1.heap.size ≤ y := by
                rcases ha.blk with q | q
                · exact .inl q
                · exact .inr ⟨_, q, HBX.out.size⟩
              have hb3 : w3.heap[g]? = some (rblk s.cap fv (.slice oa s.ops.length oc) s.left s.off) := (hgr.block g (lt_of_block HB1G.out) (fun q => rown_ne HDR.out HOV.out g q.symm rfl)).trans HB1G.out
              obtain ⟨-, -, y2, -, -, yfz⟩ := rblk_cells hb3
              have yf2 := yfz 2
              have hdr4 : DR (w3.setCell ⟨g, 2, none⟩ v3) g { s with ops := s.ops ++ [(Ch.app n d)] } fv v3 := by
                unfold DR
                unfold rblk at hb3
                rw [blk_set 2 v3 hb3]; rfl
              have hsp := spend_any g _ _ _ _ hdr4 HSO.out.left1
              have HNX := Lib.hid (fun (w5 : World) (hdr5 : DR w5 g (s.add (Ch.app n d)) fv v3) (hg5 : (w3.setCell ⟨g, 2, none⟩ v3).grownBy w5 (some g)) => next_radd H.out HB1.out HDR.out HFV.out HFR.out HOF.out HOV.out hown hgr hblk (grown_trans (grown_set w3 g 2 v3) hg5) hdr5 (by have := HOK.out; rwa [HR.out] at this))
              obtain ⟨pa, pn, pc, hpf⟩ : ∃ a n c, v3 = .slice a n c := by
                obtain ⟨a, c, hq, -⟩ := hown.rd.form
                exact ⟨_, _, _, hq⟩
              subst hpf
              clear ha hown hgr hblk hb3 yfz hdr4 how hsn hlen d2
              go_wp2_with fail
              go_at_call 80
              refine hsp.mono ?_
              rintro e w5 ⟨rfl, hdr5, hg5⟩
              have HM := Lib.hid (HNX.out w5 hdr5 hg5)
              clear hdr5 hg5 hsp
              go_wp2
              go_ret
              exact ⟨by rw [HR.out]; rfl, by rw [HR.out]; exact HM.out⟩
          | false =>
            have HWH2 := Lib.hid (by have := HWH.out; rwa [whI_no hh] at this)
            have HH := Lib.hid hh
            clear hh
            by_cases hge : 16 ≤ s.files.length
            · have t2 : decide (16 ≤ (s.files.length : Int)) = true := by simp; omega
              have hfv : s.fits n d.length = false := by rw [HFIT.out]; simp [HH.out]; omega
              have HR := Lib.hid (show s.append n d = (s, 26) by unfold St.append; rw [HOFF.out, HV.out, hfv]; rfl)
              clear hfv hlen16 hcap hcap0 hsz
              go_wp2_with fail
              go_at_call 79
              refine HWH2.out.mono ?_
              rintro e w' ⟨rfl, rfl⟩
              go_wp2
              go_ret
              exact ⟨by rw [HR.out]; rfl, by rw [HR.out]; exact NextR.same H.out HB1.out⟩
            · have t2 : decide (16 ≤ (s.files.length : Int)) = false := by simp; omega
              by_cases hgt : s.cap - (T : Int) < (d.length : Int)
              · have t1 : decide (s.cap - (T : Int) < ((bstr d).size : Int)) = true := by rw [hsz]; simpa using hgt
                have hfv : s.fits n d.length = false := by rw [HFIT.out]; simp [HH.out]; omega
                have HR := Lib.hid (show s.append n d = (s, 26) by unfold St.append; rw [HOFF.out, HV.out, hfv]; rfl)
                clear hfv hlen16 hcap hcap0 hsz
                go_wp2_with fail
                go_at_call 79
                refine HWH2.out.mono ?_
                rintro e w' ⟨rfl, rfl⟩
                go_wp2
                go_ret
                exact ⟨by rw [HR.out]; rfl, by rw [HR.out]; exact NextR.same H.out HB1.out⟩
              · have t1 : decide (s.cap - (T : Int) < ((bstr d).size : Int)) = false := by rw [hsz]; simpa using hgt
                have hfv : s.fits n d.length = true := by rw [HFIT.out]; simp [HH.out]; omega
                have HR := Lib.hid (show s.append n d = (s.add (Ch.app n d), 0) by unfold St.append; rw [HOFF.out, HV.out, hfv]; rfl)
                clear hfv hlen16 hcap hcap0 hsz
                go_wp2_with fail
                go_at_call 79
                refine HWH2.out.mono ?_
                rintro e w' ⟨rfl, rfl⟩
                have hb1g := (HB1.out.block g (lt_of_block HB.out)).trans HB.out
                obtain ⟨-, -, d2, -, -, dfz⟩ := rblk_cells hb1g
                have HB1G := Lib.hid hb1g
                have hbx : Below w1.heap.size w1 (w1.alloc (.cells #[.int .i64 1, .string (bstr n), .string (bstr d)] 101)) := (Below.refl _ w1).alloc (Nat.le_refl _) _
                have how := (HOV.out.below HB1.out).below hbx
                have hsn : SrcV _ 3 _ 1 ([(Ch.app n d)].flatMap encO) := src_op (c := (Ch.app n d)) (heap_alloc_new w1 (.cells #[.int .i64 1, .string (bstr n), .string (bstr d)] 101))
                have hlen := HO.out
                have HBX := Lib.hid hbx
                clear hb1g dfz hbx
                go_wp2_with (at_builtin; refine wpList_append_any rfl _ _ _ rfl 0 101 i0 _ 3 40 und_ops hi0 hz0 hz1 hz2 rfl (by decide) _ s.ops.length (s.ops.flatMap encO) rfl how _ 1 ([(Ch.app n d)].flatMap encO) rfl hsn ?ap1 ?ap2 (Nat.zero_le _) ?_)
                case ap1 => unfold maxLen; omega
                case ap2 => omega
                intro v3 w3 ha
                have hown := Own.apd (m := [(Ch.app n d)]) how rfl rfl rfl rfl ha
                have hgr : w1.grownBy w3 (Value.slice oa s.ops.length oc).ownBlock := grown_trans (grown_of_below HBX.out _) ha.grown
                have hblk : v3.ownBlock = (Value.slice oa s.ops.length oc).ownBlock ∨ ∃ y, v3.ownBlock = some y ∧ w1.heap.size ≤ y := by
                  rcases ha.blk with q | q
                  · exact .inl q
                  · exact .inr ⟨_, q, HBX.out.size⟩
                have hb3 : w3.heap[g]? = some (rblk s.cap fv (.slice oa s.ops.length oc) s.left s.off) := (hgr.block g (lt_of_block HB1G.out) (fun q => rown_ne HDR.out HOV.out g q.symm rfl)).trans HB1G.out
                obtain ⟨-, -, y2, -, -, yfz⟩ := rblk_cells hb3
                have yf2 := yfz 2
                have hdr4 : DR (w3.setCell ⟨g, 2, none⟩ v3) g { s with ops := s.ops ++ [(Ch.app n d)] } fv v3 := by
                  unfold DR
                  unfold rblk at hb3
                  rw [blk_set 2 v3 hb3]; rfl
                have hsp := spend_any g _ _ _ _ hdr4 HSO.out.left1
                have HNX := Lib.hid (fun (w5 : World) (hdr5 : DR w5 g (s.add (Ch.app n d)) fv v3) (hg5 : (w3.setCell ⟨g, 2, none⟩ v3).grownBy w5 (some g)) => next_radd H.out HB1.out HDR.out HFV.out HFR.out HOF.out HOV.out hown hgr hblk (grown_trans (grown_set w3 g 2 v3) hg5) hdr5 (by have := HOK.out; rwa [HR.out] at this))
                obtain ⟨pa, pn, pc, hpf⟩ : ∃ a n c, v3 = .slice a n c := by
                  obtain ⟨a, c, hq, -⟩ := hown.rd.form
                  exact ⟨_, _, _, hq⟩
                subst hpf
                clear ha hown hgr hblk hb3 yfz hdr4 how hsn hlen d2
                go_wp2_with fail
                go_at_call 80
                refine hsp.mono ?_
                rintro e w5 ⟨rfl, hdr5, hg5⟩
                have HM := Lib.hid (HNX.out w5 hdr5 hg5)
                clear hdr5 hg5 hsp
                go_wp2
                go_ret
                exact ⟨by rw [HR.out]; rfl, by rw [HR.out]; exact HM.out⟩

end Go.Proofs.Ytbfgkcgnhgfkmaa.Dk
