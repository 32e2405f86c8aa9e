/-
  NewDisk, Sync, Read, Fuse of the reference's disk.
-/
import Derived.Test.YtbfgkcgnhgfkmaaDkRAdd
import Derived.Test.YtbfgkcgnhgfkmaaDkOpsC
namespace Go.Proofs.Ytbfgkcgnhgfkmaa.Dk
open Go Go.Maps Go.RowKit Go.Proofs.Ytbfgkcgnhgfkmaa.Slc
set_option linter.unusedVariables false
set_option linter.unusedSimpArgs false

theorem rnew_any (cap : Int) (w : World) (hc : cap ≤ 9223372036854775807) :
    Calls Try.prog 27 #[.int .i64 cap] w fun e w' => e = .returned (ptr w.heap.size) ∧ RepR w' w.heap.size (St.new cap) (fun k => k = w.heap.size) (fun _ => False) ∧ Below w.heap.size w w' := by
  have fin : ∀ m : Int, m = max cap 0 → RepR (w.alloc (rblk m (.slice none 0 0) (.slice none 0 0) (-1) false)) w.heap.size (St.new cap) (fun k => k = w.heap.size) (fun _ => False) ∧ Below w.heap.size w (w.alloc (rblk m (.slice none 0 0) (.slice none 0 0) (-1) false)) := by
    intro m hm
    subst hm
    refine ⟨⟨St.Ok.new cap hc, ⟨_, _, heap_alloc_new _ _, Rd.nil _, (fun k q => by cases q), Own.nil _ _, (fun k q => by cases q)⟩, rfl, fun k q => by subst q; simp, fun k q => q.elim, fun k _ q => q⟩, (Below.refl _ _).alloc (Nat.le_refl _) _⟩
  have HF := Lib.hid fin
  clear fin
  unfold ptr
  have HM := Lib.hid (HF.out _ rfl)
  go_enter Try.func27, Try.ntmps27
  go_wp2
  go_ret
  exact ⟨rfl, HM.out⟩

/-- the disk's block alone has turned -/
theorem rrep_set {w w' : World} {g : Nat} {s s' : St} {F R : Nat → Prop} {fv ov : Value} (h : RepR w g s F R) (hdr : DR w g s fv ov) (hfv : Rd w encF fv s.dur) (hfR : ∀ k, fv.ownBlock = some k → R k) (hov : Own w 0 101 3 encO ov s.ops) (hoF : ∀ k, ov.ownBlock = some k → F k)
    (hg : w.grownBy w' (some g)) (hok : s'.Ok) (hd : s'.dur = s.dur) (ho : s'.ops = s.ops) (hdr' : DR w' g s' fv ov) : RepR w' g s' F R := by
  have hk : ∀ k, k < w.heap.size → k ≠ g → w'.heap[k]? = w.heap[k]? := fun k hk hn => hg.block k hk fun q => hn (Option.some.inj q)
  have hs := hg.size
  refine ⟨hok, ⟨fv, ov, hdr', ?_, hfR, ?_, hoF⟩, h.Fg, fun k q => Nat.lt_of_lt_of_le (h.Flt k q) hs, fun k q => Nat.lt_of_lt_of_le (h.Rlt k q) hs, h.dis⟩
  · rw [hd]; exact hfv.keep hs fun k q hl => hk k hl fun e => h.dis g h.Fg (e ▸ hfR k q)
  · rw [ho]; exact hov.keep fun k q hl => hk k hl (rown_ne hdr hov k q)
theorem next_rsync {w w1 w' : World} {g : Nat} {s s' : St} {F R : Nat → Prop} {u : Value} (h : RepR w g s F R) (hb : Below w.heap.size w w1) {l : Fs} (hu : Rd w1 encF u l) (hub : ∀ k, u.ownBlock = some k → R k ∨ w.heap.size ≤ k) (hg : w1.grownBy w' (some g)) (hok : s'.Ok) (hd : s'.dur = l) (ho : s'.ops = [])
    (hdr' : DR w' g s' u (.slice none 0 0)) : NextR w w' g s' F R := by
  have s1 := hb.size
  have s2 := hg.size
  have hgl := h.Flt g h.Fg
  have hug : ∀ k, u.ownBlock = some k → k ≠ g := by
    intro k q z
    subst z
    rcases hub k q with y | y
    · exact h.dis k h.Fg y
    · omega
  refine ⟨F, fun k => u.ownBlock = some k, ⟨hok, ⟨u, _, hdr', ?_, fun k q => q, ?_, fun k q => by cases q⟩, h.Fg, fun k q => by have := h.Flt k q; omega, fun k q => by have := hu.lt k q; omega, ?_⟩, fun k q => .inl q, hub, ?_⟩
  · rw [hd]; exact hu.keep s2 fun k q hl => hg.block k hl fun z => hug k q (Option.some.inj z)
  · rw [ho]; exact Own.nil _ _
  · intro k q z
    rcases hub k z with y | y
    · exact h.dis k q y
    · have := h.Flt k q; omega
  · exact (Fr.below hb).trans (Fr.grown (F := F) hg fun k hk _ => by cases hk; exact h.Fg) fun k q => .inl q

set_option maxHeartbeats 1000000 in
set_option maxRecDepth 10000 in
theorem rsync_any (w : World) (g : Nat) (s : St) (F R : Nat → Prop) (h : RepR w g s F R) (ho : s.ops.length ≤ 10000) (hwt : s.wt ≤ 100000000) :
    Calls Try.prog 41 #[ptr g] w fun e w' => e = .returned (.int .i64 s.sync.2) ∧ NextR w w' g s.sync.1 F R := by
  have HOK := Lib.hid h.ok.sync
  have HSO := Lib.hid h.ok
  have H := Lib.hid h
  have hall := all_any w g s F R h ho hwt
  obtain ⟨fv, ov, hdr, hfv, hfR, hov, hoF⟩ := h.body
  obtain ⟨oa, oc, hof, hoc⟩ := hov.rd.form
  obtain ⟨fa, fc, hff, -⟩ := hfv.form
  subst hof hff
  have hblk : w.heap[g]? = some (rblk s.cap (.slice fa s.dur.length fc) (.slice oa s.ops.length oc) s.left s.off) := hdr
  have HB := Lib.hid hblk
  obtain ⟨-, -, -, -, c4, -⟩ := rblk_cells hblk
  unfold ptr at *
  clear h hdr hblk hfv hfR hov hoF hoc
  cases hoff : s.off with
  | true =>
    have HR := Lib.hid (show s.sync = (s, 25) by unfold St.sync; rw [hoff]; rfl)
    rw [hoff] at c4
    clear hoff hall
    go_enter Try.func41, Try.ntmps41
    go_wp2
    go_ret
    exact ⟨by rw [HR.out]; rfl, by rw [HR.out]; exact NextR.same H.out (Below.refl _ _)⟩
  | false =>
    have hR : s.sync = (({ s with dur := s.files, ops := [] } : St).spend, 0) := by unfold St.sync; rw [hoff]; rfl
    have hok : (({ s with dur := s.files, ops := [] } : St).spend).Ok := by have := HOK.out; rwa [hR] at this
    have HR := Lib.hid hR
    have HOK2 := Lib.hid hok
    rw [hoff] at c4
    clear hoff hR hok
    go_enter Try.func41, Try.ntmps41
    go_wp2_with fail
    go_at_call 78
    refine hall.mono ?_
    rintro e w1 ⟨u, rfl, hu, hub, hb⟩
    have hb1 := (hb.block g (lt_of_block HB.out)).trans HB.out
    obtain ⟨-, z1, z2, -, -, zf⟩ := rblk_cells hb1
    have hb2 : (w1.setCell ⟨g, 1, none⟩ u).heap[g]? = some (rblk s.cap u (.slice oa s.ops.length oc) s.left s.off) := by
      unfold rblk at hb1; rw [blk_set 1 u hb1]; rfl
    have hb3 : DR ((w1.setCell ⟨g, 1, none⟩ u).setCell ⟨g, 2, none⟩ (.slice none 0 0)) g { s with dur := s.files, ops := [] } u (.slice none 0 0) := by
      unfold DR; unfold rblk at hb2; rw [blk_set 2 _ hb2]; rfl
    obtain ⟨-, -, y2, -, -, yf⟩ := rblk_cells hb2
    have zf1 := zf 1
    have yf2 := yf 2
    have hsp := spend_any g _ _ _ _ hb3 HSO.out.left1
    have hg3 : w1.grownBy ((w1.setCell ⟨g, 1, none⟩ u).setCell ⟨g, 2, none⟩ (.slice none 0 0)) (some g) := grown_trans (grown_set w1 g 1 u) (grown_set _ g 2 _)
    have HFIN := Lib.hid (fun (w4 : World) (hdr4 : DR w4 g (({ s with dur := s.files, ops := [] } : St).spend) u (.slice none 0 0)) (hg4 : ((w1.setCell ⟨g, 1, none⟩ u).setCell ⟨g, 2, none⟩ (.slice none 0 0)).grownBy w4 (some g)) =>
      next_rsync H.out hb hu hub (grown_trans hg3 hg4) HOK2.out (St.spend_ops _).2.1 (St.spend_ops _).1 hdr4)
    obtain ⟨ua, uc, huf, -⟩ := hu.form
    subst huf
    clear hu hub hb hb1 hb2 hb3 zf yf hg3 hall c4
    go_wp2_with fail
    go_at_call 80
    refine hsp.mono ?_
    rintro e w4 ⟨rfl, hdr4, hg4⟩
    have HM := Lib.hid (HFIN.out w4 hdr4 hg4)
    clear hdr4 hg4 hsp
    go_wp2
    go_ret
    exact ⟨by rw [HR.out]; rfl, by rw [HR.out]; exact HM.out⟩

set_option maxHeartbeats 1000000 in
set_option maxRecDepth 10000 in
theorem rread_any (w : World) (g : Nat) (s : St) (F R : Nat → Prop) (n : B) (h : RepR w g s F R) (hn : n.length ≤ 1000) (ho : s.ops.length ≤ 10000) (hwt : s.wt ≤ 100000000) :
    Calls Try.prog 60 #[ptr g, .string (bstr n)] w fun e w' => e = .returned (rdV (s.read n)) ∧ Below w.heap.size w w' := by
  have HSO := Lib.hid h.ok
  have hall := all_any w g s F R h ho hwt
  obtain ⟨fv, ov, hdr, hfv, hfR, hov, hoF⟩ := h.body
  have hblk : w.heap[g]? = some (rblk s.cap fv ov s.left s.off) := hdr
  obtain ⟨-, -, -, -, c4, -⟩ := rblk_cells hblk
  have hval := rvalid_any n w (by omega)
  have HN := Lib.hid bstr_nil
  unfold ptr at *
  clear h hdr hblk hfv hfR hov hoF
  cases hoff : s.off with
  | true =>
    have HR := Lib.hid (show s.read n = ([], 25) by unfold St.read; rw [hoff]; rfl)
    rw [hoff] at c4
    clear hoff hall hval
    generalize bstr n = N at *
    go_enter Try.func60, Try.ntmps60
    go_wp2
    go_ret2
    exact ⟨by rw [HR.out]; rfl, Below.refl _ _⟩
  | false =>
    rw [hoff] at c4
    cases hv : okName n with
    | false =>
      have HR := Lib.hid (show s.read n = ([], 14) by unfold St.read; rw [hoff, hv]; rfl)
      rw [hv] at hval
      clear hoff hv hall
      generalize bstr n = N at *
      go_enter Try.func60, Try.ntmps60
      go_wp2_with (go_at_call 77; refine hval.mono ?_; rintro e w' ⟨rfl, rfl⟩)
      go_ret2
      exact ⟨by rw [HR.out]; rfl, Below.refl _ _⟩
    | true =>
      rw [hv] at hval
      have HWH := Lib.hid (fun (w1 : World) (u : Value) (hu : Rd w1 encF u s.files) => where_any u s.files n w1 hu (by have := HSO.out.cnt'; omega))
      cases hh : has s.files n with
      | false =>
        have hg : get s.files n = none := by simpa [has] using hh
        have HR := Lib.hid (show s.read n = ([], 23) by unfold St.read; rw [hoff, hv, hg]; rfl)
        have HI := Lib.hid (whI_no hh)
        clear hoff hv hh hg
        generalize bstr n = N at *
        go_enter Try.func60, Try.ntmps60
        go_wp2_with fail
        go_at_call 77
        refine hval.mono ?_
        rintro e w' ⟨rfl, rfl⟩
        go_wp2_with fail
        go_at_call 78
        refine hall.mono ?_
        rintro e w1 ⟨u, rfl, hu, hub, hb⟩
        have hwh := HWH.out w1 u hu
        rw [HI.out] at hwh
        have HB := Lib.hid hb
        obtain ⟨ua, uc, huf, -⟩ := hu.form
        subst huf
        clear hu hub hb hall c4
        go_wp2_with fail
        go_at_call 79
        refine hwh.mono ?_
        rintro e w' ⟨rfl, rfl⟩
        clear hwh
        go_wp2
        go_ret2
        exact ⟨by rw [HR.out]; rfl, HB.out⟩
      | true =>
        obtain ⟨d, hd⟩ : ∃ d, get s.files n = some d := Option.isSome_iff_exists.1 hh
        have HR := Lib.hid (show s.read n = (d, 0) by unfold St.read; rw [hoff, hv, hd]; rfl)
        have hiw := (wh_lt s.files n).1 hh
        have HAT := Lib.hid (wh_at s.files n hiw)
        have HI := Lib.hid (whI_yes hh)
        have HD := Lib.hid hd
        obtain ⟨i, hii⟩ : ∃ i, wh s.files n = i := ⟨_, rfl⟩
        rw [hii] at HI
        have hi : i < s.files.length := by omega
        have HLI := Lib.hid (show (s.files[i]'hi).2 = d from by
          subst hii
          have := HAT.out.2
          rw [HD.out] at this
          exact (Option.some.inj this).symm)
        clear hoff hv hh hd hii hiw HAT
        generalize bstr n = N at *
        go_enter Try.func60, Try.ntmps60
        go_wp2_with fail
        go_at_call 77
        refine hval.mono ?_
        rintro e w' ⟨rfl, rfl⟩
        go_wp2_with fail
        go_at_call 78
        refine hall.mono ?_
        rintro e w1 ⟨u, rfl, hu, hub, hb⟩
        have hwh := HWH.out w1 u hu
        rw [HI.out] at hwh
        have HB := Lib.hid hb
        obtain ⟨b', o', c', hv', -, hlt', hc⟩ := hu.cells encF_ok (by omega)
        have hx := hc w1 (fun _ _ => rfl) i hi 1 _ (by omega) rfl
        rw [show o' + (i * 2 + 1) = o' + i * 2 + 1 by omega, HLI.out] at hx
        subst hv'
        have t0 : decide ((i : Int) < 0) = false := by simp
        clear hu hub hb hall c4 hc
        generalize hDD : bstr d = DD at *
        have HDD := Lib.hid hDD
        clear hDD
        go_wp2_with fail
        go_at_call 79
        refine hwh.mono ?_
        rintro e w' ⟨rfl, rfl⟩
        clear hwh
        go_wp2
        go_ret2
        exact ⟨by rw [HR.out]; unfold rdV; rw [HDD.out]; rfl, HB.out⟩

set_option maxHeartbeats 1000000 in
theorem rfuse_any (w : World) (g : Nat) (s : St) (F R : Nat → Prop) (n : Int) (h : RepR w g s F R) (hn0 : -9223372036854775808 ≤ n) (hn : n ≤ 9223372036854775807) :
    Calls Try.prog 57 #[ptr g, .int .i64 n] w fun e w' => e = .returned (.tuple #[]) ∧ NextR w w' g (s.fuse n) F R := by
  obtain ⟨fv, ov, hdr, hfv, hfR, hov, hoF⟩ := h.body
  have HREP := Lib.hid (fun (w' : World) (s' : St) (hg : w.grownBy w' (some g)) (hok : s'.Ok) (hd : s'.dur = s.dur) (ho : s'.ops = s.ops) (hdr' : DR w' g s' fv ov) => rrep_set h hdr hfv hfR hov hoF hg hok hd ho hdr')
  have HNX := Lib.hid (show ∀ (w' : World) (s' : St), w.grownBy w' (some g) → RepR w' g s' F R → NextR w w' g s' F R from fun w' s' hg hr => ⟨F, R, hr, fun k q => .inl q, fun k q => .inl q, Fr.grown hg fun k hk _ => by cases hk; exact h.Fg⟩)
  have hblk : w.heap[g]? = some (rblk s.cap fv ov s.left s.off) := hdr
  have HOK := Lib.hid (h.ok.fuse n hn)
  have H := Lib.hid h
  obtain ⟨-, -, -, c3, c4, hfr⟩ := rblk_cells hblk
  unfold ptr
  cases hoff : s.off with
  | true =>
    have HR := Lib.hid (show s.fuse n = s by unfold St.fuse; rw [hoff]; rfl)
    rw [hoff] at c4
    clear hoff hblk h hdr hfv hfR hov hoF hfr
    go_enter Try.func57, Try.ntmps57
    go_wp2
    refine bodyPost_ret (results_none rfl _ _ _) rfl ?_
    exact ⟨rfl, by rw [HR.out]; exact NextR.same H.out (Below.refl _ _)⟩
  | false =>
    have HR := Lib.hid (show s.fuse n = { s with left := max n (-1) } by unfold St.fuse; rw [hoff]; rfl)
    have hb1 : (w.setCell ⟨g, 3, none⟩ (.int .i64 (max n (-1)))).heap[g]? = some (rblk s.cap fv ov (max n (-1)) s.off) := by
      unfold rblk at hblk; rw [blk_set 3 _ hblk]; rfl
    have hb2 : ((w.setCell ⟨g, 3, none⟩ (.int .i64 (max n (-1)))).setCell ⟨g, 4, none⟩ (.bool (n == 0))).heap[g]? = some (rblk s.cap fv ov (max n (-1)) (n == 0)) := by
      unfold rblk at hb1; rw [blk_set 4 _ hb1]; rfl
    have hg2 : w.grownBy ((w.setCell ⟨g, 3, none⟩ (.int .i64 (max n (-1)))).setCell ⟨g, 4, none⟩ (.bool (n == 0))) (some g) := grown_trans (grown_set w g 3 _) (grown_set _ g 4 _)
    obtain ⟨-, -, -, -, y4, yf⟩ := rblk_cells hb1
    have zf3 := hfr 3
    have yf4 := yf 4
    have hdr2 : DR ((w.setCell ⟨g, 3, none⟩ (.int .i64 (max n (-1)))).setCell ⟨g, 4, none⟩ (.bool (n == 0))) g (s.fuse n) fv ov := by
      unfold DR
      rw [hb2, HR.out]
      have e : (n == 0) = decide (max n (-1) = 0) := by
        by_cases z : n = 0
        · subst z; rfl
        · rw [beq_eq_false_iff_ne.2 z, decide_eq_false]; omega
      simp only [St.off, e]
    have HM := Lib.hid (HNX.out _ (s.fuse n) hg2 (HREP.out _ (s.fuse n) hg2 HOK.out (by rw [HR.out]) (by rw [HR.out]) hdr2))
    rw [hoff] at c4
    rw [hoff] at y4
    clear hoff hblk hb1 hb2 hg2 hfr yf hdr2 h hdr hfv hfR hov hoF
    go_enter Try.func57, Try.ntmps57
    go_wp2
    go_end0
    exact ⟨rfl, HM.out⟩

end Go.Proofs.Ytbfgkcgnhgfkmaa.Dk
