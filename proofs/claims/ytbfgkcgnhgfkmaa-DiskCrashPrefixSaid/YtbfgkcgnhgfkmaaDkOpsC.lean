/-
  Sync, Read, Names, Fuse, Pending of the program's disk.
-/
import Derived.Test.YtbfgkcgnhgfkmaaDkLib
namespace Go.Proofs.Ytbfgkcgnhgfkmaa.Dk
open Go Go.Maps Go.RowKit Go.Proofs.Ytbfgkcgnhgfkmaa.Slc
set_option linter.unusedVariables false
set_option linter.unusedSimpArgs false

theorem MapV.ne {w : World} {F : Nat → Prop} {v : Value} {l : Fs} {g : Nat} {o : Obj} (h : MapV w F v l) (hb : w.heap[g]? = some o) (ho : ∀ es c, o ≠ .map es c) : MapV w (fun k => F k ∧ k ≠ g) v l := by
  rcases h with h | ⟨b, rfl, hF, hown⟩
  · exact .inl h
  · refine .inr ⟨b, rfl, ⟨hF, fun q => ?_⟩, hown⟩
    subst q
    obtain ⟨D, ⟨es, cl, hm, _⟩, _⟩ := hown
    rw [hb] at hm; exact ho _ _ (Option.some.inj hm)
theorem blk_nomap {cap : Int} {dv fv pv : Value} {off fused : Bool} {fuse : Int} : ∀ es c, blk cap dv fv pv off fused fuse ≠ .map es c := fun es c h => by cases h
theorem DB.blk {w : World} {g : Nat} {s : St} {dv fv pv : Value} (h : DB w g s dv fv pv) : ∃ fuse, w.heap[g]? = some (blk s.cap dv fv pv s.off (decide (0 < s.left)) fuse) := by obtain ⟨f, h, _⟩ := h; exact ⟨f, h⟩
theorem own_ne {w : World} {g : Nat} {s : St} {dv fv pv : Value} {cs : List Cv} (hdb : DB w g s dv fv pv) (h : Own w 0 85 2 encV pv cs) : ∀ k, pv.ownBlock = some k → k ≠ g := by
  obtain ⟨fuse, hb⟩ := hdb.blk
  intro k hk q
  rcases h.2 with ⟨rfl, _⟩ | ⟨gp, cap, cur, rfl, _, hgp, _⟩
  · cases hk
  · cases hk; subst q
    unfold Dk.blk at hb; rw [hgp] at hb
    simp at hb
/-- the disk's block alone has turned -/
theorem rep_set {w w' : World} {g : Nat} {s s' : St} {F R : Nat → Prop} {dv fv pv : Value} {cs : List Cv} (h : RepP w g s F R) (hdb : DB w g s dv fv pv) (hdv : MapV w R dv s.dur) (hfv : MapV w F fv s.files) (hpv : Own w 0 85 2 encV pv cs) (hcs : Cvs w R cs s.ops) (hpF : ∀ k, pv.ownBlock = some k → F k)
    (hg : w.grownBy w' (some g)) (hok : s'.Ok) (hd : s'.dur = s.dur) (ho : s'.ops = s.ops) (hdb' : DB w' g s' dv fv pv) : RepP w' g s' F R := by
  obtain ⟨fuse, hb⟩ := hdb.blk
  have hf : s'.files = s.files := by unfold St.files; rw [hd, ho]
  have hk : ∀ k, k < w.heap.size → k ≠ g → w'.heap[k]? = w.heap[k]? := fun k hk hn => hg.block k hk fun q => hn (Option.some.inj q)
  refine ⟨hok, ⟨dv, fv, pv, cs, hdb', ?_, ?_, ?_, ?_, hpF⟩, h.Fg, fun k q => Nat.lt_of_lt_of_le (h.Flt k q) hg.size, fun k q => Nat.lt_of_lt_of_le (h.Rlt k q) hg.size, h.dis⟩
  · rw [hd]; exact hdv.keep (fun _ q => q) fun k q hl => hk k hl fun e => h.dis g h.Fg (e ▸ q)
  · rw [hf]; exact (hfv.ne hb blk_nomap).keep (fun _ q => q.1) fun k q hl => hk k hl q.2
  · exact hpv.keep fun k q hl => hk k hl (own_ne hdb hpv k q)
  · rw [ho]; exact hcs.keep (fun _ q => q) fun k q hl => hk k hl fun e => h.dis g h.Fg (e ▸ q)
/-- behind Sync: the files' copy is the durable map; nothing waits -/
theorem next_sync {w w1 w' : World} {g : Nat} {s : St} {F R : Nat → Prop} {dv fv pv u : Value} (h : RepP w g s F R) (hdb : DB w g s dv fv pv) (hfv : MapV w F fv s.files)
    (hb : Below w.heap.size w w1) (hu : MapV w1 (fun k => w.heap.size ≤ k ∧ k < w1.heap.size) u s.files) (hg : w1.grownBy w' (some g)) (hok : (({ s with dur := s.files, ops := [] } : St).spend).Ok)
    (hdb' : DB w' g (({ s with dur := s.files, ops := [] } : St).spend) u fv (.slice none 0 0)) : NextP w w' g (({ s with dur := s.files, ops := [] } : St).spend) F R := by
  obtain ⟨fuse, hbk⟩ := hdb.blk
  have hgl := lt_of_block hbk
  obtain ⟨e1, e2, e3⟩ := St.spend_ops ({ s with dur := s.files, ops := [] } : St)
  have hk : ∀ k, k < w1.heap.size → k ≠ g → w'.heap[k]? = w1.heap[k]? := fun k hk hn => hg.block k hk fun q => hn (Option.some.inj q)
  have ef : (({ s with dur := s.files, ops := [] } : St).spend).files = s.files := by
    show aps (({ s with dur := s.files, ops := [] } : St).spend).dur (({ s with dur := s.files, ops := [] } : St).spend).ops = s.files
    rw [e1, e2]; rfl
  have hs := hb.size
  have hs' := hg.size
  refine ⟨F, fun k => w.heap.size ≤ k ∧ k < w1.heap.size, ⟨hok, ⟨u, fv, .slice none 0 0, [], hdb', ?_, ?_, Own.nil _ _, ?_, fun k q => by cases q⟩, h.Fg, fun k q => by have := h.Flt k q; omega, fun k q => by omega, fun k q z => by have := h.Flt k q; omega⟩, fun k q => .inl q, fun k q => .inr q.1, ?_⟩
  · rw [e2]; exact hu.keep (fun _ q => q) fun k q hl => hk k hl fun e => by omega
  · rw [ef]; exact (hfv.ne hbk blk_nomap).keep (fun _ q => q.1) fun k q hl => (hk k (by omega) q.2).trans (hb.block k hl)
  · rw [e1]; trivial
  · exact (Fr.below hb).trans (Fr.grown (F := F) hg fun k hk _ => by cases hk; exact h.Fg) fun k q => .inl q

set_option maxHeartbeats 1000000 in
set_option maxRecDepth 10000 in
theorem sync_any (w : World) (g : Nat) (s : St) (F R : Nat → Prop) (h : RepP w g s F R) :
    Calls Try.prog 22 #[ptr g] w fun e w' => e = .returned (.int .i64 s.sync.2) ∧ NextP w w' g s.sync.1 F R := by
  obtain ⟨dv, fv, pv, cs, hdb, hdv, hfv, hpv, hcs, hpF⟩ := h.body
  have HDB := Lib.hid hdb
  obtain ⟨fuse, hblk, hfu⟩ := hdb
  have hdown := down_any g w _ _ _ _ _ _ _ hblk
  have hclone := clone_any w F fv s.files hfv
  have HOK := Lib.hid h.ok.sync
  have HSO := Lib.hid h.ok
  have H := Lib.hid h
  have HB := Lib.hid hblk
  have HF := Lib.hid hfu
  have HFV := Lib.hid hfv
  obtain ⟨-, -, c2, -, -, -, -, -⟩ := blk_cells hblk
  clear h hblk hfu hdv hfv hpv hcs hpF
  unfold ptr
  cases hoff : s.off with
  | true =>
    have HR := Lib.hid (show s.sync = (s, 25) by unfold St.sync; rw [hoff]; rfl)
    rw [hoff] at hdown
    clear hoff c2 hclone
    go_enter Try.func22, Try.ntmps22
    go_wp2_with fail
    go_at_call 61
    refine hdown.mono ?_
    rintro e w' ⟨rfl, rfl⟩
    clear hdown
    go_wp2
    go_ret
    exact ⟨by rw [HR.out]; rfl, by rw [HR.out]; exact NextP.same H.out (Below.refl _ _)⟩
  | false =>
    have hR : s.sync = (({ s with dur := s.files, ops := [] } : St).spend, 0) := by unfold St.sync; rw [hoff]; rfl
    have hok : (({ s with dur := s.files, ops := [] } : St).spend).Ok := by have := HOK.out; rwa [hR] at this
    rw [hoff] at hdown
    have HR := Lib.hid hR
    have HOK2 := Lib.hid hok
    clear hoff hR hok
    go_enter Try.func22, Try.ntmps22
    go_wp2_with fail
    go_at_call 61
    refine hdown.mono ?_
    rintro e w' ⟨rfl, rfl⟩
    clear hdown
    go_wp2_with fail
    go_at_call 66
    refine hclone.mono ?_
    rintro e w1 ⟨u, rfl, hu, hb⟩
    have hb1 := (hb.block g (lt_of_block HB.out)).trans HB.out
    obtain ⟨-, z1, -, -, -, -, -, zf⟩ := blk_cells hb1
    have hb2 : (w1.setCell ⟨g, 1, none⟩ u).heap[g]? = some (blk s.cap u fv pv s.off (decide (0 < s.left)) fuse) := by
      unfold blk at hb1; rw [blk_set 1 u hb1]; rfl
    have hb3 : ((w1.setCell ⟨g, 1, none⟩ u).setCell ⟨g, 3, none⟩ (.slice none 0 0)).heap[g]? = some (blk s.cap u fv (.slice none 0 0) s.off (decide (0 < s.left)) fuse) := by
      unfold blk at hb2; rw [blk_set 3 _ hb2]; rfl
    obtain ⟨-, -, -, y3, -, -, -, yf⟩ := blk_cells hb2
    have zf1 := zf 1
    have yf3 := yf 3
    have hdb3 : DB ((w1.setCell ⟨g, 1, none⟩ u).setCell ⟨g, 3, none⟩ (.slice none 0 0)) g { s with dur := s.files, ops := [] } u fv (.slice none 0 0) := ⟨fuse, hb3, HF.out⟩
    have hdone := done_any g _ _ _ _ _ hdb3 HSO.out.left1
    have hg3 : w1.grownBy ((w1.setCell ⟨g, 1, none⟩ u).setCell ⟨g, 3, none⟩ (.slice none 0 0)) (some g) := grown_trans (grown_set w1 g 1 u) (grown_set _ g 3 _)
    have HFIN := Lib.hid (fun (w4 : World) (hdb4 : DB w4 g (({ s with dur := s.files, ops := [] } : St).spend) u fv (.slice none 0 0)) (hg4 : ((w1.setCell ⟨g, 1, none⟩ u).setCell ⟨g, 3, none⟩ (.slice none 0 0)).grownBy w4 (some g)) =>
      next_sync H.out HDB.out HFV.out hb hu (grown_trans hg3 hg4) HOK2.out hdb4)
    obtain ⟨um, hum⟩ : ∃ m, u = .map m := by rcases hu with ⟨q, _⟩ | ⟨b, q, _⟩ <;> exact ⟨_, q⟩
    subst hum
    clear hu hb hb1 hb2 hb3 zf yf hdb3 hg3 hclone c2
    go_wp2_with fail
    go_at_call 67
    refine hdone.mono ?_
    rintro e w4 ⟨rfl, hdb4, hg4⟩
    have HM := Lib.hid (HFIN.out w4 hdb4 hg4)
    clear hdb4 hg4 hdone
    go_wp2
    go_ret
    exact ⟨by rw [HR.out]; rfl, by rw [HR.out]; exact HM.out⟩

/-- Read's result -/
def rdV (p : B × Int) : Value := .tuple #[.string (bstr p.1), .int .i64 p.2]
theorem bstr_nil : bstr [] = ⟨#[]⟩ := rfl
set_option maxHeartbeats 1000000 in
theorem read_any (w : World) (g : Nat) (s : St) (F R : Nat → Prop) (n : B) (h : RepP w g s F R) (hn : n.length ≤ 1000) :
    Calls Try.prog 25 #[ptr g, .string (bstr n)] w fun e w' => e = .returned (rdV (s.read n)) ∧ w = w' := by
  obtain ⟨dv, fv, pv, cs, ⟨fuse, hblk, hfu⟩, hdv, hfv, hpv, hcs, hpF⟩ := h.body
  have hdown := down_any g w _ _ _ _ _ _ _ hblk
  have hval := valid_any n w (by omega)
  have hhas := has_any g w F s.files n _ _ _ _ _ _ _ hblk hfv (by omega)
  have hlk := (hfv.look n (by omega)).2
  obtain ⟨-, -, c2, -, -, -, -, -⟩ := blk_cells hblk
  obtain ⟨fm, hfm⟩ : ∃ m, fv = .map m := by rcases hfv with ⟨q, _⟩ | ⟨b, q, _⟩ <;> exact ⟨_, q⟩
  have HN := Lib.hid bstr_nil
  subst hfm
  clear h hblk hfu hdv hfv hpv hcs hpF
  unfold ptr
  cases hoff : s.off with
  | true =>
    have HR := Lib.hid (show s.read n = ([], 25) by unfold St.read; rw [hoff]; rfl)
    rw [hoff] at hdown
    clear hoff c2 hval hhas hlk
    generalize bstr n = N at *
    go_enter Try.func25, Try.ntmps25
    go_wp2_with (go_at_call 61; refine hdown.mono ?_; rintro e w' ⟨rfl, rfl⟩)
    go_ret2
    exact ⟨by rw [HR.out]; rfl, rfl⟩
  | false =>
    rw [hoff] at hdown
    cases hv : okName n with
    | false =>
      have HR := Lib.hid (show s.read n = ([], 14) by unfold St.read; rw [hoff, hv]; rfl)
      rw [hv] at hval
      clear hoff hv c2 hhas hlk
      generalize bstr n = N at *
      go_enter Try.func25, Try.ntmps25
      go_wp2_with (first | (go_at_call 61; refine hdown.mono ?_; rintro e w' ⟨rfl, rfl⟩) | (go_at_call 62; refine hval.mono ?_; rintro e w' ⟨rfl, rfl⟩))
      go_ret2
      exact ⟨by rw [HR.out]; rfl, rfl⟩
    | true =>
      rw [hv] at hval
      cases hh : has s.files n with
      | false =>
        have hg : get s.files n = none := by simpa [has] using hh
        have HR := Lib.hid (show s.read n = ([], 23) by unfold St.read; rw [hoff, hv, hg]; rfl)
        rw [hh] at hhas
        clear hoff hv hh hg c2 hlk
        generalize bstr n = N at *
        go_enter Try.func25, Try.ntmps25
        go_wp2_with (first | (go_at_call 61; refine hdown.mono ?_; rintro e w' ⟨rfl, rfl⟩) | (go_at_call 62; refine hval.mono ?_; rintro e w' ⟨rfl, rfl⟩) | (go_at_call 68; refine hhas.mono ?_; rintro e w' ⟨rfl, rfl⟩))
        go_ret2
        exact ⟨by rw [HR.out]; rfl, rfl⟩
      | true =>
        obtain ⟨d, hd⟩ : ∃ d, get s.files n = some d := Option.isSome_iff_exists.1 hh
        have HR := Lib.hid (show s.read n = (d, 0) by unfold St.read; rw [hoff, hv, hd]; rfl)
        rw [hh] at hhas
        rw [hd, show (some d).getD [] = d from rfl] at hlk
        clear hoff hv hh hd
        generalize hN : bstr n = N at *
        generalize hD : bstr d = D at *
        have HD := Lib.hid hD
        clear hN hD
        go_enter Try.func25, Try.ntmps25
        go_wp2_with (first | (go_at_call 61; refine hdown.mono ?_; rintro e w' ⟨rfl, rfl⟩) | (go_at_call 62; refine hval.mono ?_; rintro e w' ⟨rfl, rfl⟩) | (go_at_call 68; refine hhas.mono ?_; rintro e w' ⟨rfl, rfl⟩))
        go_ret2
        exact ⟨by rw [HR.out]; unfold rdV; rw [HD.out]; rfl, rfl⟩

/-- what Names answers -/
def St.nms (s : St) : List B := if s.off then [] else sorted s.files
set_option maxHeartbeats 1000000 in
theorem names_any (w : World) (g : Nat) (s : St) (F R : Nat → Prop) (h : RepP w g s F R) :
    Calls Try.prog 39 #[ptr g] w fun e w' => ∃ v, e = .returned v ∧ Own w' w.heap.size 9 1 encS v s.nms ∧ Below w.heap.size w w' := by
  obtain ⟨dv, fv, pv, cs, ⟨fuse, hblk, hfu⟩, hdv, hfv, hpv, hcs, hpF⟩ := h.body
  have hdown := down_any g w _ _ _ _ _ _ _ hblk
  obtain ⟨-, -, c2, -, -, -, -, -⟩ := blk_cells hblk
  have hl := h.ok.cnt'
  have hnd := h.ok.nodup'
  clear h hblk hfu hdv hpv hcs hpF
  unfold ptr
  cases hoff : s.off with
  | true =>
    have HR := Lib.hid (show s.nms = [] by unfold St.nms; rw [hoff]; rfl)
    rw [hoff] at hdown
    clear hoff c2 hl hnd hfv
    go_enter Try.func39, Try.ntmps39
    go_wp2_with (go_at_call 61; refine hdown.mono ?_; rintro e w' ⟨rfl, rfl⟩)
    go_ret
    exact ⟨_, rfl, by rw [HR.out]; exact Own.nil _ _, Below.refl _ _⟩
  | false =>
    have HR := Lib.hid (show s.nms = sorted s.files by unfold St.nms; rw [hoff]; rfl)
    rw [hoff] at hdown
    clear hoff
    rcases hfv with ⟨rfl, hnil⟩ | ⟨b, rfl, hFb, ho⟩
    · rw [hnil] at HR
      have hk := keys_any none w
      have hs := sorted_nil w
      clear hl hnd hnil
      go_enter Try.func39, Try.ntmps39
      go_wp2_with fail
      go_at_call 61
      refine hdown.mono ?_
      rintro e w' ⟨rfl, rfl⟩
      go_wp2_with fail
      go_at_call 76
      refine hk.mono ?_
      rintro e w' ⟨rfl, rfl⟩
      go_wp2_with fail
      go_at_call 75
      refine hs.mono ?_
      rintro e w' ⟨v, rfl, hv, hb⟩
      have HV := Lib.hid hv
      have HB := Lib.hid hb
      clear hv hb hs hk hdown c2
      go_wp2
      go_ret
      exact ⟨_, rfl, by rw [HR.out]; exact HV.out.mono (Nat.le_succ _), HB.out⟩
    · have hk := keys_any (some b) w
      have hs := sorted_some b s.files w ho (by omega) hnd
      clear hl hnd ho
      go_enter Try.func39, Try.ntmps39
      go_wp2_with fail
      go_at_call 61
      refine hdown.mono ?_
      rintro e w' ⟨rfl, rfl⟩
      go_wp2_with fail
      go_at_call 76
      refine hk.mono ?_
      rintro e w' ⟨rfl, rfl⟩
      go_wp2_with fail
      go_at_call 75
      refine hs.mono ?_
      rintro e w' ⟨v, rfl, hv, hb⟩
      have HV := Lib.hid hv
      have HB := Lib.hid hb
      clear hv hb hs hk hdown c2
      go_wp2
      go_ret
      exact ⟨_, rfl, by rw [HR.out]; exact HV.out.mono (Nat.le_succ _), HB.out⟩

set_option maxHeartbeats 1000000 in
theorem fuse_any (w : World) (g : Nat) (s : St) (F R : Nat → Prop) (n : Int) (h : RepP w g s F R) (hn0 : -9223372036854775808 ≤ n) (hn : n ≤ 9223372036854775807) :
    Calls Try.prog 30 #[ptr g, .int .i64 n] w fun e w' => e = .returned (.tuple #[]) ∧ NextP w w' g (s.fuse n) F R := by
  obtain ⟨dv, fv, pv, cs, hdb, hdv, hfv, hpv, hcs, hpF⟩ := h.body
  have HREP := Lib.hid (fun (w' : World) (s' : St) (hg : w.grownBy w' (some g)) (hok : s'.Ok) (hd : s'.dur = s.dur) (ho : s'.ops = s.ops) (hdb' : DB w' g s' dv fv pv) => rep_set h hdb hdv hfv hpv hcs hpF hg hok hd ho hdb')
  have HNX := Lib.hid (show ∀ (w' : World) (s' : St), w.grownBy w' (some g) → RepP w' g s' F R → NextP w w' g s' F R from fun w' s' hg hr => ⟨F, R, hr, fun k q => .inl q, fun k q => .inl q, Fr.grown hg fun k hk _ => by cases hk; exact h.Fg⟩)
  obtain ⟨fuse, hblk, hfu⟩ := hdb
  have hdown := down_any g w _ _ _ _ _ _ _ hblk
  have HOK := Lib.hid (h.ok.fuse n hn)
  have H := Lib.hid h
  have HB := Lib.hid hblk
  clear h hfu hdv hfv hpv hcs hpF
  unfold ptr
  cases hoff : s.off with
  | true =>
    have HR := Lib.hid (show s.fuse n = s by unfold St.fuse; rw [hoff]; rfl)
    rw [hoff] at hdown
    clear hoff hblk
    go_enter Try.func30, Try.ntmps30
    go_wp2_with (go_at_call 61; refine hdown.mono ?_; rintro e w' ⟨rfl, rfl⟩)
    refine bodyPost_ret (results_none rfl _ _ _) rfl ?_
    exact ⟨rfl, by rw [HR.out]; exact NextP.same H.out (Below.refl _ _)⟩
  | false =>
    have HR := Lib.hid (show s.fuse n = { s with left := max n (-1) } by unfold St.fuse; rw [hoff]; rfl)
    rw [hoff] at hdown hblk
    obtain ⟨bb, hbb⟩ : ∃ bb, decide (0 ≤ n) = bb := ⟨_, rfl⟩
    obtain ⟨-, -, -, -, -, c5, c6, hfr⟩ := blk_cells hblk
    have hb1 : (w.setCell ⟨g, 5, none⟩ (.bool bb)).heap[g]? = some (blk s.cap dv fv pv false bb fuse) := by
      unfold blk at hblk; rw [blk_set 5 _ hblk]; rfl
    have hb2 : ((w.setCell ⟨g, 5, none⟩ (.bool bb)).setCell ⟨g, 6, none⟩ (.int .i64 n)).heap[g]? = some (blk s.cap dv fv pv false bb n) := by
      unfold blk at hb1; rw [blk_set 6 _ hb1]; rfl
    have hg2 : w.grownBy ((w.setCell ⟨g, 5, none⟩ (.bool bb)).setCell ⟨g, 6, none⟩ (.int .i64 n)) (some g) := grown_trans (grown_set w g 5 _) (grown_set _ g 6 _)
    obtain ⟨-, -, -, -, -, -, y6, yf⟩ := blk_cells hb1
    have zf5 := hfr 5
    have yf6 := yf 6
    have HG := Lib.hid hg2
    by_cases hz : n = 0
    · obtain rfl : bb = true := by rw [← hbb]; simp; omega
      have hbl := blow_yes g _ _ _ _ _ _ _ hb2 (by omega)
      have HFIN := Lib.hid (show ∀ w2 : World, w2.heap[g]? = some (blk s.cap dv fv pv true false n) → DB w2 g (s.fuse n) dv fv pv from fun w2 h2 => by
        rw [HR.out]
        refine ⟨n, ?_, fun q => by simp only at q; omega⟩
        rw [h2]
        have e1 : St.off { s with left := max n (-1) } = true := by unfold St.off; simp only; rw [decide_eq_true]; omega
        have e2 : decide (0 < max n (-1)) = false := by rw [decide_eq_false]; omega
        simp only [e1, e2])
      clear hblk hb1 hb2 hg2 hfr yf hoff hz
      go_enter Try.func30, Try.ntmps30
      go_wp2_with fail
      go_at_call 61
      refine hdown.mono ?_
      rintro e w' ⟨rfl, rfl⟩
      clear hdown
      go_wp2_with fail
      go_at_call 71
      refine hbl.mono ?_
      rintro e w2 ⟨rfl, h2, hg3⟩
      have HM := Lib.hid (HNX.out w2 (s.fuse n) (grown_trans HG.out hg3) (HREP.out w2 (s.fuse n) (grown_trans HG.out hg3) HOK.out (by rw [HR.out]) (by rw [HR.out]) (HFIN.out w2 h2)))
      clear h2 hg3 hbl
      go_wp2
      go_end0
      exact ⟨rfl, HM.out⟩
    · have hq : bb = false ∨ 0 < n := by
        by_cases q : 0 ≤ n
        · right; omega
        · left; rw [← hbb]; simpa using q
      have hbl := blow_no g _ _ _ _ _ _ _ _ hb2 hq
      have hdbf : DB ((w.setCell ⟨g, 5, none⟩ (.bool bb)).setCell ⟨g, 6, none⟩ (.int .i64 n)) g (s.fuse n) dv fv pv := by
        rw [HR.out]
        refine ⟨n, ?_, fun q => ?_⟩
        · have e1 : St.off { s with left := max n (-1) } = false := by unfold St.off; simp only; rw [decide_eq_false]; omega
          have e2 : decide (0 < max n (-1)) = bb := by
            rw [← hbb]
            by_cases q : 0 ≤ n
            · rw [decide_eq_true q, decide_eq_true]; omega
            · rw [decide_eq_false q, decide_eq_false]; omega
          simp only [e1, e2]
          exact hb2
        · simp only at q ⊢; omega
      have HM := Lib.hid (HNX.out _ (s.fuse n) hg2 (HREP.out _ (s.fuse n) hg2 HOK.out (by rw [HR.out]) (by rw [HR.out]) hdbf))
      clear hblk hb1 hb2 hg2 hfr yf hoff hdbf hz hq
      go_enter Try.func30, Try.ntmps30
      go_wp2_with fail
      go_at_call 61
      refine hdown.mono ?_
      rintro e w' ⟨rfl, rfl⟩
      clear hdown
      go_wp2_with fail
      go_at_call 71
      refine hbl.mono ?_
      rintro e w2 ⟨rfl, rfl⟩
      clear hbl
      go_wp2
      go_end0
      exact ⟨rfl, HM.out⟩

end Go.Proofs.Ytbfgkcgnhgfkmaa.Dk
