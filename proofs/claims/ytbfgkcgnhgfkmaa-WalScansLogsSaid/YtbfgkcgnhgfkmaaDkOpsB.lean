/-
  Append, Rename, Remove of the program's disk.
-/
/-
  Append of the program's disk. (Written by wip/gen/gen_ops.py.)
-/
/-
  Rename, Remove of the program's disk. (Written by wip/gen/gen_ops.py.)
-/
import Derived.Test.YtbfgkcgnhgfkmaaDkMake
namespace Go.Proofs.Ytbfgkcgnhgfkmaa.Dk
open Go Go.Maps Go.RowKit Go.Proofs.Ytbfgkcgnhgfkmaa.Slc
set_option linter.unusedVariables false
set_option linter.unusedSimpArgs false

/-- what a call leaves: the disk in its new state, whose blocks are old ones of its own or new ones -/
def NextP (w w' : World) (g : Nat) (s' : St) (F R : Nat → Prop) : Prop :=
  ∃ F' R', RepP w' g s' F' R' ∧ (∀ k, F' k → F k ∨ w.heap.size ≤ k) ∧ (∀ k, R' k → R k ∨ w.heap.size ≤ k) ∧ Fr F w w'
theorem NextP.same {w w' : World} {g : Nat} {s : St} {F R : Nat → Prop} (h : RepP w g s F R) (hb : Below w.heap.size w w') : NextP w w' g s F R :=
  ⟨F, R, h.keep hb.size fun k q => hb.block k (q.elim (h.Flt k) (h.Rlt k)), fun k q => .inl q, fun k q => .inl q, Fr.below hb⟩
/-- the block that make leaves the files in -/
def mkb (w1 : World) (fv : Value) : Nat := match fv with | .map (some b) => b | _ => w1.heap.size + 1
theorem RepP.below {w w1 : World} {g : Nat} {s : St} {F R : Nat → Prop} (h : RepP w g s F R) (hb : Below w.heap.size w w1) : RepP w1 g s F R :=
  h.keep hb.size fun k q => hb.block k (q.elim (h.Flt k) (h.Rlt k))
theorem mapv_mkb {w : World} {F : Nat → Prop} {fv : Value} {l : Fs} (h : MapV w F fv l) : (fv = .map none ∧ l = [] ∧ mkb w fv = w.heap.size + 1) ∨ (fv = .map (some (mkb w fv)) ∧ OwnM w Try.prog 9 (mkb w fv) l) := by
  rcases h with ⟨rfl, h⟩ | ⟨b, rfl, hF, ho⟩
  · exact .inl ⟨rfl, h, rfl⟩
  · exact .inr ⟨rfl, ho⟩
/-- behind make: c's boxes (blocks of w1 that are not of w) are new -/
theorem next_mk {w w1 w' : World} {g : Nat} {s : St} {F R : Nat → Prop} {dv fv pv : Value} {cs : List Cv} {c : Cv} {ch : Ch} (h : RepP w g s F R) (hb : Below w.heap.size w w1)
    (hdv : MapV w1 R dv s.dur) (hfv : MapV w1 F fv s.files) (hpv : Own w1 0 85 2 encV pv cs) (hcs : Cvs w1 R cs s.ops) (hpF : ∀ k, pv.ownBlock = some k → F k)
    (hc : CvV w1 (fun k => w.heap.size ≤ k ∧ k < w1.heap.size) c ch) (hok : (s.add ch).Ok)
    (hm : MkPost w1 g (mkb w1 fv) s dv pv cs c ch w') : NextP w w' g (s.add ch) F R := by
  obtain ⟨pv', hdb, ho, hown, hblk, hfr⟩ := hm
  have hR1 : ∀ k, R k → k < w1.heap.size := fun k q => Nat.lt_of_lt_of_le (h.Rlt k q) hb.size
  have hbF : F (mkb w1 fv) ∨ mkb w1 fv = w1.heap.size + 1 := by
    rcases hfv with ⟨rfl, _⟩ | ⟨b, rfl, hF, _⟩
    · exact .inr rfl
    · exact .inl hF
  have hs := hb.size
  have hfrR : ∀ k, k < w1.heap.size → (R k ∨ w.heap.size ≤ k) → w'.heap[k]? = w1.heap[k]? := by
    intro k hk hR
    refine hfr.block k hk fun q => ?_
    have hFk : F k ∨ w1.heap.size ≤ k := by
      rcases q with rfl | rfl | q
      · exact .inl h.Fg
      · rcases hbF with z | z
        · exact .inl z
        · right; omega
      · exact .inl (hpF k q)
    rcases hFk with hF | hge
    · rcases hR with hR | hR
      · exact h.dis k hF hR
      · have := h.Flt k hF; omega
    · omega
  refine ⟨fun k => F k ∨ k = mkb w1 fv ∨ pv'.ownBlock = some k, fun k => R k ∨ (w.heap.size ≤ k ∧ k < w1.heap.size), ⟨hok, ⟨dv, .map (some (mkb w1 fv)), pv', cs ++ [c], hdb, ?_, .inr ⟨_, rfl, .inr (.inl rfl), ?_⟩, hown, ?_, fun k q => .inr (.inr q)⟩, .inl h.Fg, ?_, ?_, ?_⟩, ?_, ?_, ?_⟩
  · have e : (s.add ch).dur = s.dur := (St.spend_ops _).2.1
    rw [e]
    exact hdv.keep (fun k q => .inl q) fun k q hk => hfrR k hk (.inl q)
  · have e : (s.add ch).files = ap s.files ch := by
      unfold St.files St.add
      rw [(St.spend_ops _).1, (St.spend_ops _).2.1, aps_snoc]
    rw [e]; exact ho
  · have e : (s.add ch).ops = s.ops ++ [ch] := (St.spend_ops _).1
    rw [e]
    exact Cvs.snoc (hc.keep (fun k q => .inr q) fun k q hk => hfrR k hk (.inr q.1)) (hcs.keep (fun k q => .inl q) fun k q hk => hfrR k hk (.inl q))
  · rintro k (q | rfl | q)
    · exact Nat.lt_of_lt_of_le (h.Flt k q) (Nat.le_trans hs hfr.size)
    · exact ho.lt
    · exact (hown.lt k q).2
  · rintro k (q | q)
    · exact Nat.lt_of_lt_of_le (hR1 k q) hfr.size
    · exact Nat.lt_of_lt_of_le q.2 hfr.size
  · have key : ∀ k, (F k ∨ w1.heap.size ≤ k) → ¬ (R k ∨ (w.heap.size ≤ k ∧ k < w1.heap.size)) := by
      rintro k (q | q) (z | z)
      · exact h.dis k q z
      · have := h.Flt k q; omega
      · have := hR1 k z; omega
      · omega
    rintro k (q | rfl | q)
    · exact key k (.inl q)
    · exact key _ (hbF.elim .inl fun z => .inr (by omega))
    · refine key k ?_
      rcases hblk with z | ⟨y, z, hy⟩
      · exact .inl (hpF k (by rw [← z]; exact q))
      · rw [z] at q; cases q; exact .inr hy
  · rintro k (q | rfl | q)
    · exact .inl q
    · exact hbF.elim .inl fun z => .inr (by omega)
    · rcases hblk with z | ⟨y, z, hy⟩
      · exact .inl (hpF k (by rw [← z]; exact q))
      · rw [z] at q; cases q; exact .inr (by omega)
  · rintro k (q | q)
    · exact .inl q
    · exact .inr q.1
  · refine Fr.trans (Fr.below hb) hfr ?_
    rintro k (rfl | rfl | q)
    · exact .inl h.Fg
    · exact hbF.elim .inl fun z => .inr (by omega)
    · exact .inl (hpF k q)

theorem box_one (w : World) (a : B) : boxS (w.alloc (.cells #[.string (bstr a)] 9)) w.heap.size a := heap_alloc_new _ _
theorem box_keep {w w' : World} {b : Nat} {a : B} (h : boxS w b a) (hb : Below w.heap.size w w') : boxS w' b a := (hb.block b h.lt).trans h

end Go.Proofs.Ytbfgkcgnhgfkmaa.Dk

namespace Go.Proofs.Ytbfgkcgnhgfkmaa.Dk
open Go Go.Maps Go.RowKit Go.Proofs.Ytbfgkcgnhgfkmaa.Slc
set_option linter.unusedVariables false
set_option linter.unusedSimpArgs false

set_option maxHeartbeats 2000000 in
set_option maxRecDepth 10000 in
theorem append_any (w : World) (g : Nat) (s : St) (F R : Nat → Prop) (n d : B) (h : RepP w g s F R) (hn : n.length ≤ 140737488355328) (hd : d.length ≤ 140737488355328) (ho : s.ops.length ≤ 10000) :
    Calls Try.prog 21 #[ptr g, .string (bstr n), .string (bstr d)] w fun e w' => e = .returned (.int .i64 (s.append n d).2) ∧ NextP w w' g (s.append n d).1 F R := by
  have hW : Below w.heap.size w ((w.alloc (.cells #[.string (bstr n)] 9)).alloc (.cells #[.string (bstr d)] 9)) := ((Below.refl _ w).alloc (Nat.le_refl _) _).alloc (by simp) _
  have hx1 : boxS ((w.alloc (.cells #[.string (bstr n)] 9)).alloc (.cells #[.string (bstr d)] 9)) w.heap.size n := box_keep (box_one w n) ((Below.refl _ _).alloc (Nat.le_refl _) _)
  have hx2 : boxS ((w.alloc (.cells #[.string (bstr n)] 9)).alloc (.cells #[.string (bstr d)] 9)) (w.heap.size + 1) d := by
    have := box_one (w.alloc (.cells #[.string (bstr n)] 9)) d
    rwa [show (w.alloc (.cells #[.string (bstr n)] 9)).heap.size = w.heap.size + 1 by simp] at this
  have HOK := Lib.hid (h.ok.append n d)
  have HSO := Lib.hid h.ok
  have H := Lib.hid h
  have HW := Lib.hid hW
  have HX1 := Lib.hid hx1
  have HX2 := Lib.hid hx2
  clear h hW hx1 hx2
  unfold ptr
  go_enter Try.func21, Try.ntmps21
  go_wp2_with fail
  generalize hWd : ((w.alloc (.cells #[.string (bstr n)] 9)).alloc (.cells #[.string (bstr d)] 9)) = W at *
  have HWD := Lib.hid hWd
  clear hWd
  have c1 := HX1.out.cell
  have c2 := HX2.out.cell
  have hr := H.out.below HW.out
  obtain ⟨dv, fv, pv, cs, ⟨fuse, hblk, hfu⟩, hdv, hfv, hpv, hcs, hpF⟩ := hr.body
  have hsz := HW.out.size
  have hlt1 := HX1.out.lt
  have hlt2 := HX2.out.lt
  have hdown := down_any g W _ _ _ _ _ _ _ hblk
  have HV := Lib.hid (valid_any n W (by omega))
  have HX := Lib.hid (fits_any g W F s HSO.out n d.length _ _ _ _ _ _ hblk hfv hn)
  have HB := Lib.hid hblk
  have HF := Lib.hid hfu
  have HDV := Lib.hid hdv
  have HFV := Lib.hid hfv
  have HPV := Lib.hid hpv
  have HCS := Lib.hid hcs
  have HPF := Lib.hid hpF
  have HLT := Lib.hid (show w.heap.size < W.heap.size ∧ w.heap.size + 1 < W.heap.size from ⟨hlt1, hlt2⟩)
  have HO := Lib.hid ho
  have HNL := Lib.hid hn
  clear hblk hfu hdv hfv hpv hcs hpF hr hsz hlt1 hlt2 ho hn
  go_at_call 61
  refine hdown.mono ?_
  clear hdown
  rintro e w' ⟨rfl, rfl⟩
  cases hoff : s.off with
  | true =>
    have HR := Lib.hid (show s.append n d = (s, 25) by unfold St.append; rw [hoff]; rfl)
    clear hoff
    go_wp2
    go_ret
    exact ⟨by rw [HR.out]; rfl, by rw [HR.out]; exact NextP.same H.out HW.out⟩
  | false =>
    have HOF := Lib.hid hoff
    clear hoff
    go_wp2_with fail
    go_at_call 62
    refine HV.out.mono ?_
    rintro e w' ⟨rfl, rfl⟩
    cases hval : okName n with
    | false =>
      have HR := Lib.hid (show s.append n d = (s, 14) by unfold St.append; rw [HOF.out, hval]; rfl)
      clear hval
      go_wp2
      go_ret
      exact ⟨by rw [HR.out]; rfl, by rw [HR.out]; exact NextP.same H.out HW.out⟩
    | true =>
      have HVA := Lib.hid hval
      clear hval
      go_wp2_with fail
      go_at_call 63
      first | (refine HX.out.mono ?_) | (rw [bstr_size]; refine HX.out.mono ?_)
      rintro e w1 ⟨rfl, hb1⟩
      cases hft : s.fits n d.length with
      | false =>
        have HR := Lib.hid (show s.append n d = (s, 26) by unfold St.append; rw [HOF.out, HVA.out, hft]; rfl)
        have HB1 := Lib.hid (HW.out.trans (hb1.mono HW.out.size))
        clear hft hb1
        go_wp2
        go_ret
        exact ⟨by rw [HR.out]; rfl, by rw [HR.out]; exact NextP.same H.out HB1.out⟩
      | true =>
        have hR : s.append n d = (s.add (.app n d), 0) := by unfold St.append; rw [HOF.out, HVA.out, hft]; rfl
        have hok : (s.add (.app n d)).Ok := by have := HOK.out; rwa [hR] at this
        have hnl : n.length ≤ 32 := by
          have := HVA.out
          rw [okName_eq, Bool.and_eq_true, Bool.and_eq_true, decide_eq_true_eq, decide_eq_true_eq] at this
          exact this.1.2
        have hx1 : boxS w1 w.heap.size n := box_keep HX1.out hb1
        have hx2 : boxS w1 (w.heap.size + 1) d := box_keep HX2.out hb1
        have hrw := H.out.below HW.out
        have hdv1 : MapV w1 R dv s.dur := HDV.out.keep (fun _ q => q) fun k q hk => hb1.block k hk
        have hfv1 : MapV w1 F fv s.files := HFV.out.keep (fun _ q => q) fun k q hk => hb1.block k hk
        have hpv1 : Own w1 0 85 2 encV pv cs := HPV.out.below hb1
        have hcs1 : Cvs w1 R cs s.ops := HCS.out.keep (fun _ q => q) fun k q hk => hb1.block k hk
        have hdb1 : DB w1 g s dv fv pv := ⟨fuse, (hb1.block g (lt_of_block HB.out)).trans HB.out, HF.out⟩
        have hcl := Cvs.length hcs1
        have hol := HO.out
        have h16 := HSO.out.cnt'
        have htt := HSO.out.tot'
        have hc1 := HSO.out.cap1
        have hl1 := HSO.out.left1
        have hfit : (d.length : Int) ≤ s.cap - total s.files := by
          unfold St.fits at hft
          rw [Bool.and_eq_true, decide_eq_true_eq] at hft
          exact hft.2
        have hmk := make_app w1 g (mkb w1 fv) s dv fv pv cs (w.heap.size + 1) w.heap.size n d hdb1 (mapv_mkb hfv1) hx2 hx1 (by omega) (by omega) (by omega) hpv1 (by omega) hl1
        have hnx := fun w' (hm : MkPost w1 g (mkb w1 fv) s dv pv cs (Cv.app (w.heap.size + 1) w.heap.size) (.app n d) w') => next_mk H.out (HW.out.trans (hb1.mono HW.out.size)) hdv1 hfv1 hpv1 hcs1 HPF.out (c := Cv.app (w.heap.size + 1) w.heap.size) (show CvV w1 (fun k => w.heap.size ≤ k ∧ k < w1.heap.size) (Cv.app (w.heap.size + 1) w.heap.size) (.app n d) from ⟨⟨by omega, by have := HLT.out.2; have := hb1.size; omega⟩, ⟨by omega, by have := HLT.out.1; have := hb1.size; omega⟩, hx2, hx1, by omega⟩) hok hm
        have HNX := Lib.hid hnx
        have HMK := Lib.hid hmk
        have HRR := Lib.hid hR
        clear hft hR hok hnl hx1 hx2 hrw hdv1 hfv1 hpv1 hcs1 hdb1 hcl hol h16 htt hc1 hl1 hfit hmk hnx hb1
        go_wp2_with fail
        go_at_call 64
        refine HMK.out.mono ?_
        rintro e w2 ⟨rfl, hm⟩
        have HM := Lib.hid (HNX.out w2 hm)
        clear hm
        go_wp2
        go_ret
        exact ⟨by rw [HRR.out]; rfl, by rw [HRR.out]; exact HM.out⟩

end Go.Proofs.Ytbfgkcgnhgfkmaa.Dk

namespace Go.Proofs.Ytbfgkcgnhgfkmaa.Dk
open Go Go.Maps Go.RowKit Go.Proofs.Ytbfgkcgnhgfkmaa.Slc
set_option linter.unusedVariables false
set_option linter.unusedSimpArgs false

set_option maxHeartbeats 2000000 in
set_option maxRecDepth 10000 in
theorem rename_any (w : World) (g : Nat) (s : St) (F R : Nat → Prop) (n d : B) (h : RepP w g s F R) (hn : n.length ≤ 140737488355328) (hd : d.length ≤ 1000) (ho : s.ops.length ≤ 10000) :
    Calls Try.prog 35 #[ptr g, .string (bstr n), .string (bstr d)] w fun e w' => e = .returned (.int .i64 (s.rename n d).2) ∧ NextP w w' g (s.rename n d).1 F R := by
  have hW : Below w.heap.size w ((w.alloc (.cells #[.string (bstr n)] 9)).alloc (.cells #[.string (bstr d)] 9)) := ((Below.refl _ w).alloc (Nat.le_refl _) _).alloc (by simp) _
  have hx1 : boxS ((w.alloc (.cells #[.string (bstr n)] 9)).alloc (.cells #[.string (bstr d)] 9)) w.heap.size n := box_keep (box_one w n) ((Below.refl _ _).alloc (Nat.le_refl _) _)
  have hx2 : boxS ((w.alloc (.cells #[.string (bstr n)] 9)).alloc (.cells #[.string (bstr d)] 9)) (w.heap.size + 1) d := by
    have := box_one (w.alloc (.cells #[.string (bstr n)] 9)) d
    rwa [show (w.alloc (.cells #[.string (bstr n)] 9)).heap.size = w.heap.size + 1 by simp] at this
  have HOK := Lib.hid (h.ok.rename n d)
  have HSO := Lib.hid h.ok
  have H := Lib.hid h
  have HW := Lib.hid hW
  have HX1 := Lib.hid hx1
  have HX2 := Lib.hid hx2
  clear h hW hx1 hx2
  unfold ptr
  go_enter Try.func35, Try.ntmps35
  go_wp2_with fail
  generalize hWd : ((w.alloc (.cells #[.string (bstr n)] 9)).alloc (.cells #[.string (bstr d)] 9)) = W at *
  have HWD := Lib.hid hWd
  clear hWd
  have c1 := HX1.out.cell
  have c2 := HX2.out.cell
  have hr := H.out.below HW.out
  obtain ⟨dv, fv, pv, cs, ⟨fuse, hblk, hfu⟩, hdv, hfv, hpv, hcs, hpF⟩ := hr.body
  have hsz := HW.out.size
  have hlt1 := HX1.out.lt
  have hlt2 := HX2.out.lt
  have hdown := down_any g W _ _ _ _ _ _ _ hblk
  have HV := Lib.hid (valid_any n W (by omega))
  have HV2 := Lib.hid (valid_any d W (by omega))
  have HX := Lib.hid (has_any g W F s.files n _ _ _ _ _ _ _ hblk hfv hn)
  have HB := Lib.hid hblk
  have HF := Lib.hid hfu
  have HDV := Lib.hid hdv
  have HFV := Lib.hid hfv
  have HPV := Lib.hid hpv
  have HCS := Lib.hid hcs
  have HPF := Lib.hid hpF
  have HLT := Lib.hid (show w.heap.size < W.heap.size ∧ w.heap.size + 1 < W.heap.size from ⟨hlt1, hlt2⟩)
  have HO := Lib.hid ho
  have HNL := Lib.hid hn
  clear hblk hfu hdv hfv hpv hcs hpF hr hsz hlt1 hlt2 ho hn
  go_at_call 61
  refine hdown.mono ?_
  clear hdown
  rintro e w' ⟨rfl, rfl⟩
  cases hoff : s.off with
  | true =>
    have HR := Lib.hid (show s.rename n d = (s, 25) by unfold St.rename; rw [hoff]; rfl)
    clear hoff
    go_wp2
    go_ret
    exact ⟨by rw [HR.out]; rfl, by rw [HR.out]; exact NextP.same H.out HW.out⟩
  | false =>
    have HOF := Lib.hid hoff
    clear hoff
    go_wp2_with fail
    go_at_call 62
    refine HV.out.mono ?_
    rintro e w' ⟨rfl, rfl⟩
    cases hval : okName n with
    | false =>
      have HR := Lib.hid (show s.rename n d = (s, 14) by unfold St.rename; rw [HOF.out, hval]; rfl)
      clear hval
      go_wp2
      go_ret
      exact ⟨by rw [HR.out]; rfl, by rw [HR.out]; exact NextP.same H.out HW.out⟩
    | true =>
      have HVA := Lib.hid hval
      clear hval
      go_wp2_with fail
      go_at_call 62
      refine HV2.out.mono ?_
      rintro e w' ⟨rfl, rfl⟩
      cases hval2 : okName d with
      | false =>
        have HR := Lib.hid (show s.rename n d = (s, 14) by unfold St.rename; rw [HOF.out, HVA.out, hval2]; rfl)
        clear hval2
        go_wp2
        go_ret
        exact ⟨by rw [HR.out]; rfl, by rw [HR.out]; exact NextP.same H.out HW.out⟩
      | true =>
        have HVB := Lib.hid hval2
        clear hval2
        go_wp2_with fail
        go_at_call 68
        refine HX.out.mono ?_
        rintro e w' ⟨rfl, rfl⟩
        have hb1 := Below.refl W.heap.size W
        cases hft : has s.files n with
        | false =>
          have HR := Lib.hid (show s.rename n d = (s, 23) by unfold St.rename; rw [HOF.out, HVA.out, HVB.out, hft]; rfl)
          have HB1 := Lib.hid (HW.out.trans (hb1.mono HW.out.size))
          clear hft hb1
          go_wp2
          go_ret
          exact ⟨by rw [HR.out]; rfl, by rw [HR.out]; exact NextP.same H.out HB1.out⟩
        | true =>
          have hR : s.rename n d = (s.add (.ren n d), 0) := by unfold St.rename; rw [HOF.out, HVA.out, HVB.out, hft]; rfl
          have hok : (s.add (.ren n d)).Ok := by have := HOK.out; rwa [hR] at this
          have hnl : n.length ≤ 32 := by
            have := HVA.out
            rw [okName_eq, Bool.and_eq_true, Bool.and_eq_true, decide_eq_true_eq, decide_eq_true_eq] at this
            exact this.1.2
          have hdl : d.length ≤ 32 := by
            have := HVB.out
            rw [okName_eq, Bool.and_eq_true, Bool.and_eq_true, decide_eq_true_eq, decide_eq_true_eq] at this
            exact this.1.2
          have hx1 : boxS W w.heap.size n := box_keep HX1.out hb1
          have hx2 : boxS W (w.heap.size + 1) d := box_keep HX2.out hb1
          have hrw := H.out.below HW.out
          have hdv1 : MapV W R dv s.dur := HDV.out.keep (fun _ q => q) fun k q hk => hb1.block k hk
          have hfv1 : MapV W F fv s.files := HFV.out.keep (fun _ q => q) fun k q hk => hb1.block k hk
          have hpv1 : Own W 0 85 2 encV pv cs := HPV.out.below hb1
          have hcs1 : Cvs W R cs s.ops := HCS.out.keep (fun _ q => q) fun k q hk => hb1.block k hk
          have hdb1 : DB W g s dv fv pv := ⟨fuse, (hb1.block g (lt_of_block HB.out)).trans HB.out, HF.out⟩
          have hcl := Cvs.length hcs1
          have hol := HO.out
          have h16 := HSO.out.cnt'
          have htt := HSO.out.tot'
          have hc1 := HSO.out.cap1
          have hl1 := HSO.out.left1
          have hmk := make_ren W g (mkb W fv) s dv fv pv cs w.heap.size (w.heap.size + 1) n d hdb1 (mapv_mkb hfv1) hx1 hx2 (by omega) (by omega) (by omega) (by omega) HSO.out.nodup' hft hpv1 (by omega) hl1
          have hnx := fun w' (hm : MkPost W g (mkb W fv) s dv pv cs (Cv.ren w.heap.size (w.heap.size + 1)) (.ren n d) w') => next_mk H.out (HW.out.trans (hb1.mono HW.out.size)) hdv1 hfv1 hpv1 hcs1 HPF.out (c := Cv.ren w.heap.size (w.heap.size + 1)) (show CvV W (fun k => w.heap.size ≤ k ∧ k < W.heap.size) (Cv.ren w.heap.size (w.heap.size + 1)) (.ren n d) from ⟨⟨by omega, HLT.out.1⟩, ⟨by omega, HLT.out.2⟩, hx1, hx2, by omega, by omega⟩) hok hm
          have HNX := Lib.hid hnx
          have HMK := Lib.hid hmk
          have HRR := Lib.hid hR
          clear hft hR hok hnl hx1 hx2 hrw hdv1 hfv1 hpv1 hcs1 hdb1 hcl hol h16 htt hc1 hl1 hdl hmk hnx hb1
          go_wp2_with fail
          go_at_call 64
          refine HMK.out.mono ?_
          rintro e w2 ⟨rfl, hm⟩
          have HM := Lib.hid (HNX.out w2 hm)
          clear hm
          go_wp2
          go_ret
          exact ⟨by rw [HRR.out]; rfl, by rw [HRR.out]; exact HM.out⟩

set_option maxHeartbeats 2000000 in
set_option maxRecDepth 10000 in
theorem remove_any (w : World) (g : Nat) (s : St) (F R : Nat → Prop) (n : B) (h : RepP w g s F R) (hn : n.length ≤ 140737488355328) (ho : s.ops.length ≤ 10000) :
    Calls Try.prog 36 #[ptr g, .string (bstr n)] w fun e w' => e = .returned (.int .i64 (s.remove n).2) ∧ NextP w w' g (s.remove n).1 F R := by
  have hW : Below w.heap.size w (w.alloc (.cells #[.string (bstr n)] 9)) := (Below.refl _ w).alloc (Nat.le_refl _) _
  have hx1 : boxS (w.alloc (.cells #[.string (bstr n)] 9)) w.heap.size n := box_one w n
  have HOK := Lib.hid (h.ok.remove n)
  have HSO := Lib.hid h.ok
  have H := Lib.hid h
  have HW := Lib.hid hW
  have HX1 := Lib.hid hx1
  clear h hW hx1
  unfold ptr
  go_enter Try.func36, Try.ntmps36
  go_wp2_with fail
  generalize hWd : (w.alloc (.cells #[.string (bstr n)] 9)) = W at *
  have HWD := Lib.hid hWd
  clear hWd
  have c1 := HX1.out.cell
  have hr := H.out.below HW.out
  obtain ⟨dv, fv, pv, cs, ⟨fuse, hblk, hfu⟩, hdv, hfv, hpv, hcs, hpF⟩ := hr.body
  have hsz := HW.out.size
  have hlt1 := HX1.out.lt
  have hdown := down_any g W _ _ _ _ _ _ _ hblk
  have HV := Lib.hid (valid_any n W (by omega))
  have HX := Lib.hid (has_any g W F s.files n _ _ _ _ _ _ _ hblk hfv hn)
  have HB := Lib.hid hblk
  have HF := Lib.hid hfu
  have HDV := Lib.hid hdv
  have HFV := Lib.hid hfv
  have HPV := Lib.hid hpv
  have HCS := Lib.hid hcs
  have HPF := Lib.hid hpF
  have HLT := Lib.hid (show w.heap.size < W.heap.size from hlt1)
  have HO := Lib.hid ho
  have HNL := Lib.hid hn
  clear hblk hfu hdv hfv hpv hcs hpF hr hsz hlt1 ho hn
  go_at_call 61
  refine hdown.mono ?_
  clear hdown
  rintro e w' ⟨rfl, rfl⟩
  cases hoff : s.off with
  | true =>
    have HR := Lib.hid (show s.remove n = (s, 25) by unfold St.remove; rw [hoff]; rfl)
    clear hoff
    go_wp2
    go_ret
    exact ⟨by rw [HR.out]; rfl, by rw [HR.out]; exact NextP.same H.out HW.out⟩
  | false =>
    have HOF := Lib.hid hoff
    clear hoff
    go_wp2_with fail
    go_at_call 62
    refine HV.out.mono ?_
    rintro e w' ⟨rfl, rfl⟩
    cases hval : okName n with
    | false =>
      have HR := Lib.hid (show s.remove n = (s, 14) by unfold St.remove; rw [HOF.out, hval]; rfl)
      clear hval
      go_wp2
      go_ret
      exact ⟨by rw [HR.out]; rfl, by rw [HR.out]; exact NextP.same H.out HW.out⟩
    | true =>
      have HVA := Lib.hid hval
      clear hval
      go_wp2_with fail
      go_at_call 68
      refine HX.out.mono ?_
      rintro e w' ⟨rfl, rfl⟩
      have hb1 := Below.refl W.heap.size W
      cases hft : has s.files n with
      | false =>
        have HR := Lib.hid (show s.remove n = (s, 23) by unfold St.remove; rw [HOF.out, HVA.out, hft]; rfl)
        have HB1 := Lib.hid (HW.out.trans (hb1.mono HW.out.size))
        clear hft hb1
        go_wp2
        go_ret
        exact ⟨by rw [HR.out]; rfl, by rw [HR.out]; exact NextP.same H.out HB1.out⟩
      | true =>
        have hR : s.remove n = (s.add (.rem n), 0) := by unfold St.remove; rw [HOF.out, HVA.out, hft]; rfl
        have hok : (s.add (.rem n)).Ok := by have := HOK.out; rwa [hR] at this
        have hnl : n.length ≤ 32 := by
          have := HVA.out
          rw [okName_eq, Bool.and_eq_true, Bool.and_eq_true, decide_eq_true_eq, decide_eq_true_eq] at this
          exact this.1.2
        have hx1 : boxS W w.heap.size n := box_keep HX1.out hb1
        have hrw := H.out.below HW.out
        have hdv1 : MapV W R dv s.dur := HDV.out.keep (fun _ q => q) fun k q hk => hb1.block k hk
        have hfv1 : MapV W F fv s.files := HFV.out.keep (fun _ q => q) fun k q hk => hb1.block k hk
        have hpv1 : Own W 0 85 2 encV pv cs := HPV.out.below hb1
        have hcs1 : Cvs W R cs s.ops := HCS.out.keep (fun _ q => q) fun k q hk => hb1.block k hk
        have hdb1 : DB W g s dv fv pv := ⟨fuse, (hb1.block g (lt_of_block HB.out)).trans HB.out, HF.out⟩
        have hcl := Cvs.length hcs1
        have hol := HO.out
        have h16 := HSO.out.cnt'
        have htt := HSO.out.tot'
        have hc1 := HSO.out.cap1
        have hl1 := HSO.out.left1
        have hmk := make_rem W g (mkb W fv) s dv fv pv cs w.heap.size n hdb1 (mapv_mkb hfv1) hx1 (by omega) (by omega) HSO.out.nodup' hpv1 (by omega) hl1
        have hnx := fun w' (hm : MkPost W g (mkb W fv) s dv pv cs (Cv.rem w.heap.size) (.rem n) w') => next_mk H.out (HW.out.trans (hb1.mono HW.out.size)) hdv1 hfv1 hpv1 hcs1 HPF.out (c := Cv.rem w.heap.size) (show CvV W (fun k => w.heap.size ≤ k ∧ k < W.heap.size) (Cv.rem w.heap.size) (.rem n) from ⟨⟨by omega, HLT.out⟩, hx1, by omega⟩) hok hm
        have HNX := Lib.hid hnx
        have HMK := Lib.hid hmk
        have HRR := Lib.hid hR
        clear hft hR hok hnl hx1 hrw hdv1 hfv1 hpv1 hcs1 hdb1 hcl hol h16 htt hc1 hl1 hmk hnx hb1
        go_wp2_with fail
        go_at_call 64
        refine HMK.out.mono ?_
        rintro e w2 ⟨rfl, hm⟩
        have HM := Lib.hid (HNX.out w2 hm)
        clear hm
        go_wp2
        go_ret
        exact ⟨by rw [HRR.out]; rfl, by rw [HRR.out]; exact HM.out⟩

end Go.Proofs.Ytbfgkcgnhgfkmaa.Dk
