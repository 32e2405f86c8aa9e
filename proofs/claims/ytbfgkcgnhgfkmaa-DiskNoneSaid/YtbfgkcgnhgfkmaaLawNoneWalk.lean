/-
  The walk of DiskNone: it returns true.
-/
import Derived.Test.YtbfgkcgnhgfkmaaDkKeep
import Derived.Test.YtbfgkcgnhgfkmaaDkNil
namespace Go.Proofs.Ytbfgkcgnhgfkmaa.Dk
open Go Go.Maps Go.RowKit Go.Proofs.Ytbfgkcgnhgfkmaa.Slc
set_option linter.unusedVariables false
set_option linter.unusedSimpArgs false

/-- a call on the reference's disk of a pair -/
theorem NewB.onR {B : Nat} {w w' : World} {d r : Nat} {s t t' : St} {f : FuncId} {args : Array Value} {Post : Ending → Prop} (h : NewB B w w' d r s t)
    (hc : ∀ G Q, RepR w' r t G Q → Calls Try.prog f args w' fun e w2 => Post e ∧ NextR w' w2 r t' G Q) : Calls Try.prog f args w' fun e w2 => Post e ∧ NewB B w w2 d r s t' := by
  obtain ⟨F, R, G, Q, h1, h2, h3, h4, h5, h6, h7, h8, h9⟩ := h
  refine (hc G Q h2).mono fun e w2 ⟨he, hn⟩ => ⟨he, ?_⟩
  obtain ⟨G', Q', k1, k2, k3, k4⟩ := hn
  refine ⟨F, R, G', Q', h1.frame k4 fun k q z => q.elim (fun y => ((h3 k).1 y).1 z) fun y => (h3 k).2 z y, k1, fun k => ⟨fun q => ⟨fun z => ?_, fun z => ?_⟩, fun q z => ?_⟩, h4, h5, fun k q => (k2 k q).elim (h6 k) fun z => Nat.le_trans h9 z, fun k q => (k3 k q).elim (h7 k) fun z => Nat.le_trans h9 z, h8.trans (k4.toBelow h9 h6), Nat.le_trans h9 k4.size⟩
  · rcases k2 k z with y | y
    · exact ((h3 k).1 q).1 y
    · have := h1.Flt k q; omega
  · rcases k3 k z with y | y
    · exact ((h3 k).1 q).2 y
    · have := h1.Flt k q; omega
  · rcases k2 k q with y | y
    · exact (h3 k).2 y z
    · have := h1.Rlt k z; omega

theorem bstr_of' (a : ByteArray) : ∃ l : B, a = bstr l := ⟨a.data.toList, by cases a; simp [bstr]⟩

set_option maxHeartbeats 1000000 in
set_option maxRecDepth 10000 in
theorem law_none (s t : ByteArray) (n m : Int) (w : World) (hn0 : -9223372036854775808 ≤ n) (hn1 : n ≤ 9223372036854775807) (hm0 : -9223372036854775808 ≤ m) (hm1 : m ≤ 9223372036854775807) (zs : s.size ≤ 140737488355328) (zt : t.size ≤ 140737488355328) :
    Calls Try.prog 10 #[.string s, .string t, .int .i64 n, .int .i64 m] w fun e w' => e = .returned (.bool true) ∧ Below w.heap.size w w' := by
  obtain ⟨ls, rfl⟩ := bstr_of' s
  obtain ⟨lt, rfl⟩ := bstr_of' t
  rw [bstr_size] at zs zt
  have HAW := Lib.hid (fun W => awake_any W)
  have hnew := new_rep w 0 (by omega)
  rw [show max (0 : Int) 0 = 0 from rfl] at hnew
  have HN0 := Lib.hid hnew
  have HRN := Lib.hid (fun W => rnew_any 0 W (by omega))
  have ZS := Lib.hid zs
  have ZT := Lib.hid zt
  clear hnew zs zt
  go_enter Try.func10, Try.ntmps10
  go_wp2_with fail
  go_at_call 30
  refine (fuse_nilp _ _).mono ?_
  rintro e w0 ⟨rfl, hw0⟩
  rw [show w.alloc (blk 0 (.map none) (.map none) (.slice none 0 0) false false 0) = w0 from hw0] at HN0
  clear hw0
  generalize hd : w.heap.size = d at *
  have HD := Lib.hid hd
  clear hd
  go_wp2_with fail
  go_at_call 24
  refine (crash_nilp _ _ _).mono ?_
  rintro e w' ⟨rfl, rfl⟩
  go_wp2_with fail
  go_at_call 25
  refine (read_nilp _ _).mono ?_
  rintro e w' ⟨rfl, rfl⟩
  go_wp2_with fail
  go_at_call 27
  refine (HRN.out _).mono ?_
  rintro e w1 ⟨rfl, hr1, hb1⟩
  have HB1 := Lib.hid (NewB.made HN0.out hr1 hb1)
  clear hr1 hb1
  generalize w0.heap.size = r at *
  unfold ptr
  go_wp2_with fail
  go_at_call 21
  refine (append_nilp _ _ _).mono ?_
  rintro e w2 ⟨rfl, hb⟩
  have HB2 := Lib.hid (HB1.out.below hb)
  clear hb
  go_wp2_with fail
  go_at_call 35
  refine (rename_nilp _ _ _).mono ?_
  rintro e w3 ⟨rfl, hb⟩
  have HB3 := Lib.hid (HB2.out.below hb)
  clear hb
  go_wp2_with fail
  go_at_call 36
  refine (remove_nilp _ _).mono ?_
  rintro e w4 ⟨rfl, hb⟩
  have HB4 := Lib.hid (HB3.out.below hb)
  clear hb
  go_wp2_with fail
  go_at_call 22
  refine (sync_nilp _).mono ?_
  rintro e w' ⟨rfl, rfl⟩
  go_wp2_with fail
  go_at_call 39
  refine (names_nilp _).mono ?_
  rintro e w' ⟨rfl, rfl⟩
  go_wp2_with fail
  go_at_call 33
  refine (pending_nilp _).mono ?_
  rintro e w' ⟨rfl, rfl⟩
  go_wp2_with fail
  go_at_call 37
  refine (copy_nilp _).mono ?_
  rintro e w' ⟨rfl, rfl⟩
  have ha := HB4.out.onP (s' := ((St.new 0).append ls lt).1) (Post := fun e => e = .returned (.int .i64 ((St.new 0).append ls lt).2)) fun F R hr => append_any w4 d (St.new 0) F R ls lt hr ZS.out ZT.out (by simp [St.new])
  unfold ptr at ha
  go_wp2_with fail
  go_at_call 21
  refine ha.mono ?_
  rintro e w5 ⟨rfl, h5⟩
  have HB5 := Lib.hid h5
  clear ha h5
  have hb := HB5.out.onR (t' := ((St.new 0).append ls lt).1) (Post := fun e => e = .returned (.int .i64 ((St.new 0).append ls lt).2)) fun G Q hr => rappend_any w5 r (St.new 0) G Q ls lt hr ZS.out ZT.out (by simp [St.new]) (by simp [St.new]) (by rw [new_wt]; omega)
  unfold ptr at hb
  have HW := Lib.hid (show ((St.new 0).append ls lt).1.wt ≤ 100000000 ∧ ((St.new 0).append ls lt).1.ops.length ≤ 10 by
    unfold St.append; repeat' split
    · exact ⟨by rw [new_wt]; omega, by simp [St.new]⟩
    · exact ⟨by rw [new_wt]; omega, by simp [St.new]⟩
    · exact ⟨by rw [new_wt]; omega, by simp [St.new]⟩
    · rename_i hf
      have hlt0 : lt.length = 0 := by
        simp [St.fits, St.files, St.new, aps, total] at hf
        rw [hf]; rfl
      refine ⟨?_, ?_⟩
      · rw [add_wt, new_wt]; simp [Ch.w, hlt0]
      · unfold St.add; rw [(St.spend_ops _).1]; simp [St.new])
  have HLE := Lib.hid (show (St.new 0).left = -1 from rfl)
  generalize ((St.new 0).append ls lt).1 = s1 at *
  generalize ((St.new 0).append ls lt).2 = e1 at *
  go_wp2_with fail
  go_at_call 40
  refine hb.mono ?_
  rintro e w6 ⟨rfl, h6⟩
  have HB6 := Lib.hid h6
  clear hb h6
  have hsy := HB6.out.sync
  go_wp2_with fail
  go_at_call 22
  refine hsy.mono ?_
  rintro e w7 ⟨rfl, h7⟩
  have HB7 := Lib.hid h7
  clear hsy h7
  have hrs := HB7.out.onR (t' := s1.sync.1) (Post := fun e => e = .returned (.int .i64 s1.sync.2)) fun G Q hr => rsync_any w7 r s1 G Q hr (by have := HW.out.2; omega) HW.out.1
  have HW2 := Lib.hid (show s1.sync.1.wt ≤ 100000000 ∧ s1.sync.1.ops.length ≤ 10000 from ⟨by have := (sync_wt s1).1; have := HW.out.1; omega, by have := (sync_wt s1).2; have := HW.out.2; omega⟩)
  unfold ptr at hrs
  generalize s1.sync.1 = s2 at *
  generalize s1.sync.2 = e2 at *
  go_wp2_with fail
  go_at_call 41
  refine hrs.mono ?_
  rintro e w8 ⟨rfl, h8⟩
  have HB8 := Lib.hid h8
  clear hrs h8
  go_wp2_with fail
  go_at_call 39
  refine HB8.out.left.names.mono ?_
  rintro e w9 ⟨u1, rfl, how1, hb9⟩
  have HB9 := Lib.hid (HB8.out.below hb9)
  have HO1 := Lib.hid how1
  have HNL := Lib.hid (nms_len s2 HB8.out.left.ok)
  obtain ⟨ua, uc, huf, -⟩ := how1.rd.form
  subst huf
  clear how1 hb9
  have hrn : Calls Try.prog 42 #[ptr r] w9 fun e w' => ∃ v, e = .returned v ∧ Own w' w9.heap.size 9 1 encS v s2.nms ∧ Below w9.heap.size w9 w' := by
    obtain ⟨F, R, G, Q, h1, h2, -⟩ := HB9.out
    exact rnames_any w9 r s2 G Q h2 HW2.out.2 HW2.out.1
  unfold ptr at hrn
  go_wp2_with fail
  go_at_call 42
  refine hrn.mono ?_
  rintro e w10 ⟨u2, rfl, how2, hb10⟩
  have HB10 := Lib.hid (HB9.out.below hb10)
  have HO2 := Lib.hid how2
  have HO3 := Lib.hid (HO1.out.below hb10)
  obtain ⟨ua2, uc2, huf, -⟩ := how2.rd.form
  subst huf
  clear how2 hb10 hrn
  have hsame := same_any w10 _ _ s2.nms s2.nms HO3.out.rd HO2.out.rd HNL.out HNL.out
  rw [decide_eq_true (rfl : s2.nms = s2.nms)] at hsame
  go_wp2_with fail
  go_at_call 32
  refine hsame.mono ?_
  rintro e w11 ⟨rfl, hb11⟩
  have HB11 := Lib.hid (HB10.out.below hb11)
  clear hb11 hsame
  go_wp2_with fail
  go_at_call 19
  refine (HAW.out _).mono ?_
  rintro e w' ⟨rfl, hb⟩
  have HBB := Lib.hid (HB11.out.below hb).bel
  clear hb
  go_wp2
  go_ret
  exact ⟨rfl, by rw [HD.out]; exact HBB.out⟩

end Go.Proofs.Ytbfgkcgnhgfkmaa.Dk
