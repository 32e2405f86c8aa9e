/-
  The laws' do at any call; Same, agree.
-/
/-
  The law's agree. (Written by wip/gen/gen_agree.py.)
-/
import Derived.Test.YtbfgkcgnhgfkmaaDkDo1
namespace Go.Proofs.Ytbfgkcgnhgfkmaa.Dk
open Go Go.Maps Go.RowKit Go.Proofs.Ytbfgkcgnhgfkmaa.Slc
set_option linter.unusedVariables false
set_option linter.unusedSimpArgs false

theorem do_any (w : World) (d r : Nat) (s t : St) (F R G Q : Nat → Prop) (c : Cl) (hP : RepP w d s F R) (hR : RepR w r t G Q) (hA : Apart F R G Q) (hc : c.Fit) (hs : s.Fit) (ht : t.Fit) :
    Calls Try.prog 28 #[ptr d, ptr r, .agg c.cells.toArray] w fun e w' => e = .returned (.bool ((s.call c).2 == (t.call c).2)) ∧ Both w w' d r (s.call c).1 (t.call c).1 F R G Q := by
  have h : c.kind % 6 = 0 ∨ c.kind % 6 = 1 ∨ c.kind % 6 = 2 ∨ c.kind % 6 = 3 ∨ c.kind % 6 = 4 ∨ c.kind % 6 = 5 := by omega
  rcases h with h | h | h | h | h | h
  · exact do_0 w d r s t F R G Q c hP hR hA hc hs ht h
  · exact do_1 w d r s t F R G Q c hP hR hA hc hs ht h
  · exact do_2 w d r s t F R G Q c hP hR hA hc hs ht h
  · exact do_3 w d r s t F R G Q c hP hR hA hc hs ht h
  · exact do_4 w d r s t F R G Q c hP hR hA hc hs ht h
  · exact do_5 w d r s t F R G Q c hP hR hA hc hs ht h
/-- how much a call adds -/
theorem spend_wt (s : St) : s.spend.wt = s.wt := by
  obtain ⟨h1, h2, h3⟩ := St.spend_ops s
  unfold St.wt; rw [h1, h2]
theorem add_wt (s : St) (c : Ch) : (s.add c).wt = s.wt + c.w := by
  unfold St.add; rw [spend_wt]; unfold St.wt; simp only; rw [wts_snoc]; omega
theorem files_wt (s : St) : total s.files ≤ s.wt := total_aps s.dur s.ops
theorem torn_wt (s : St) (k : Nat) (b : Int) : total (s.torn k b) ≤ s.wt := by
  have base : total (aps s.dur (s.ops.take k)) ≤ s.wt := by
    have h1 := total_aps s.dur (s.ops.take k)
    have h2 := wts_take s.ops k
    unfold St.wt; omega
  unfold St.torn
  cases hc : s.ops[k]? with
  | none => exact base
  | some c =>
    obtain ⟨hlt, hck⟩ := List.getElem?_eq_some_iff.1 hc
    cases c with
    | ren a b => exact base
    | rem n => exact base
    | app n d =>
      simp only
      split
      · have h1 := s.small k hlt n d hck
        rw [total_app, List.length_take]
        omega
      · exact base
theorem call_wt (s : St) (c : Cl) : (s.call c).1.wt ≤ s.wt + c.data.length ∧ (s.call c).1.ops.length ≤ s.ops.length + 1 := by
  have hspo : ∀ x : St, x.spend.ops = x.ops := fun x => (St.spend_ops x).1
  have hadd : ∀ x : Ch, x.w ≤ c.data.length → (s.add x).wt ≤ s.wt + c.data.length ∧ (s.add x).ops.length ≤ s.ops.length + 1 := fun x h => by
    refine ⟨by rw [add_wt]; omega, ?_⟩
    unfold St.add; rw [hspo]; simp
  have hid : s.wt ≤ s.wt + c.data.length ∧ s.ops.length ≤ s.ops.length + 1 := by omega
  unfold St.call
  split
  · unfold St.append; (repeat' split) <;> first | exact hid | exact hadd _ (Nat.le_refl _)
  · split
    · unfold St.rename; (repeat' split) <;> first | exact hid | exact hadd _ (Nat.zero_le _)
    · split
      · unfold St.remove; (repeat' split) <;> first | exact hid | exact hadd _ (Nat.zero_le _)
      · split
        · unfold St.sync
          split
          · exact hid
          · refine ⟨?_, by rw [hspo]; simp⟩
            show (St.spend _).wt ≤ _
            rw [spend_wt]
            have := files_wt s
            unfold St.wt at *; simp only [wts]; omega
        · split
          · unfold St.fuse; split
            · exact hid
            · exact hid
          · have := torn_wt s (keepN s c.ck) c.cm
            refine ⟨?_, by simp [St.crash]⟩
            show total _ + wts [] ≤ _
            simp only [wts]
            exact Nat.le_trans (by simpa [St.crash] using this) (Nat.le_add_right _ _)

set_option maxHeartbeats 1000000 in
theorem same_any (w : World) (va vb : Value) (A B' : List B) (ha : Rd w encS va A) (hb : Rd w encS vb B') (hla : A.length ≤ 100000) (hlb : B'.length ≤ 100000) :
    Calls Try.prog 32 #[va, vb] w fun e w' => e = .returned (.bool (decide (A = B'))) ∧ Below w.heap.size w w' := by
  obtain ⟨aa, ca, hfa, -⟩ := ha.form
  obtain ⟨ab, cb, hfb, -⟩ := hb.form
  subst hfa hfb
  have key : ∀ {v : Value} {ad : Option Addr} {cc : Nat} {L : List B}, Rd w encS (.slice ad L.length cc) L → ∀ (W : World), Below w.heap.size w W → ∀ k (hk : k < L.length), ∃ b o, ad = some ⟨b, o, none⟩ ∧ W.cell? ⟨b, o + k, none⟩ = some (.string (bstr L[k])) := by
    intro v ad cc L h W hW k hk
    obtain ⟨b, o, c, hv, _, hlt, hc⟩ := h.cells encS_ok (by omega)
    simp only [Value.slice.injEq] at hv
    have := hc W (fun z hz => hW.block z (by rw [hv.1] at hz; cases hz; exact hlt)) k hk 0 _ (by omega) rfl
    rw [show o + (k * 1 + 0) = o + k by omega] at this
    exact ⟨b, o, hv.1, this⟩
  have HA := Lib.hid (key (v := .bool true) ha)
  have HB := Lib.hid (key (v := .bool true) hb)
  clear key ha hb
  by_cases hlen : A.length = B'.length
  · have t0 : (((A.length : Int)) != (B'.length : Int)) = false := by simp [hlen]
    have HLEN := Lib.hid hlen
    clear hlen
    go_enter Try.func32, Try.ntmps32
    go_wp2
    go_loopw [5] (fun i wx => ∃ k : Nat, k ≤ A.length ∧ i = .int .i64 (k : Int) ∧ A.take k = B'.take k ∧ Below w.heap.size w wx) (fun i _ => A.length - (intOf i).toNat)
    case atStart => exact ⟨0, Nat.zero_le _, rfl, by simp, Below.refl _ _⟩
    case round =>
      obtain ⟨k, hk, rfl, htk, hbx⟩ := hrel
      have HTK := Lib.hid htk
      have HBX := Lib.hid hbx
      by_cases hlt : k < A.length
      · have hltb : k < B'.length := by have := HLEN.out; omega
        obtain ⟨b1, o1, rfl, hx1⟩ := HA.out _ hbx k hlt
        obtain ⟨b2, o2, rfl, hx2⟩ := HB.out _ hbx k hltb
        clear htk hbx
        by_cases hq : A[k] = B'[k]
        · have hs : ((bstr A[k]).toList == (bstr B'[k]).toList) = true := by rw [hq]; exact beq_self_eq_true _
          have HST := Lib.hid (show A.take (k + 1) = B'.take (k + 1) by rw [List.take_succ_eq_append_getElem hlt, List.take_succ_eq_append_getElem hltb, HTK.out, hq])
          clear hq
          generalize bstr A[k] = X at *
          generalize bstr B'[k] = Y at *
          go_wp2_with fail
          go_quiet (fail)
          go_wp2
          go_roundw
          case rel => exact ⟨k + 1, by omega, by go_num, HST.out, below_drewN HBX.out _⟩
          case measure => simp [intOf]; omega
        · have hs : ((bstr A[k]).toList == (bstr B'[k]).toList) = false := by
            rw [ByteArray.toList_eq, ByteArray.toList_eq, bstr_list, bstr_list]
            simpa using hq
          have HNE := Lib.hid (show decide (A = B') = false by
            rw [decide_eq_false_iff_not]; intro h; subst h; exact hq rfl)
          clear hq
          generalize bstr A[k] = X at *
          generalize bstr B'[k] = Y at *
          go_wp2_with fail
          go_quiet (fail)
          go_wp2
          go_ret
          exact ⟨by rw [HNE.out]; rfl, below_drewN HBX.out _⟩
      · have HEQ := Lib.hid (show decide (A = B') = true by
          rw [decide_eq_true_eq]
          have h1 : k = A.length := by omega
          have := HLEN.out
          subst h1
          have h2 := HTK.out
          rw [List.take_length, this, List.take_length] at h2; exact h2)
        obtain rfl : k = A.length := by omega
        clear htk hbx
        go_wp2
        go_ret
        exact ⟨by rw [HEQ.out]; rfl, HBX.out⟩
  · have t0 : (((A.length : Int)) != (B'.length : Int)) = true := by simp; omega
    have HNE := Lib.hid (show decide (A = B') = false by rw [decide_eq_false_iff_not]; intro h; subst h; exact hlen rfl)
    clear hlen
    go_enter Try.func32, Try.ntmps32
    go_wp2
    go_ret
    exact ⟨by rw [HNE.out]; rfl, Below.refl _ _⟩

end Go.Proofs.Ytbfgkcgnhgfkmaa.Dk

namespace Go.Proofs.Ytbfgkcgnhgfkmaa.Dk
open Go Go.Maps Go.RowKit Go.Proofs.Ytbfgkcgnhgfkmaa.Slc
set_option linter.unusedVariables false
set_option linter.unusedSimpArgs false

def AgF (W : World) (d r : Nat) (s : St) (lv ov : Value) : Nat → Value → World → Prop
  | 0, v, _ => v = ptr d
  | 1, v, w => Own w W.heap.size 9 1 encS v s.nms
  | 2, v, _ => v = lv
  | 3, v, _ => v = .bool true
  | 4, v, _ => v = .bool false
  | 5, v, _ => v = .bool false
  | 6, v, _ => v = ptr d
  | 7, v, _ => v = .int .i64 (s.ops.length : Int)
  | 8, v, _ => v = ptr r
  | 9, v, _ => v = ptr r
  | 10, v, _ => v = .pointer (some ⟨r, 2, none⟩)
  | 11, v, _ => v = ov
  | 12, v, _ => v = .int .i64 (s.ops.length : Int)
  | 13, v, _ => v = .bool false
  | 14, v, _ => v = .bool false
  | _, _, _ => True
theorem AgF.stable (W : World) (d r : Nat) (s : St) (lv ov : Value) (i : Nat) (v : Value) (w w' : World) (h : AgF W d r s lv ov i v w) (hb : Below w.heap.size w w') : AgF W d r s lv ov i v w' := by
  match i with
  | 0 | 2 | 3 | 4 | 5 | 6 | 7 | 8 | 9 | 10 | 11 | 12 | 13 | 14 => exact h
  | 1 => exact Own.below (t := 9) h hb
  | _ + 15 => exact trivial

def c0 : Cl := ⟨0, 0, 0, 0, 0, [], [], false⟩
theorem nms_len (s : St) (h : s.Ok) : s.nms.length ≤ 100000 := by
  unfold St.nms; split
  · simp
  · unfold sorted; rw [Ins.isort_length]; have := h.cnt'; simp [names]; omega
set_option maxHeartbeats 4000000 in
set_option maxRecDepth 20000 in
theorem agree_any (w : World) (d r : Nat) (s : St) (F R G Q : Nat → Prop) (hP : RepP w d s F R) (hR : RepR w r s G Q) (hs : s.Fit) :
    Calls Try.prog 29 #[ptr d, ptr r] w fun e w' => e = .returned (.bool true) ∧ Below w.heap.size w w' := by
  have hrn := rnames_any w r s G Q hR hs.ops (by have := hs.wt; omega)
  have HP := Lib.hid hP
  have HR := Lib.hid hR
  have HS := Lib.hid hs
  clear hP hR hs
  unfold ptr at *
  go_enter Try.func29, Try.ntmps29
  go_wp2_with fail
  go_at_call 42
  refine hrn.mono ?_
  rintro e w1 ⟨lv, rfl, hlv, hb1⟩
  have HB1 := Lib.hid hb1
  have HLV := Lib.hid hlv.rd
  have HPW := Lib.hid (HP.out.below hb1)
  have HRW := Lib.hid (HR.out.below hb1)
  have HNL := Lib.hid (nms_len s HP.out.ok)
  have HPE := Lib.hid (show ∀ (W : World), Below w1.heap.size w1 W → Calls Try.prog 33 #[.pointer (some ⟨d, 0, none⟩)] W fun e w' => e = .returned (.int .i64 (s.ops.length : Int)) ∧ W = w' from fun W hW => by
    obtain ⟨dv, fv, pv, cs, ⟨fuse, hblk, -⟩, -, -, hpv, hcs, -⟩ := (HPW.out.below hW).body
    obtain ⟨pa, pc, hpf, -⟩ := hpv.rd.form
    subst hpf
    have := pending_any d W _ _ _ _ _ _ _ _ _ hblk
    rwa [Cvs.length hcs] at this)
  obtain ⟨fv, ov, hdr, -, -, hov, -⟩ := HRW.out.body
  obtain ⟨oa, oc, hof, -⟩ := hov.rd.form
  subst hof
  have hblk : w1.heap[r]? = some (rblk s.cap fv (.slice oa s.ops.length oc) s.left s.off) := hdr
  have HBK := Lib.hid hblk
  obtain ⟨la, lc, hlf, -⟩ := HLV.out.form
  subst hlf
  clear hlv hb1 hrn hdr hov hblk
  go_wp2_with fail
  refine wp_region_facts 15 (AgF w1 d r s (.slice la s.nms.length lc) (.slice oa s.ops.length oc)) (by kernel_rfl) (by kernel_rfl) (by rfl) (AgF.stable _ _ _ _ _ _) ?_ ?_
  · intro i o hi9 ho9 x w2 hb2 hd1
    have hc : i = 0 ∨ i = 1 ∨ i = 2 ∨ i = 3 ∨ i = 4 ∨ i = 5 ∨ i = 6 ∨ i = 7 ∨ i = 8 ∨ i = 9 ∨ i = 10 ∨ i = 11 ∨ i = 12 ∨ i = 13 ∨ i = 14 := by omega
    obtain ⟨-, -, c2, -, -, -⟩ := rblk_cells ((hb2.block r (lt_of_block HBK.out)).trans HBK.out)
    have HB2 := Lib.hid hb2
    simp only [List.take_succ_cons, List.take_zero, putFrom, Act.put, List.setIfInBounds_toArray, List.set_cons_succ, List.set_cons_zero, Nat.zero_add, Nat.reduceAdd]
    clear hb2
    rcases hc with rfl | rfl | rfl | rfl | rfl | rfl | rfl | rfl | rfl | rfl | rfl | rfl | rfl | rfl | rfl
    all_goals
      simp only [List.getElem?_cons_succ, List.getElem?_cons_zero, Option.some.injEq] at ho9
      subst ho9
      simp [Needs, Region.binds, AgF, ptr] at hd1
    all_goals clear hi9
    · go_wp2_with fail
      exact ⟨rfl, rfl, rfl, Below.refl _ _⟩
    · have hnm := names_any w2 d s F R (HPW.out.below HB2.out)
      unfold ptr at hnm
      clear c2
      go_wp2_with fail
      go_at_call 39
      refine hnm.mono ?_
      rintro e w3 ⟨v, rfl, hv, hb⟩
      have HV := Lib.hid (hv.mono HB2.out.size)
      have HBB := Lib.hid hb
      clear hv hb hnm
      go_wp2_with fail
      exact ⟨rfl, rfl, HV.out, HBB.out⟩
    · go_wp2_with fail
      exact ⟨rfl, rfl, rfl, Below.refl _ _⟩
    · obtain ⟨ho1', h2, -⟩ := hd1
      have hsm := same_any w2 (x 1) (.slice la s.nms.length lc) s.nms s.nms (Own.rd ho1') (HLV.out.below HB2.out) HNL.out HNL.out
      rw [decide_eq_true rfl, ← h2] at hsm
      have HSMM := Lib.hid hsm
      clear hsm ho1' h2 c2
      go_wp2_with fail
      go_at_call 32
      refine HSMM.out.mono ?_
      rintro e w3 ⟨rfl, hb⟩
      have HBB := Lib.hid hb
      clear hb
      go_wp2_with fail
      exact ⟨rfl, rfl, rfl, HBB.out⟩
    · go_wp2_with fail
      exact ⟨rfl, rfl, rfl, Below.refl _ _⟩
    · go_wp2_with fail
      exact ⟨rfl, rfl, rfl, Below.refl _ _⟩
    · go_wp2_with fail
      exact ⟨rfl, rfl, rfl, Below.refl _ _⟩
    · have hpe := HPE.out w2 HB2.out
      clear c2
      go_wp2_with fail
      go_at_call 33
      refine hpe.mono ?_
      rintro e w' ⟨rfl, rfl⟩
      go_wp2_with fail
      exact ⟨rfl, rfl, rfl, Below.refl _ _⟩
    · go_wp2_with fail
      exact ⟨rfl, rfl, rfl, Below.refl _ _⟩
    · go_wp2_with fail
      exact ⟨rfl, rfl, rfl, Below.refl _ _⟩
    · go_wp2_with fail
      exact ⟨rfl, rfl, rfl, Below.refl _ _⟩
    · go_wp2_with fail
      exact ⟨rfl, rfl, rfl, Below.refl _ _⟩
    · go_wp2_with fail
      exact ⟨rfl, rfl, rfl, Below.refl _ _⟩
    · go_wp2_with fail
      exact ⟨rfl, rfl, rfl, Below.refl _ _⟩
    · go_wp2_with fail
      exact ⟨rfl, rfl, rfl, Below.refl _ _⟩
  · intro x w2 hb2 hf
    have f14 := hf 14 (by omega)
    simp only [AgF] at f14
    simp only [List.take_succ_cons, List.take_zero, List.drop_succ_cons, List.drop_zero, putFrom, Act.put, List.setIfInBounds_toArray, List.set_cons_succ, List.set_cons_zero, Nat.zero_add, Nat.reduceAdd, f14]
    have HB2 := Lib.hid hb2
    clear hf f14 hb2
    go_wp2_with fail
    go_loopw [6] (fun i wr => ∃ k : Nat, k ≤ 6 ∧ i = .int .i64 (k : Int) ∧ Below w1.heap.size w1 wr) (fun i _ => 6 - (intOf i).toNat)
    case atStart => exact ⟨0, by omega, rfl, HB2.out⟩
    case round =>
      obtain ⟨k, hk, rfl, hbw⟩ := hrel
      have HBW := Lib.hid hbw
      by_cases hlt : k < 6
      · have hnm := name_any c0 (k : Int) wr ⟨by omega, by omega⟩
        have HLN := Lib.hid (c0.nm_len (k : Int) (by simp [c0]))
        have hagg : (Value.agg c0.cells.toArray) = .agg #[.int .i64 0, .int .i64 0, .int .i64 0, .int .i64 0, .int .i64 0, .string ⟨#[]⟩, .string ⟨#[]⟩, .bool false] := rfl
        rw [hagg] at hnm
        have HNM := Lib.hid hnm
        clear hnm hagg hbw
        generalize c0.nm (k : Int) = N at *
        go_wp2_with fail
        go_at_call 34
        refine HNM.out.mono ?_
        rintro e w3 ⟨rfl, hb3⟩
        have HB3 := Lib.hid (HBW.out.trans (hb3.mono HBW.out.size))
        have HRD := Lib.hid (read_any w3 d s F R N (HPW.out.below HB3.out) (by have := HLN.out; omega))
        have HRR := Lib.hid (rread_any w3 r s G Q N (HRW.out.below HB3.out) (by have := HLN.out; omega) HS.out.ops (by have := HS.out.wt; omega))
        unfold ptr rdV at HRD HRR
        clear hb3
        generalize s.read N = res at *
        obtain ⟨rb, re⟩ := res
        simp only at HRD HRR
        have hsame : ((bstr rb).toList == (bstr rb).toList) = true := beq_self_eq_true _
        generalize bstr rb = RB at *
        generalize bstr N = NN at *
        go_wp2_with fail
        go_at_call 25
        refine HRD.out.mono ?_
        rintro e w' ⟨rfl, rfl⟩
        go_wp2_with fail
        go_at_call 60
        refine HRR.out.mono ?_
        rintro e w4 ⟨rfl, hb4⟩
        have HB4 := Lib.hid (HB3.out.trans (hb4.mono HB3.out.size))
        clear hb4
        go_wp2
        go_roundw
        case rel => exact ⟨k + 1, by omega, by go_num, HB4.out⟩
        case measure => simp [intOf]; omega
      · obtain rfl : k = 6 := by omega
        clear hbw
        go_wp2
        go_ret
        exact ⟨rfl, HB1.out.trans (HBW.out.mono HB1.out.size)⟩

end Go.Proofs.Ytbfgkcgnhgfkmaa.Dk
