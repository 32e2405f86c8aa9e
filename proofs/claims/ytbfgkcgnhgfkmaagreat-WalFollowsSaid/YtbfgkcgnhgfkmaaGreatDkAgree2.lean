/-
  The laws' do at any call; Same, agree.
-/
/-
  The law's agree. (Written by wip/gen/gen_agree.py.)
-/
import Derived.Test.YtbfgkcgnhgfkmaaGreatDkDo1
namespace Go.Proofs.YtbfgkcgnhgfkmaaGreat.Dk
open Go Go.Maps Go.RowKit Go.Proofs.YtbfgkcgnhgfkmaaGreat.Slc
set_option linter.unusedVariables false
set_option linter.unusedSimpArgs false

/-- how much a call adds -/
theorem spend_wt (s : St) : s.spend.wt = s.wt := by
  obtain ⟨h1, h2, h3⟩ := St.spend_ops s
  unfold St.wt; rw [h1, h2]
theorem add_wt (s : St) (c : Ch) : (s.add c).wt = s.wt + c.w := by
  unfold St.add; rw [spend_wt]; unfold St.wt; simp only; rw [wts_snoc]; omega
theorem files_wt (s : St) : total s.files ≤ s.wt := total_aps s.dur s.ops
theorem torn_wt (s : St) (k : Nat) (b : Int) : total (s.torn k b) ≤ s.wt := by
  have base : total (aps s.dur (s.ops.take k)) ≤ s.wt := by
    have h1 := total_aps s.dur (s.ops.take k)
    have h2 := wts_take s.ops k
    unfold St.wt; omega
  unfold St.torn
  cases hc : s.ops[k]? with
  | none => exact base
  | some c =>
    obtain ⟨hlt, hck⟩ := List.getElem?_eq_some_iff.1 hc
    cases c with
    | ren a b => exact base
    | rem n => exact base
    | app n d =>
      simp only
      split
      · have h1 := s.small k hlt n d hck
        rw [total_app, List.length_take]
        omega
      · exact base
theorem call_wt (s : St) (c : Cl) : (s.call c).1.wt ≤ s.wt + c.data.length ∧ (s.call c).1.ops.length ≤ s.ops.length + 1 := by
  have hspo : ∀ x : St, x.spend.ops = x.ops := fun x => (St.spend_ops x).1
  have hadd : ∀ x : Ch, x.w ≤ c.data.length → (s.add x).wt ≤ s.wt + c.data.length ∧ (s.add x).ops.length ≤ s.ops.length + 1 := fun x h => by
    refine ⟨by rw [add_wt]; omega, ?_⟩
    unfold St.add; rw [hspo]; simp
  have hid : s.wt ≤ s.wt + c.data.length ∧ s.ops.length ≤ s.ops.length + 1 := by omega
  unfold St.call
  split
  · unfold St.append; (repeat' split) <;> first | exact hid | exact hadd _ (Nat.le_refl _)
  · split
    · unfold St.rename; (repeat' split) <;> first | exact hid | exact hadd _ (Nat.zero_le _)
    · split
      · unfold St.remove; (repeat' split) <;> first | exact hid | exact hadd _ (Nat.zero_le _)
      · split
        · unfold St.sync
          split
          · exact hid
          · refine ⟨?_, by rw [hspo]; simp⟩
            show (St.spend _).wt ≤ _
            rw [spend_wt]
            have := files_wt s
            unfold St.wt at *; simp only [wts]; omega
        · split
          · unfold St.fuse; split
            · exact hid
            · exact hid
          · have := torn_wt s (keepN s c.ck) c.cm
            refine ⟨?_, by simp [St.crash]⟩
            show total _ + wts [] ≤ _
            simp only [wts]
            exact Nat.le_trans (by simpa [St.crash] using this) (Nat.le_add_right _ _)

set_option maxHeartbeats 1000000 in
theorem same_any (w : World) (va vb : Value) (A B' : List B) (ha : Rd w encS va A) (hb : Rd w encS vb B') (hla : A.length ≤ 100000) (hlb : B'.length ≤ 100000) :
    Calls Tryz.prog 13 #[va, vb] w fun e w' => e = .returned (.bool (decide (A = B'))) ∧ Below w.heap.size w w' := by
  obtain ⟨aa, ca, hfa, -⟩ := ha.form
  obtain ⟨ab, cb, hfb, -⟩ := hb.form
  subst hfa hfb
  have key : ∀ {v : Value} {ad : Option Addr} {cc : Nat} {L : List B}, Rd w encS (.slice ad L.length cc) L → ∀ (W : World), Below w.heap.size w W → ∀ k (hk : k < L.length), ∃ b o, ad = some ⟨b, o, none⟩ ∧ W.cell? ⟨b, o + k, none⟩ = some (.string (bstr L[k])) := by
    intro v ad cc L h W hW k hk
    obtain ⟨b, o, c, hv, _, hlt, hc⟩ := h.cells encS_ok (by omega)
    simp only [Value.slice.injEq] at hv
    have := hc W (fun z hz => hW.block z (by rw [hv.1] at hz; cases hz; exact hlt)) k hk 0 _ (by omega) rfl
    rw [show o + (k * 1 + 0) = o + k by omega] at this
    exact ⟨b, o, hv.1, this⟩
  have HA := Lib.hid (key (v := .bool true) ha)
  have HB := Lib.hid (key (v := .bool true) hb)
  clear key ha hb
  by_cases hlen : A.length = B'.length
  · have t0 : (((A.length : Int)) != (B'.length : Int)) = false := by simp [hlen]
    have HLEN := Lib.hid hlen
    clear hlen
    go_enter Tryz.func13, Tryz.ntmps13
    go_wp2
    go_loopw [5] (fun i wx => ∃ k : Nat, k ≤ A.length ∧ i = .int .i64 (k : Int) ∧ A.take k = B'.take k ∧ Below w.heap.size w wx) (fun i _ => A.length - (intOf i).toNat)
    case atStart => exact ⟨0, Nat.zero_le _, rfl, by simp, Below.refl _ _⟩
    case round =>
      obtain ⟨k, hk, rfl, htk, hbx⟩ := hrel
      have HTK := Lib.hid htk
      have HBX := Lib.hid hbx
      by_cases hlt : k < A.length
      · have hltb : k < B'.length := by have := HLEN.out; omega
        obtain ⟨b1, o1, rfl, hx1⟩ := HA.out _ hbx k hlt
        obtain ⟨b2, o2, rfl, hx2⟩ := HB.out _ hbx k hltb
        clear htk hbx
        by_cases hq : A[k] = B'[k]
        · have hs : ((bstr A[k]).toList == (bstr B'[k]).toList) = true := by rw [hq]; exact beq_self_eq_true _
          have HST := Lib.hid (show A.take (k + 1) = B'.take (k + 1) by rw [List.take_succ_eq_append_getElem hlt, List.take_succ_eq_append_getElem hltb, HTK.out, hq])
          clear hq
          generalize bstr A[k] = X at *
          generalize bstr B'[k] = Y at *
          go_wp2_with fail
          go_quiet (fail)
          go_wp2
          go_roundw
          case rel => exact ⟨k + 1, by omega, by go_num, HST.out, below_drewN HBX.out _⟩
          case measure => simp [intOf]; omega
        · have hs : ((bstr A[k]).toList == (bstr B'[k]).toList) = false := by
            rw [ByteArray.toList_eq, ByteArray.toList_eq, bstr_list, bstr_list]
            simpa using hq
          have HNE := Lib.hid (show decide (A = B') = false by
            rw [decide_eq_false_iff_not]; intro h; subst h; exact hq rfl)
          clear hq
          generalize bstr A[k] = X at *
          generalize bstr B'[k] = Y at *
          go_wp2_with fail
          go_quiet (fail)
          go_wp2
          go_ret
          exact ⟨by rw [HNE.out]; rfl, below_drewN HBX.out _⟩
      · have HEQ := Lib.hid (show decide (A = B') = true by
          rw [decide_eq_true_eq]
          have h1 : k = A.length := by omega
          have := HLEN.out
          subst h1
          have h2 := HTK.out
          rw [List.take_length, this, List.take_length] at h2; exact h2)
        obtain rfl : k = A.length := by omega
        clear htk hbx
        go_wp2
        go_ret
        exact ⟨by rw [HEQ.out]; rfl, HBX.out⟩
  · have t0 : (((A.length : Int)) != (B'.length : Int)) = true := by simp; omega
    have HNE := Lib.hid (show decide (A = B') = false by rw [decide_eq_false_iff_not]; intro h; subst h; exact hlen rfl)
    clear hlen
    go_enter Tryz.func13, Tryz.ntmps13
    go_wp2
    go_ret
    exact ⟨by rw [HNE.out]; rfl, Below.refl _ _⟩

end Go.Proofs.YtbfgkcgnhgfkmaaGreat.Dk

namespace Go.Proofs.YtbfgkcgnhgfkmaaGreat.Dk
open Go Go.Maps Go.RowKit Go.Proofs.YtbfgkcgnhgfkmaaGreat.Slc
set_option linter.unusedVariables false
set_option linter.unusedSimpArgs false

def AgF (W : World) (d r : Nat) (s : St) (lv ov : Value) : Nat → Value → World → Prop
  | 0, v, _ => v = ptr d
  | 1, v, w => Own w W.heap.size 9 1 encS v s.nms
  | 2, v, _ => v = lv
  | 3, v, _ => v = .bool true
  | 4, v, _ => v = .bool false
  | 5, v, _ => v = .bool false
  | 6, v, _ => v = ptr d
  | 7, v, _ => v = .int .i64 (s.ops.length : Int)
  | 8, v, _ => v = ptr r
  | 9, v, _ => v = ptr r
  | 10, v, _ => v = .pointer (some ⟨r, 2, none⟩)
  | 11, v, _ => v = ov
  | 12, v, _ => v = .int .i64 (s.ops.length : Int)
  | 13, v, _ => v = .bool false
  | 14, v, _ => v = .bool false
  | _, _, _ => True
theorem AgF.stable (W : World) (d r : Nat) (s : St) (lv ov : Value) (i : Nat) (v : Value) (w w' : World) (h : AgF W d r s lv ov i v w) (hb : Below w.heap.size w w') : AgF W d r s lv ov i v w' := by
  match i with
  | 0 | 2 | 3 | 4 | 5 | 6 | 7 | 8 | 9 | 10 | 11 | 12 | 13 | 14 => exact h
  | 1 => exact Own.below (t := 9) h hb
  | _ + 15 => exact trivial

def c0 : Cl := ⟨0, 0, 0, 0, 0, [], [], false⟩
theorem nms_len (s : St) (h : s.Ok) : s.nms.length ≤ 100000 := by
  unfold St.nms; split
  · simp
  · unfold sorted; rw [Ins.isort_length]; have := h.cnt'; simp [names]; omega
end Go.Proofs.YtbfgkcgnhgfkmaaGreat.Dk
