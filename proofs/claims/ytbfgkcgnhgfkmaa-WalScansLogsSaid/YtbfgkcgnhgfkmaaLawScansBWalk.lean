/-
  The walk of WalScansBytes: it returns true.
-/
import Derived.Test.YtbfgkcgnhgfkmaaWlM
namespace Go.Proofs.Ytbfgkcgnhgfkmaa.Wl
open Go Go.RowKit Go.Proofs.Ytbfgkcgnhgfkmaa.Slc Go.Proofs.Ytbfgkcgnhgfkmaa.Hs
open Go.Proofs.Ytbfgkcgnhgfkmaa.Dk (Fr ptr bstr bstr_size bstr_list same_any bstr_back)
set_option linter.unusedVariables false
set_option linter.unusedSimpArgs false

theorem scan_len : ∀ (m : Nat) (b : B) (out : List B) (at_ : Nat), b.length - at_ ≤ m → at_ ≤ b.length → ∀ r, scanA b out at_ = some r → r.1.length ≤ out.length + (b.length - at_) ∧ r.2 ≤ b.length := by
  intro m
  induction m with
  | zero =>
    intro b out at_ h ha r hr
    rw [scan_end b out at_ (by omega)] at hr
    cases hr; simp only; omega
  | succ m ih =>
    intro b out at_ h ha r hr
    by_cases h1 : b.length < at_ + 4
    · rw [scan_end b out at_ h1] at hr; cases hr; simp only; omega
    · by_cases h2 : 65536 < num4 b at_
      · rw [scan_big b out at_ h1 h2] at hr; cases hr
      · by_cases h3 : b.length < at_ + (8 + num4 b at_)
        · rw [scan_part b out at_ h1 h2 h3] at hr; cases hr; simp only; omega
        · by_cases h4 : rec_ b at_ = frameB out.length (dat b at_) ∧ out.length ≠ 4096
          · rw [scan_next b out at_ h1 h2 h3 h4.1 h4.2] at hr
            have := ih b _ _ (by omega) (by omega) r hr
            rw [List.length_append] at this
            simp only [List.length_cons, List.length_nil] at this
            omega
          · rw [scan_bad b out at_ h1 h2 h3 (by by_cases q : rec_ b at_ = frameB out.length (dat b at_); exact .inr (by by_cases q2 : out.length = 4096; exact q2; exact absurd ⟨q, q2⟩ h4); exact .inl q)] at hr
            cases hr
theorem scanB_len (b : B) (r : List B × Nat) (h : scanB b = some r) : r.1.length ≤ b.length ∧ r.2 ≤ b.length := by
  have := scan_len b.length b [] 0 (by omega) (by omega) r h
  simp at this; omega

set_option maxHeartbeats 2000000 in
set_option maxRecDepth 10000 in
theorem law_scansb (D : ByteArray) (w : World) (hz : D.size ≤ 140737488355328) :
    Calls Try.prog 11 #[.string D] w fun e w' => e = .returned (.bool true) ∧ Below w.heap.size w w' := by
  obtain ⟨b, rfl⟩ : ∃ b, D = bstr b := ⟨_, (bstr_back D).symm⟩
  rw [bstr_size] at hz
  have hsz : (bstr b).size = b.length := bstr_size b
  have HAW := Lib.hid (fun W => wawake_any W)
  by_cases hbig : 1000 < b.length
  · have t1 : decide ((b.length : Int) > 1000) = true := by rw [decide_eq_true_eq]; omega
    clear hbig
    generalize bstr b = X at *
    go_enter Try.func11, Try.ntmps11
    go_wp2_with fail
    go_at_call 43
    refine (HAW.out _).mono ?_
    rintro e w' ⟨rfl, hb⟩
    go_wp2
    go_ret
    exact ⟨rfl, hb⟩
  · have t1 : decide ((b.length : Int) > 1000) = false := by rw [decide_eq_false_iff_not]; omega
    have HS1 := Lib.hid (fun W => scan_any b W (by omega))
    have HS2 := Lib.hid (fun W => rscan_any b W (by omega))
    have hl := scanB_len b
    cases hs : scanB b with
    | none =>
      rw [hs] at HS1 HS2
      have HSM := Lib.hid (fun W => same_any W (.slice none 0 0) (.slice none 0 0) [] [] (Rd.nil W) (Rd.nil W) (by simp) (by simp))
      clear hl hs hbig
      generalize bstr b = X at *
      go_enter Try.func11, Try.ntmps11
      go_wp2_with fail
      go_at_call 44
      refine (HS1.out _).mono ?_
      rintro e w1 ⟨rfl, hb1⟩
      have HB1 := Lib.hid hb1
      clear hb1
      go_wp2_with fail
      go_at_call 45
      refine (HS2.out _).mono ?_
      rintro e w2 ⟨rfl, hb2⟩
      have HB2 := Lib.hid (HB1.out.trans (hb2.mono HB1.out.size))
      clear hb2
      go_wp2_with fail
      go_at_call 32
      refine (HSM.out _).mono ?_
      rintro e w3 ⟨rfl, hb3⟩
      have HB3 := Lib.hid (HB2.out.trans (hb3.mono HB2.out.size))
      clear hb3
      simp only [decide_true]
      go_wp2_with fail
      go_at_call 43
      refine (HAW.out _).mono ?_
      rintro e w4 ⟨rfl, hb4⟩
      have HB4 := Lib.hid (HB3.out.trans (hb4.mono HB3.out.size))
      clear hb4
      go_wp2
      go_ret
      exact ⟨rfl, HB4.out⟩
    | some r =>
      obtain ⟨recs, n⟩ := r
      have hl2 := hl _ hs
      simp only at hl2
      rw [hs] at HS1 HS2
      have HSM := Lib.hid (fun W va vb ha hb => same_any W va vb recs recs ha hb (by omega) (by omega))
      clear hl hs hbig
      generalize bstr b = X at *
      go_enter Try.func11, Try.ntmps11
      go_wp2_with fail
      go_at_call 44
      refine (HS1.out _).mono ?_
      rintro e w1 ⟨va, rfl, hva, hb1⟩
      obtain ⟨aa, ca, hfa, -⟩ := hva.rd.form
      subst hfa
      have HVA := Lib.hid hva.rd
      have HB1 := Lib.hid hb1
      clear hb1 hva
      go_wp2_with fail
      go_at_call 45
      refine (HS2.out _).mono ?_
      rintro e w2 ⟨vb, rfl, hvb, hb2⟩
      obtain ⟨ab, cb, hfb, -⟩ := hvb.rd.form
      subst hfb
      have hsm := HSM.out w2 _ _ (HVA.out.below hb2) hvb.rd
      have HSA := Lib.hid hsm
      have HB2 := Lib.hid (HB1.out.trans (hb2.mono HB1.out.size))
      clear hb2 hsm hvb
      go_wp2_with fail
      go_at_call 32
      refine HSA.out.mono ?_
      rintro e w3 ⟨rfl, hb3⟩
      have HB3 := Lib.hid (HB2.out.trans (hb3.mono HB2.out.size))
      clear hb3
      simp only [decide_true]
      go_wp2_with fail
      go_at_call 43
      refine (HAW.out _).mono ?_
      rintro e w4 ⟨rfl, hb4⟩
      have HB4 := Lib.hid (HB3.out.trans (hb4.mono HB3.out.size))
      clear hb4
      go_wp2
      go_ret
      exact ⟨rfl, HB4.out⟩
end Go.Proofs.Ytbfgkcgnhgfkmaa.Wl
