/-
  The walk of WalFrames: it returns true.
-/
import Derived.Test.YtbfgkcgnhgfkmaaWlM
namespace Go.Proofs.Ytbfgkcgnhgfkmaa.Wl
open Go Go.RowKit Go.Proofs.Ytbfgkcgnhgfkmaa.Slc Go.Proofs.Ytbfgkcgnhgfkmaa.Hs
open Go.Proofs.Ytbfgkcgnhgfkmaa.Dk (Fr ptr bstr bstr_size bstr_list same_any bstr_back)
set_option linter.unusedVariables false
set_option linter.unusedSimpArgs false

theorem frames_len2 (n : Int) (d : B) : (frameR n d).1.length ≤ d.length + 8 := by
  unfold frameR; split
  · simp
  · split
    · simp
    · rw [frameB_len]; omega
theorem made_zr (m : Nat) : (madeCells #[Value.int .u8 0] (m * 1)).toList = (zr m).flatMap encU := by
  rw [flat_encU, toList_madeCells_one]; simp [zr]
set_option maxHeartbeats 2000000 in
set_option maxRecDepth 10000 in
theorem law_frames (n : Int) (D : ByteArray) (lng : Bool) (w : World) (hn0 : -9223372036854775808 ≤ n) (hn1 : n ≤ 9223372036854775807) (hz : D.size ≤ 140737488355328) :
    Calls Try.prog 13 #[.int .i64 n, .string D, .bool lng] w fun e w' => e = .returned (.bool true) ∧ Below w.heap.size w w' := by
  obtain ⟨d, rfl⟩ : ∃ b, D = bstr b := ⟨_, (bstr_back D).symm⟩
  rw [bstr_size] at hz
  have hsz : (bstr d).size = d.length := bstr_size d
  have HAW := Lib.hid (fun W => wawake_any W)
  by_cases hbig : 1000 < d.length
  · have t1 : decide ((d.length : Int) > 1000) = true := by rw [decide_eq_true_eq]; omega
    clear hbig
    generalize bstr d = X at *
    go_enter Try.func13, Try.ntmps13
    go_wp2_with fail
    go_at_call 43
    refine (HAW.out _).mono ?_
    rintro e w' ⟨rfl, hb⟩
    go_wp2
    go_ret
    exact ⟨rfl, hb⟩
  · have t1 : decide ((d.length : Int) > 1000) = false := by rw [decide_eq_false_iff_not]; omega
    cases lng with
    | false =>
      have HF1 := Lib.hid (fun W => Frame_any n d W hn1 (by omega))
      have HF2 := Lib.hid (fun W => rFrame_any n d W hn1 (by omega))
      clear hbig hn0 hn1
      generalize bstr (frameR n d).1 = FR at *
      generalize (frameR n d).2 = FE at *
      generalize bstr d = X at *
      go_enter Try.func13, Try.ntmps13
      go_wp2_with fail
      go_at_call 48
      refine (HF1.out _).mono ?_
      rintro e w1 ⟨rfl, hb1⟩
      have HB1 := Lib.hid hb1
      clear hb1
      go_wp2_with fail
      go_at_call 49
      refine (HF2.out _).mono ?_
      rintro e w2 ⟨rfl, hb2⟩
      have HB2 := Lib.hid (HB1.out.trans (hb2.mono HB1.out.size))
      clear hb2
      go_wp2_with fail
      go_at_call 43
      refine (HAW.out _).mono ?_
      rintro e w3 ⟨rfl, hb3⟩
      have HB3 := Lib.hid (HB2.out.trans (hb3.mono HB2.out.size))
      clear hb3
      go_wp2
      go_ret
      exact ⟨rfl, HB3.out⟩
    | true =>
      obtain ⟨i0, hi0, hz0, hz1, hz2⟩ := info_parts info_u8
      obtain ⟨z, hz⟩ : ∃ z, z = zr 65537 := ⟨_, rfl⟩
      have hzl : z.length = 65537 := by rw [hz]; exact List.length_replicate
      have HF1 := Lib.hid (fun W => Frame_any n (z ++ d) W hn1 (by rw [List.length_append]; omega))
      have HF2 := Lib.hid (fun W => rFrame_any n (z ++ d) W hn1 (by rw [List.length_append]; omega))
      have hcat := cat_b z d (by omega)
      have HZ := Bx.mk hz
      clear hbig hn0 hn1 hz
      generalize bstr (frameR n (z ++ d)).1 = FR at *
      generalize (frameR n (z ++ d)).2 = FE at *
      generalize bstr (z ++ d) = Y at *
      generalize bstr d = X at *
      go_enter Try.func13, Try.ntmps13
      go_wp2_with (at_make; refine wpList_make_full _ rfl _ _ _ rfl w.heap.size 5 i0 _ 1 und_bytes hi0 hz0 hz1 .i64 .i64 _ _ 65537 rfl rfl rfl rfl (by rw [hz2]; omega) (by unfold maxLen; omega) (Nat.le_refl _) ?_)
      intro w2 ho2 hg2
      have hown0 : Own w2 w.heap.size 5 1 encU (.slice (some ⟨w.heap.size, 0, none⟩) 65537 65537) z := Own.of ho2 (by rw [hzl]) (by
        rw [HZ.out]; exact made_zr 65537)
      have hb2 : Below w.heap.size w w2 := ⟨hg2.os, hg2.tape, hg2.output, hg2.size, fun k hk => hg2.block k hk (by simp)⟩
      have hcv := back_u hown0 (by omega)
      have HB0 := Lib.hid hb2
      clear ho2 hg2 hown0 hb2 HZ
      generalize bstr z = ZZ at *
      go_wp2_with fail
      go_at_call 48
      refine (HF1.out _).mono ?_
      rintro e w1 ⟨rfl, hb1⟩
      have HB1 := Lib.hid (HB0.out.trans (hb1.mono HB0.out.size))
      clear hb1
      go_wp2_with fail
      go_at_call 49
      refine (HF2.out _).mono ?_
      rintro e w2 ⟨rfl, hb2⟩
      have HB2 := Lib.hid (HB1.out.trans (hb2.mono HB1.out.size))
      clear hb2
      go_wp2_with fail
      go_at_call 43
      refine (HAW.out _).mono ?_
      rintro e w3 ⟨rfl, hb3⟩
      have HB3 := Lib.hid (HB2.out.trans (hb3.mono HB2.out.size))
      clear hb3
      go_wp2
      go_ret
      exact ⟨rfl, HB3.out⟩
end Go.Proofs.Ytbfgkcgnhgfkmaa.Wl
