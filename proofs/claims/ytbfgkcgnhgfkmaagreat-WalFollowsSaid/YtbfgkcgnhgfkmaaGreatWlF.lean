/-
  wal.Scan.
-/
/-
  The reference's Scan.
-/
import Derived.Test.YtbfgkcgnhgfkmaaGreatWlB
import Derived.IntWalk
namespace Go.Proofs.YtbfgkcgnhgfkmaaGreat.Wl
open Go Go.RowKit Go.Proofs.YtbfgkcgnhgfkmaaGreat.Slc Go.Proofs.YtbfgkcgnhgfkmaaGreat.Hs
open Go.Proofs.YtbfgkcgnhgfkmaaGreat.Dk (Fr ptr bstr bstr_size bstr_list)
set_option linter.unusedVariables false
set_option linter.unusedSimpArgs false

theorem und_strs : Tryz.prog.underlying 43 = some (.slice 9) := by kernel_rfl
theorem info_strs : (Tryz.prog.info? 9).map (fun i => (i.zero, i.size, i.bytes)) = some (some (.string ⟨#[]⟩), 1, 16) := by kernel_rfl
theorem src_str {w : World} {x : Nat} {p : B} (h : w.heap[x]? = some (.cells #[.string (bstr p)] 9 (0, 0))) : SrcV w 1 (.slice (some ⟨x, 0, none⟩) 1 1) 1 ([p].flatMap Dk.encS) := by
  refine .ro _ _ _ _ rfl (fun j u hj => ?_) (one_mem Dk.encS_ok _)
  cases j with
  | zero => simp [Dk.encS] at hj; subst hj; rw [add_at]; simpa using cell_of_row _ _ 0 _ _ _ h
  | succ j => simp [Dk.encS] at hj
theorem bidx' (b : B) (k : Nat) (h : k < b.length) (w : World) : (Instr.index 9 (.string (bstr b)) (.int .i64 (k : Int))).run Tryz.prog w = .ok (.int .u8 ((bt b k : Nat) : Int)) w := bidx b k h w

set_option maxRecDepth 10000 in
set_option maxHeartbeats 2000000 in
theorem scan_any (b : B) (w : World) (hb : b.length ≤ 1000000000) :
    Calls Tryz.prog 39 #[.string (bstr b)] w (ScanPost (scanB b) w) := by
  obtain ⟨i0, hi0, hz0, hz1, hz2'⟩ := info_parts info_strs
  obtain ⟨R, hR⟩ : ∃ R, R = scanB b := ⟨_, rfl⟩
  rw [← hR]
  have HR := Bx.mk (show scanA b [] 0 = R from hR.symm)
  clear hR
  have hsz : (bstr b).size = b.length := bstr_size b
  have HIX := Lib.hid (bidx' b)
  have HSL := Lib.hid (slice_b b)
  generalize hbs : bstr b = bs at *
  have HBS := Bx.mk hbs
  clear hbs
  go_enter Tryz.func39, Tryz.ntmps39
  go_wp2_with fail
  go_loopw [5, 6, 7, 8, 9] (fun v a _ _ _ wr => ∃ (out : List B) (at_ : Nat), at_ ≤ b.length ∧ out.length ≤ 4096 ∧ a = .int .i64 (at_ : Int) ∧ scanA b out at_ = R ∧ Own wr w.heap.size 9 1 Dk.encS v out ∧ Below w.heap.size w wr) (fun _ a _ _ _ _ => b.length - (intOf a).toNat)
  case atStart => exact ⟨[], 0, by omega, by simp, rfl, HR.out, Own.nil _ _, Below.refl _ _⟩
  case round =>
    obtain ⟨out, at_, hat, hol, rfl, hsc, hown, hbel⟩ := hrel
    have HO := Lib.hid hown
    have HB := Lib.hid hbel
    obtain ⟨av, cv, hfv, -⟩ := hown.rd.form
    subst hfv
    by_cases h1 : b.length < at_ + 4
    · have t1 : decide ((b.length : Int) - (at_ : Int) ≥ 4) = false := by rw [decide_eq_false_iff_not]; omega
      rw [scan_end b out at_ h1] at hsc
      have HSC := Bx.mk hsc
      clear hsc hown hbel
      go_wp2_with fail
      go_ret3
      unfold ScanPost
      rw [← HSC.out]
      exact ⟨_, rfl, HO.out, HB.out⟩
    · have t1 : decide ((b.length : Int) - (at_ : Int) ≥ 4) = true := by rw [decide_eq_true_eq]; omega
      have HSC := Bx.mk hsc
      clear hsc hown hbel
      obtain ⟨wo, rfl⟩ : ∃ wo : World, wo = wr := ⟨_, rfl⟩
      go_wp2_with fail
      go_loop [7, 8, 15] (fun s _ i => ∃ k : Nat, k ≤ 4 ∧ i = .int .i64 (k : Int) ∧ s = .int .i64 (numK b at_ k : Int)) (fun _ _ i => 4 - (intOf i).toNat)
      case atStart => exact ⟨0, by omega, rfl, rfl⟩
      case round =>
        obtain ⟨k, hk, rfl, rfl⟩ := hrel
        by_cases hlt : k < 4
        · have hix := HIX.out (at_ + k) (by omega)
          rw [show ((at_ + k : Nat) : Int) = (at_ : Int) + (k : Int) by omega] at hix
          have hor := i64_or_byte (numK b at_ k) (bt b (at_ + k)) (by have := numK_le b at_ k hk; omega) (bt_lt b _)
          have HOR := Bx.mk (show (256 * numK b at_ k + bt b (at_ + k)) = numK b at_ (k + 1) from rfl)
          have q1 := numK_le b at_ k hk
          have q2 := bt_lt b (at_ + k)
          rw [HOR.out] at hor
          have HORR := Bx.mk hor
          clear hor
          generalize hn1 : numK b at_ (k + 1) = n1 at *
          have HN1 := Bx.mk hn1
          clear hn1
          generalize numK b at_ k = n0 at *
          generalize bt b (at_ + k) = b0 at *
          go_wp2_with fail
          go_round
          case rel => exact ⟨k + 1, by omega, by go_num, by rw [HN1.out, HORR.out]⟩
          case measure => simp [intOf]; omega
        · obtain rfl : k = 4 := by omega
          have hnl := numK_le b at_ 4 (by omega)
          obtain ⟨n, hn⟩ : ∃ n, n = num4 b at_ := ⟨_, rfl⟩
          rw [show numK b at_ 4 = n from hn.symm] at hnl ⊢
          have HN := Bx.mk hn
          clear hn
          by_cases h2 : 65536 < n
          · have t2 : decide ((n : Int) > 65536) = true := by rw [decide_eq_true_eq]; omega
            have hr : none = R := by rw [← HSC.out, scan_big b out at_ h1 (by rw [← HN.out]; exact h2)]
            have HRR := Bx.mk hr
            clear hr
            go_wp2_with fail
            go_ret3
            unfold ScanPost
            rw [← HRR.out]
            exact ⟨rfl, HB.out⟩
          · have t2 : decide ((n : Int) > 65536) = false := by rw [decide_eq_false_iff_not]; omega
            by_cases h3 : b.length < at_ + (8 + n)
            · have t3 : decide ((b.length : Int) - (at_ : Int) < 8 + (n : Int)) = true := by rw [decide_eq_true_eq]; omega
              have hr : some (out, at_) = R := by rw [← HSC.out, scan_part b out at_ h1 (by rw [← HN.out]; exact h2) (by rw [← HN.out]; exact h3)]
              have HRR := Bx.mk hr
              clear hr
              go_wp2_with fail
              go_ret3
              unfold ScanPost
              rw [← HRR.out]
              exact ⟨_, rfl, HO.out, HB.out⟩
            · have t3 : decide ((b.length : Int) - (at_ : Int) < 8 + (n : Int)) = false := by rw [decide_eq_false_iff_not]; omega
              have s1 := HSL.out (at_ + 8) (at_ + 8 + n) (by omega) (by omega)
              have s2 := HSL.out at_ (at_ + 8 + n) (by omega) (by omega)
              rw [show at_ + 8 + n - (at_ + 8) = n by omega] at s1
              rw [show at_ + 8 + n - at_ = 8 + n by omega] at s2
              rw [show ((at_ + 8 : Nat) : Int) = (at_ : Int) + 8 by omega, show ((at_ + 8 + n : Nat) : Int) = (at_ : Int) + 8 + (n : Int) by omega] at s1
              rw [show ((at_ + 8 + n : Nat) : Int) = (at_ : Int) + 8 + (n : Int) by omega] at s2
              obtain ⟨d, hd⟩ : ∃ d, d = (b.drop (at_ + 8)).take n := ⟨_, rfl⟩
              obtain ⟨r, hr⟩ : ∃ r, r = (b.drop at_).take (8 + n) := ⟨_, rfl⟩
              rw [← hd] at s1
              rw [← hr] at s2
              have hdl : d.length = n := by rw [hd, List.length_take, List.length_drop]; omega
              have hd' : d = dat b at_ := by rw [hd, HN.out]; rfl
              have hr' : r = rec_ b at_ := by rw [hr, HN.out]; rfl
              have HD := Bx.mk hd'
              have HRC := Bx.mk hr'
              have c1 := fun W => frame_any out.length d W (by omega) (by omega)
              have tq : ((bstr r).toList == (bstr (frameB out.length d)).toList) = decide (r = frameB out.length d) := by
                rw [ByteArray.toList_eq, ByteArray.toList_eq, bstr_list, bstr_list]
                by_cases q : r = frameB out.length d
                · rw [q]; simp
                · rw [decide_eq_false q]; simpa using q
              have C1 := Lib.hid c1
              clear hd hr hd' hr' c1 hdl
              generalize hfb : bstr (frameB out.length d) = fb at *
              clear hfb
              generalize bstr r = rb at *
              by_cases h4 : r = frameB out.length d
              · rw [decide_eq_true h4] at tq
                by_cases h5 : out.length = 4096
                · have t5 : ((out.length : Int) == 4096) = true := by simp; omega
                  have hrn : none = R := by rw [← HSC.out, scan_bad b out at_ h1 (by rw [← HN.out]; exact h2) (by rw [← HN.out]; exact h3) (.inr h5)]
                  have HRR := Bx.mk hrn
                  clear hrn h4 h5
                  generalize bstr d = db at *
                  go_wp2_with fail
                  refine wp_region_self (by kernel_rfl) (by kernel_rfl) ?_
                  repeat (go_big_quiet_step (fail))
                  go_big_quiet_step ((go_at_call 55; exact ext_of (C1.out _)))
                  repeat (go_big_quiet_step (fail))
                  refine wpQuiet_nil ?_
                  rintro _ ⟨e1, rfl⟩
                  have HB2 := Lib.hid (HB.out.trans (e1.bel.mono HB.out.size))
                  go_wp2_with fail
                  go_ret3
                  unfold ScanPost
                  rw [← HRR.out]
                  exact ⟨rfl, HB2.out⟩
                · have t5 : ((out.length : Int) == 4096) = false := by simp; omega
                  have hnx := scan_next b out at_ h1 (by rw [← HN.out]; exact h2) (by rw [← HN.out]; exact h3) (by rw [← HD.out, ← HRC.out]; exact h4) h5
                  rw [HSC.out, ← HN.out, ← HD.out] at hnx
                  have HNX := Bx.mk hnx
                  have hol2 : out.length < 4096 := by omega
                  have ha2 : at_ + (8 + n) ≤ b.length := by omega
                  have HM := Lib.hid (show b.length - (at_ + (8 + n)) < b.length - at_ by omega)
                  clear hnx h4 h5
                  have hwz := HB.out.size
                  have hapd : ∀ e : Ext wo, ∃ _ : w.heap.size ≤ e.out.heap.size, (e.out.alloc (.cells #[.string (bstr d)] 9)).ownsRow w.heap.size 9 1 (.slice av out.length cv) out.length (out.flatMap Dk.encS) ∧ SrcV (e.out.alloc (.cells #[.string (bstr d)] 9)) 1 (.slice (some ⟨e.out.heap.size, 0, none⟩) 1 1) 1 ([d].flatMap Dk.encS) :=
                    fun e => ⟨Nat.le_trans hwz e.bel.size, (HO.out.below e.bel).below ((Below.refl _ _).alloc (Nat.le_refl _) _), src_str (heap_alloc_new _ _)⟩
                  have HA := Lib.hid hapd
                  clear hapd
                  generalize hdb : bstr d = db at *
                  have HDB := Bx.mk hdb
                  clear hdb
                  go_wp2_with fail
                  refine wp_region_self (by kernel_rfl) (by kernel_rfl) ?_
                  repeat (go_big_quiet_step (fail))
                  go_big_quiet_step ((go_at_call 55; exact ext_of (C1.out _)))
                  repeat (go_big_quiet_step (fail))
                  refine wpQuiet_nil ?_
                  rintro _ ⟨e1, rfl⟩
                  obtain ⟨hz, ho, hs⟩ := HA.out e1
                  have hz2 : w.heap.size ≤ (e1.out.alloc (.cells #[.string db] 9)).heap.size := by simp; omega
                  have HB2 := Lib.hid ((HB.out.trans (e1.bel.mono HB.out.size)).alloc hz (.cells #[.string db] 9))
                  have HOO := Lib.hid ho
                  go_wp2_with (at_builtin; refine wpList_append_any rfl _ _ _ rfl w.heap.size 9 i0 _ 1 16 und_strs hi0 hz0 hz1 hz2' rfl (by decide) _ out.length (out.flatMap Dk.encS) rfl ho _ 1 ([d].flatMap Dk.encS) rfl hs (by unfold maxLen; omega) (by omega) hz2 ?_)
                  intro v3 w3 hap
                  have ho3 : Own w3 w.heap.size 9 1 Dk.encS v3 (out ++ [d]) := Own.apd (l := out) (m := [d]) HOO.out rfl rfl rfl rfl hap
                  have HO3 := Lib.hid ho3
                  have HB3 := Lib.hid (HB2.out.trans ((Fr.grown (F := fun k => w.heap.size ≤ k) hap.grown fun k hk _ => (World.ownsRow.lt HOO.out k hk).1).toBelow hz2 fun k hk => hk))
                  clear ho3 hap ho hs hz
                  go_wp2_with fail
                  go_roundw
                  case rel => exact ⟨out ++ [d], at_ + (8 + n), ha2, by simp; omega, by congr 1, HNX.out.symm, HO3.out, HB3.out⟩
                  case measure => have := HM.out; simp [intOf]; omega
              · rw [decide_eq_false h4] at tq
                have hrn : none = R := by rw [← HSC.out, scan_bad b out at_ h1 (by rw [← HN.out]; exact h2) (by rw [← HN.out]; exact h3) (.inl (by rw [← HD.out, ← HRC.out]; exact h4))]
                have HRR := Bx.mk hrn
                clear hrn h4
                generalize bstr d = db at *
                go_wp2_with fail
                refine wp_region_self (by kernel_rfl) (by kernel_rfl) ?_
                repeat (go_big_quiet_step (fail))
                go_big_quiet_step ((go_at_call 55; exact ext_of (C1.out _)))
                repeat (go_big_quiet_step (fail))
                refine wpQuiet_nil ?_
                rintro _ ⟨e1, rfl⟩
                have HB2 := Lib.hid (HB.out.trans (e1.bel.mono HB.out.size))
                go_wp2_with fail
                go_ret3
                unfold ScanPost
                rw [← HRR.out]
                exact ⟨rfl, HB2.out⟩
end Go.Proofs.YtbfgkcgnhgfkmaaGreat.Wl

namespace Go.Proofs.YtbfgkcgnhgfkmaaGreat.Wl
open Go Go.RowKit Go.Proofs.YtbfgkcgnhgfkmaaGreat.Slc Go.Proofs.YtbfgkcgnhgfkmaaGreat.Hs
open Go.Proofs.YtbfgkcgnhgfkmaaGreat.Dk (Fr ptr bstr bstr_size bstr_list)
set_option linter.unusedVariables false
set_option linter.unusedSimpArgs false

theorem or4 (a b c d : Nat) (ha : a < 256) (hb : b < 256) (hc : c < 256) (hd : d < 256) :
    bits .or .i64 (bits .or .i64 (bits .or .i64 ((a : Int) * 16777216) ((b : Int) * 65536)) ((c : Int) * 256)) (d : Int) = ((256 * (256 * (256 * (256 * 0 + a) + b) + c) + d : Nat) : Int) := by
  have e1 : a * 16777216 ||| b * 65536 = a * 16777216 + b * 65536 := by
    have := Nat.shiftLeft_add_eq_or_of_lt (i := 24) (b := b * 65536) (by omega) a
    rw [Nat.shiftLeft_eq] at this
    exact this.symm
  have e2 : (a * 256 + b) * 65536 ||| c * 256 = (a * 256 + b) * 65536 + c * 256 := by
    have := Nat.shiftLeft_add_eq_or_of_lt (i := 16) (b := c * 256) (by omega) (a * 256 + b)
    rw [Nat.shiftLeft_eq] at this
    exact this.symm
  have e3 : ((a * 256 + b) * 256 + c) * 256 ||| d = ((a * 256 + b) * 256 + c) * 256 + d := by
    have := Nat.shiftLeft_add_eq_or_of_lt (i := 8) (b := d) (by omega) ((a * 256 + b) * 256 + c)
    rw [Nat.shiftLeft_eq] at this
    exact this.symm
  rw [show (a : Int) * 16777216 = ((a * 16777216 : Nat) : Int) by omega, show (b : Int) * 65536 = ((b * 65536 : Nat) : Int) by omega, show (c : Int) * 256 = ((c * 256 : Nat) : Int) by omega]
  rw [bits_or_i64_nat _ _ (by omega) (by omega), e1, show a * 16777216 + b * 65536 = (a * 256 + b) * 65536 by omega]
  rw [bits_or_i64_nat _ _ (by omega) (by omega), e2, show (a * 256 + b) * 65536 + c * 256 = ((a * 256 + b) * 256 + c) * 256 by omega]
  rw [bits_or_i64_nat _ _ (by omega) (by omega), e3]
  congr 1
  omega

set_option maxRecDepth 10000 in
set_option maxHeartbeats 2000000 in
theorem rscan_any (b : B) (w : World) (hb : b.length ≤ 1000000000) :
    Calls Tryz.prog 48 #[.string (bstr b)] w (ScanPost (scanB b) w) := by
  obtain ⟨i0, hi0, hz0, hz1, hz2'⟩ := info_parts info_strs
  obtain ⟨R, hR⟩ : ∃ R, R = scanB b := ⟨_, rfl⟩
  rw [← hR]
  have HR := Bx.mk (show scanA b [] 0 = R from hR.symm)
  clear hR
  have hsz : (bstr b).size = b.length := bstr_size b
  have HIX := Lib.hid (bidx' b)
  have HSL := Lib.hid (slice_b b)
  generalize hbs : bstr b = bs at *
  have HBS := Bx.mk hbs
  clear hbs
  go_enter Tryz.func48, Tryz.ntmps48
  go_wp2_with fail
  go_loopw [5, 6, 7, 8, 9, 10] (fun v a _ _ _ _ wr => ∃ (out : List B) (at_ : Nat), at_ ≤ b.length ∧ out.length ≤ 4096 ∧ a = .int .i64 (at_ : Int) ∧ scanA b out at_ = R ∧ Own wr w.heap.size 9 1 Dk.encS v out ∧ Below w.heap.size w wr) (fun _ a _ _ _ _ _ => b.length - (intOf a).toNat)
  case atStart => exact ⟨[], 0, by omega, by simp, rfl, HR.out, Own.nil _ _, Below.refl _ _⟩
  case round =>
    obtain ⟨out, at_, hat, hol, rfl, hsc, hown, hbel⟩ := hrel
    have HO := Lib.hid hown
    have HB := Lib.hid hbel
    obtain ⟨av, cv, hfv, -⟩ := hown.rd.form
    subst hfv
    by_cases h1 : b.length < at_ + 4
    · have t1 : decide ((b.length : Int) - (at_ : Int) ≥ 4) = false := by rw [decide_eq_false_iff_not]; omega
      rw [scan_end b out at_ h1] at hsc
      have HSC := Bx.mk hsc
      clear hsc hown hbel
      go_wp2_with fail
      go_ret3
      unfold ScanPost
      rw [← HSC.out]
      exact ⟨_, rfl, HO.out, HB.out⟩
    · have t1 : decide ((b.length : Int) - (at_ : Int) ≥ 4) = true := by rw [decide_eq_true_eq]; omega
      have HSC := Bx.mk hsc
      clear hsc hown hbel
      obtain ⟨wo, rfl⟩ : ∃ wo : World, wo = wr := ⟨_, rfl⟩
      have x0 := HIX.out at_ (by omega)
      have x1 := HIX.out (at_ + 1) (by omega)
      have x2 := HIX.out (at_ + 2) (by omega)
      have x3 := HIX.out (at_ + 3) (by omega)
      rw [show ((at_ + 1 : Nat) : Int) = (at_ : Int) + 1 by omega] at x1
      rw [show ((at_ + 2 : Nat) : Int) = (at_ : Int) + 2 by omega] at x2
      rw [show ((at_ + 3 : Nat) : Int) = (at_ : Int) + 3 by omega] at x3
      have q0 := bt_lt b at_
      have q1 := bt_lt b (at_ + 1)
      have q2 := bt_lt b (at_ + 2)
      have q3 := bt_lt b (at_ + 3)
      have hor := or4 (bt b at_) (bt b (at_ + 1)) (bt b (at_ + 2)) (bt b (at_ + 3)) q0 q1 q2 q3
      have hnum : 256 * (256 * (256 * (256 * 0 + bt b at_) + bt b (at_ + 1)) + bt b (at_ + 2)) + bt b (at_ + 3) = num4 b at_ := rfl
      rw [hnum] at hor
      have hnl := numK_le b at_ 4 (by omega)
      rw [show numK b at_ 4 = num4 b at_ from rfl] at hnl
      have y0 : 0 ≤ (bt b at_ : Int) := by omega
      have z0 : (bt b at_ : Int) ≤ 255 := by omega
      have y1 : 0 ≤ (bt b (at_ + 1) : Int) := by omega
      have z1 : (bt b (at_ + 1) : Int) ≤ 255 := by omega
      have y2 : 0 ≤ (bt b (at_ + 2) : Int) := by omega
      have z2 : (bt b (at_ + 2) : Int) ≤ 255 := by omega
      have y3 : 0 ≤ (bt b (at_ + 3) : Int) := by omega
      have z3 : (bt b (at_ + 3) : Int) ≤ 255 := by omega
      have atI : (at_ : Int) ≤ 1000000000 := by omega
      clear hnum q0 q1 q2 q3
      generalize (bt b at_ : Int) = b0 at *
      generalize (bt b (at_ + 1) : Int) = b1 at *
      generalize (bt b (at_ + 2) : Int) = b2 at *
      generalize (bt b (at_ + 3) : Int) = b3 at *
      have v1 : IntKind.i64.wrap ((at_ : Int) + 1) = (at_ : Int) + 1 := IntWalk.i64_in _ (by omega)
      have v2 : IntKind.i64.wrap ((at_ : Int) + 2) = (at_ : Int) + 2 := IntWalk.i64_in _ (by omega)
      have v3 : IntKind.i64.wrap ((at_ : Int) + 3) = (at_ : Int) + 3 := IntWalk.i64_in _ (by omega)
      obtain ⟨n, hn⟩ : ∃ n, n = num4 b at_ := ⟨_, rfl⟩
      rw [← hn] at hor hnl
      have HN := Bx.mk hn
      clear hn
      by_cases h2 : 65536 < n
      · have t2 : decide ((n : Int) > 65536) = true := by rw [decide_eq_true_eq]; omega
        have hr : none = R := by rw [← HSC.out, scan_big b out at_ h1 (by rw [← HN.out]; exact h2)]
        have HRR := Bx.mk hr
        have HBE := Lib.hid (fun m => (show Below w.heap.size w (wo.drewN m) from ⟨HB.out.os, HB.out.tape, HB.out.output, HB.out.size, HB.out.block⟩))
        clear hr
        go_wp2_with fail
        go_quiet (fail)
        clear v1 v2 v3 x0 x1 x2 x3 y0 y1 y2 y3 z0 z1 z2 z3
        go_wp2_with fail
        go_ret3
        unfold ScanPost
        rw [← HRR.out]
        exact ⟨rfl, HBE.out _⟩
      · have t2 : decide ((n : Int) > 65536) = false := by rw [decide_eq_false_iff_not]; omega
        have HBE := Lib.hid (fun m => (show Below w.heap.size w (wo.drewN m) from ⟨HB.out.os, HB.out.tape, HB.out.output, HB.out.size, HB.out.block⟩))
        have HOE := Lib.hid (fun m => (show Own (wo.drewN m) w.heap.size 9 1 Dk.encS (.slice av out.length cv) out from HO.out))
        by_cases h3 : b.length < at_ + (8 + n)
        · have t3 : decide ((b.length : Int) - (at_ : Int) < 8 + (n : Int)) = true := by rw [decide_eq_true_eq]; omega
          have hr : some (out, at_) = R := by rw [← HSC.out, scan_part b out at_ h1 (by rw [← HN.out]; exact h2) (by rw [← HN.out]; exact h3)]
          have HRR := Bx.mk hr
          clear hr
          go_wp2_with fail
          go_quiet (fail)
          clear v1 v2 v3 x0 x1 x2 x3 y0 y1 y2 y3 z0 z1 z2 z3
          go_wp2_with fail
          go_ret3
          unfold ScanPost
          rw [← HRR.out]
          exact ⟨_, rfl, HOE.out _, HBE.out _⟩
        · have t3 : decide ((b.length : Int) - (at_ : Int) < 8 + (n : Int)) = false := by rw [decide_eq_false_iff_not]; omega
          have s1 := HSL.out (at_ + 8) (at_ + 8 + n) (by omega) (by omega)
          have s2 := HSL.out at_ (at_ + 8 + n) (by omega) (by omega)
          rw [show at_ + 8 + n - (at_ + 8) = n by omega] at s1
          rw [show at_ + 8 + n - at_ = 8 + n by omega] at s2
          rw [show ((at_ + 8 : Nat) : Int) = (at_ : Int) + 8 by omega, show ((at_ + 8 + n : Nat) : Int) = (at_ : Int) + 8 + (n : Int) by omega] at s1
          rw [show ((at_ + 8 + n : Nat) : Int) = (at_ : Int) + 8 + (n : Int) by omega] at s2
          obtain ⟨d, hd⟩ : ∃ d, d = (b.drop (at_ + 8)).take n := ⟨_, rfl⟩
          obtain ⟨r, hr⟩ : ∃ r, r = (b.drop at_).take (8 + n) := ⟨_, rfl⟩
          rw [← hd] at s1
          rw [← hr] at s2
          have hdl : d.length = n := by rw [hd, List.length_take, List.length_drop]; omega
          have hd' : d = dat b at_ := by rw [hd, HN.out]; rfl
          have hr' : r = rec_ b at_ := by rw [hr, HN.out]; rfl
          have HD := Bx.mk hd'
          have HRC := Bx.mk hr'
          have c1 := fun W => rFrame_any out.length d W (by omega) (by omega)
          have hfr : frameR (out.length : Int) d = (frameB out.length d, 0) := by unfold frameR; rw [if_neg (by omega), if_neg (by omega), Int.toNat_natCast]
          rw [hfr] at c1
          have tq : ((bstr (frameB out.length d)).toList == (bstr r).toList) = decide (r = frameB out.length d) := by
            rw [ByteArray.toList_eq, ByteArray.toList_eq, bstr_list, bstr_list]
            by_cases q : r = frameB out.length d
            · rw [q]; simp
            · rw [decide_eq_false q]; simpa using fun e => q e.symm
          have C1 := Lib.hid c1
          clear hd hr hd' hr' c1 hdl hfr
          generalize hfb : bstr (frameB out.length d) = fb at *
          clear hfb
          generalize bstr r = rb at *
          by_cases h45 : r = frameB out.length d ∧ out.length ≠ 4096
          · obtain ⟨h4, h5⟩ := h45
            rw [decide_eq_true h4] at tq
            have t5 : ((out.length : Int) == 4096) = false := by simp; omega
            have hnx := scan_next b out at_ h1 (by rw [← HN.out]; exact h2) (by rw [← HN.out]; exact h3) (by rw [← HD.out, ← HRC.out]; exact h4) h5
            rw [HSC.out, ← HN.out, ← HD.out] at hnx
            have HNX := Bx.mk hnx
            have hol2 : out.length < 4096 := by omega
            have ha2 : at_ + (8 + n) ≤ b.length := by omega
            have HM := Lib.hid (show b.length - (at_ + (8 + n)) < b.length - at_ by omega)
            clear hnx h4 h5
            have hwz := HB.out.size
            generalize hdb : bstr d = db at *
            have HDB := Bx.mk hdb
            clear hdb
            go_wp2_with fail
            go_quiet (fail)
            clear v1 v2 v3 x0 x1 x2 x3 y0 y1 y2 y3 z0 z1 z2 z3
            go_wp2_with fail
            go_at_call 53
            refine (C1.out _).mono ?_
            rintro e w2 ⟨rfl, hb2⟩
            have HBA := Lib.hid (show Below w.heap.size w w2 from (HBE.out _).trans (hb2.mono (HBE.out _).size))
            have ho := ((HOE.out _).below hb2).below (w' := w2.alloc (.cells #[.string db] 9)) ((Below.refl _ _).alloc (Nat.le_refl _) _)
            have hs : SrcV (w2.alloc (.cells #[.string db] 9)) 1 (.slice (some ⟨w2.heap.size, 0, none⟩) 1 1) 1 ([d].flatMap Dk.encS) := src_str (by rw [HDB.out]; exact heap_alloc_new _ _)
            have hz2 : w.heap.size ≤ (w2.alloc (.cells #[.string db] 9)).heap.size := by have := HBA.out.size; simp; omega
            have HOO := Lib.hid ho
            clear hb2
            go_wp2_with (at_builtin; refine wpList_append_any rfl _ _ _ rfl w.heap.size 9 i0 _ 1 16 und_strs hi0 hz0 hz1 hz2' rfl (by decide) _ out.length (out.flatMap Dk.encS) rfl ho _ 1 ([d].flatMap Dk.encS) rfl hs (by unfold maxLen; omega) (by omega) hz2 ?_)
            intro v3 w3 hap
            have ho3 : Own w3 w.heap.size 9 1 Dk.encS v3 (out ++ [d]) := Own.apd (l := out) (m := [d]) HOO.out rfl rfl rfl rfl hap
            have HO3 := Lib.hid ho3
            have HB3 := Lib.hid ((HBA.out.alloc HBA.out.size (.cells #[.string db] 9)).trans ((Fr.grown (F := fun k => w.heap.size ≤ k) hap.grown fun k hk _ => (World.ownsRow.lt HOO.out k hk).1).toBelow hz2 fun k hk => hk))
            clear ho3 hap ho hs
            go_wp2_with fail
            go_roundw
            case rel => exact ⟨out ++ [d], at_ + (8 + n), ha2, by simp; omega, by congr 1, HNX.out.symm, HO3.out, HB3.out⟩
            case measure => have := HM.out; simp [intOf]; omega
          · have hrn : none = R := by
              rw [← HSC.out, scan_bad b out at_ h1 (by rw [← HN.out]; exact h2) (by rw [← HN.out]; exact h3)]
              by_cases q : r = frameB out.length d
              · exact .inr (by by_cases q2 : out.length = 4096; exact q2; exact absurd ⟨q, q2⟩ h45)
              · exact .inl (by rw [← HD.out, ← HRC.out]; exact q)
            have HRR := Bx.mk hrn
            have t45 : (r = frameB out.length d ∧ ((out.length : Int) == 4096) = true) ∨ ¬ r = frameB out.length d := by
              by_cases q : r = frameB out.length d
              · exact .inl ⟨q, by by_cases q2 : out.length = 4096; simp; omega; exact absurd ⟨q, q2⟩ h45⟩
              · exact .inr q
            clear hrn h45
            generalize bstr d = db at *
            rcases t45 with ⟨q, t5⟩ | q
            · rw [decide_eq_true q] at tq
              clear q
              go_wp2_with fail
              go_quiet (fail)
              clear v1 v2 v3 x0 x1 x2 x3 y0 y1 y2 y3 z0 z1 z2 z3
              go_wp2_with fail
              go_at_call 53
              refine (C1.out _).mono ?_
              rintro e w2 ⟨rfl, hb2⟩
              have HBA := Lib.hid (show Below w.heap.size w w2 from (HBE.out _).trans (hb2.mono (HBE.out _).size))
              clear hb2
              go_wp2_with fail
              go_ret3
              unfold ScanPost
              rw [← HRR.out]
              exact ⟨rfl, HBA.out⟩
            · rw [decide_eq_false q] at tq
              clear q
              go_wp2_with fail
              go_quiet (fail)
              clear v1 v2 v3 x0 x1 x2 x3 y0 y1 y2 y3 z0 z1 z2 z3
              go_wp2_with fail
              go_at_call 53
              refine (C1.out _).mono ?_
              rintro e w2 ⟨rfl, hb2⟩
              have HBA := Lib.hid (show Below w.heap.size w w2 from (HBE.out _).trans (hb2.mono (HBE.out _).size))
              clear hb2
              go_wp2_with fail
              go_ret3
              unfold ScanPost
              rw [← HRR.out]
              exact ⟨rfl, HBA.out⟩
end Go.Proofs.YtbfgkcgnhgfkmaaGreat.Wl
